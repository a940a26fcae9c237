/-
  Walks, written by program: each Go function computes the plain function of its name, in whatever world its arguments' facts hold.
-/
import Derived.Test.YticlfbpmfejdoaaWPu2
namespace Go.Proofs.Yticlfbpmfejdoaa
open Go.RowKit Go.Lab
attribute [local irreducible] WP CP NX wpList Code.wp Calls
set_option maxRecDepth 100000
set_option maxHeartbeats 4000000
set_option linter.unusedVariables false

def N.baizelaw47_PursePays_0 : List (List Nat) := [[], [], [0, 1], [], [], [0, 1, 2, 3, 4], [], [0, 1, 2, 3, 4, 5, 6], [], [], [], [0, 1, 2, 3, 4, 5, 6, 7, 8, 9, 10], [0, 1, 2, 3, 4, 5, 6, 7, 8, 9, 10, 11], [0, 1, 2, 3, 4, 5, 6, 7, 8, 9, 10, 11, 12]]
def F.baizelaw47_PursePays.c3 (q6 : Bool) : Option (Bool) := (some q6)
def F.baizelaw47_PursePays.c2 (d5 : Arr Int 3) (d6 : Arr Int 3) (q4 : Bool) : Option (Bool) := (if q4 = true then (some false) else (if decide ((aget d5 0) ≤ (aget d6 0)) = true then (if decide ((aget d5 1) ≤ (aget d6 1)) = true then (if decide ((aget d5 2) ≥ (aget d6 2)) = true then ((F.baizelaw47_told).bind fun q7 => (F.baizelaw47_PursePays.c3 q7)) else (F.baizelaw47_PursePays.c3 false)) else (F.baizelaw47_PursePays.c3 false)) else (F.baizelaw47_PursePays.c3 false)))
def N.baizelaw47_PursePays_1 : List (List Nat) := [[], [0], [], [2], [0, 1, 2, 3], [], [5], [0, 1, 2, 3, 4, 5, 6], [], [8], [0, 1, 2, 3, 4, 5, 6, 7, 8, 9], [0, 1, 2, 3, 4, 5, 6, 7, 8, 9, 10], [0, 1, 2, 3, 4, 5, 6, 7, 8, 9, 10, 11], [0, 1, 2, 3, 4, 5, 6, 7, 8, 9, 10, 11, 12], [0, 1, 2, 3, 4, 5, 6, 7, 8, 9, 10, 11], [0, 1, 2, 3, 4, 5, 6, 7, 8, 9, 10, 11, 14], [0, 1, 2, 3, 4, 5, 6, 7, 8, 9, 10, 11, 12, 13, 14, 15], [0, 1, 2, 3, 4, 5, 6, 7, 8, 9, 10, 11], [0, 1, 2, 3, 4, 5, 6, 7, 8, 9, 10, 11, 17], [0, 1, 2, 3, 4, 5, 6, 7, 8, 9, 10, 11, 12, 13, 14, 15, 16, 17, 18], [0, 1, 2, 3, 4, 5, 6, 7, 8, 9, 10, 11], [0, 1, 2, 3, 4, 5, 6, 7, 8, 9, 10, 11, 20], [0, 1, 2, 3, 4, 5, 6, 7, 8, 9, 10, 11, 12, 13, 14, 15, 16, 17, 18, 19, 20, 21], [0, 1, 2, 3, 4, 5, 6, 7, 8, 9, 10, 11, 12, 13, 14, 15, 16, 17, 18, 19, 20, 21, 22], [0, 1, 2, 3, 4, 5, 6, 7, 8, 9, 10, 11, 12, 13, 14, 15, 16, 17, 18, 19, 20, 21, 22, 23], [0, 1, 2, 3, 4, 5, 6, 7, 8, 9, 10, 11, 12, 13, 14, 15, 16, 17, 18, 19, 20, 21, 22, 23, 24], [0, 1, 2, 3, 4, 5, 6, 7, 8, 9, 10, 11, 12, 13, 14, 15, 16, 17, 18, 19, 20, 21, 22, 23, 24, 25], [0, 1, 2, 3, 4, 5, 6, 7, 8, 9, 10, 11, 12, 13, 14, 15, 16, 17, 18, 19, 20, 21, 22, 23, 24], [0, 1, 2, 3, 4, 5, 6, 7, 8, 9, 10, 11, 12, 13, 14, 15, 16, 17, 18, 19, 20, 21, 22, 23, 24, 27], [0, 1, 2, 3, 4, 5, 6, 7, 8, 9, 10, 11, 12, 13, 14, 15, 16, 17, 18, 19, 20, 21, 22, 23, 24, 25, 26, 27, 28], [0, 1, 2, 3, 4, 5, 6, 7, 8, 9, 10, 11, 12, 13, 14, 15, 16, 17, 18, 19, 20, 21, 22, 23, 24], [0, 1, 2, 3, 4, 5, 6, 7, 8, 9, 10, 11, 12, 13, 14, 15, 16, 17, 18, 19, 20, 21, 22, 23, 24, 30], [0, 1, 2, 3, 4, 5, 6, 7, 8, 9, 10, 11, 12, 13, 14, 15, 16, 17, 18, 19, 20, 21, 22, 23, 24, 25, 26, 27, 28, 29, 30, 31], [0, 1, 2, 3, 4, 5, 6, 7, 8, 9, 10, 11, 12, 13, 14, 15, 16, 17, 18, 19, 20, 21, 22, 23, 24, 25, 26, 27, 28, 29, 30, 31, 32], [0, 1, 2, 3, 4, 5, 6, 7, 8, 9, 10, 11, 12, 13, 14, 15, 16, 17, 18, 19, 20, 21, 22, 23, 24, 25, 26, 27, 28, 29, 30, 31, 32, 33], [0, 1, 2, 3, 4, 5, 6, 7, 8, 9, 10, 11, 12, 13, 14, 15, 16, 17, 18, 19, 20, 21, 22, 23, 24, 25, 26, 27, 28, 29, 30, 31, 32, 33, 34], [0, 1, 2, 3, 4, 5, 6, 7, 8, 9, 10, 11, 12, 13, 14, 15, 16, 17, 18, 19, 20, 21, 22, 23, 24, 25, 26, 27, 28, 29, 30, 31, 32, 33, 34, 35], [0, 1, 2, 3, 4, 5, 6, 7, 8, 9, 10, 11, 12, 13, 14, 15, 16, 17, 18, 19, 20, 21, 22, 23, 24, 25, 26, 27, 28, 29, 30, 31, 32, 33, 34, 35, 36], [0, 1, 2, 3, 4, 5, 6, 7, 8, 9, 10, 11, 12, 13, 14, 15, 16, 17, 18, 19, 20, 21, 22, 23, 24, 25, 26, 27, 28, 29, 30, 31, 32, 33, 34, 35, 36, 37]]
def F.baizelaw47_PursePays.c1 (d1 : Arr Int 8) (x1 : Int) (d2 : Arr Int 2) (l1 : List S_baizeref47_Held) (x2 : Int) (x3 : Int) (q2 : Bool) : Option (Bool) := (if q2 = true then ((F.baizelaw47_told).bind fun q3 => (some q3)) else ((F.baizelaw47_Own d1 x1 d2 l1).bind fun (d3, x4, d4, l2) => ((F.purse_Purse_Pays d3 x4 d4 l2 x2).bind fun d5 => ((F.purse_Purse_Pays d3 x4 d4 l2 x3).bind fun d6 => ((F.purse_Purse_Pays d3 x4 d4 l2 2199023255552).bind fun d7 => ((F.purse_Purse_Total d3 x4 d4 l2).bind fun x8 => (if ((IntKind.i64.wrap ((IntKind.i64.wrap ((aget d5 0) + (aget d5 1))) + (aget d5 2))) != x8) = true then (F.baizelaw47_PursePays.c2 d5 d6 true) else ((F.purse_Purse_Total d3 x4 d4 l2).bind fun x9 => (if ((IntKind.i64.wrap ((IntKind.i64.wrap ((aget d6 0) + (aget d6 1))) + (aget d6 2))) != x9) = true then (F.baizelaw47_PursePays.c2 d5 d6 true) else ((F.purse_Purse_Total d3 x4 d4 l2).bind fun x10 => (if ((IntKind.i64.wrap ((aget d7 0) + (aget d7 1))) != x10) = true then (F.baizelaw47_PursePays.c2 d5 d6 true) else (F.baizelaw47_PursePays.c2 d5 d6 ((aget d7 2) != 0)))))))))))))
def F.baizelaw47_PursePays (d1 : Arr Int 8) (x1 : Int) (d2 : Arr Int 2) (l1 : List S_baizeref47_Held) (x2 : Int) (x3 : Int) : Option (Bool) := ((F.baizelaw47_great d1 x1 d2 l1).bind fun q8 => (if q8 = true then (F.baizelaw47_PursePays.c1 d1 x1 d2 l1 x2 x3 true) else (F.baizelaw47_PursePays.c1 d1 x1 d2 l1 x2 x3 (decide (x3 < x2)))))
theorem P.baizelaw47_PursePays (g0 : GW) (d1 : Arr Int 8) (x1 : Int) (d2 : Arr Int 2) (l1 : List S_baizeref47_Held) (x2 : Int) (x3 : Int) (a1 : Option Addr) (n1 : Nat) (c1 : Nat) (hR1 : RdS k_S_baizeref47_Held g0 60 a1 n1 c1 l1) (o1 : Bool) (hs : F.baizelaw47_PursePays d1 x1 d2 l1 x2 x3 = some o1) :
    Calls Try.prog 3 #[AG [encA .u8 d1, [.int .i64 x1], encA .i64 d2, [.slice a1 n1 c1]], .int .i64 x2, .int .i64 x3] g0.w (Ret NoM g0 fun v g => v = .bool o1) := by
  refine calls_of (args := [AG [encA .u8 d1, [.int .i64 x1], encA .i64 d2, [.slice a1 n1 c1]], .int .i64 x2, .int .i64 x3]) Try.func3 rfl (0) ?_
  intro t ht htL
  refine ⟨_, rfl, ?_⟩
  refine CP.refr 90 [(0, AG [encA .u8 d1, [.int .i64 x1], encA .i64 d2, [.slice a1 n1 c1]]), (1, .int .i64 x2), (2, .int .i64 x3)] (by kernel_rfl) (by kernel_rfl) ?_
  intro ds
  have tot : Step (fun l => NoM l ∨ t ≤ l) g0 g0 := Step.refl _ _
  unfold F.baizelaw47_PursePays at hs
  refine CP.seqR ?_
  refine WP.alloc (T := 26) (t + 1) [encA .u8 d1, [.int .i64 x1], encA .i64 d2, [.slice a1 n1 c1]] [8, 1, 2, 1] (by kernel_rfl) (by simp [len_encA]) ?_
  intro g1 b1 st1 hB1
  replace hR1 := hR1.mono st1 (fun x => x)
  replace tot := tot.trans st1.pure
  refine WP.still 1 (by kernel_rfl) ?_
  refine WP.done (by kernel_rfl) ?_
  refine NX.then_n ?_
  refine CP.seq ?_
  refine CP.cut (fun tm g => ∃ (q2 : Bool), Fr 90 [(1, .int .i64 x2), (2, .int .i64 x3), (3, .pointer (some ⟨b1, 0, none⟩)), (17, .bool q2)] tm ∧ Step (fun l => NoM l ∨ t ≤ l) g0 g ∧ Box g (t + 1) b1 26 [encA .u8 d1, [.int .i64 x1], encA .i64 d2, [.slice a1 n1 c1]] [8, 1, 2, 1] ∧ RdS k_S_baizeref47_Held g 60 a1 n1 c1 l1 ∧ (F.baizelaw47_PursePays.c1 d1 x1 d2 l1 x2 x3 q2) = some o1) ?_ ?_
  · refine CP.region ?_
    refine WP.loadB (v := AG [encA .u8 d1, [.int .i64 x1], encA .i64 d2, [.slice a1 n1 c1]]) hB1 (by kernel_rfl) (by kernel_rfl) ?_
    replace hs := Option.bind_eq_some_iff.1 hs
    obtain ⟨q8, hk15, hs⟩ := hs
    have hcal15 := P.baizelaw47_great g1 d1 x1 d2 l1 a1 n1 c1 hR1 q8 hk15
    refine WP.callC hcal15 (by kernel_rfl) ?_
    rintro _ g38 st38 rfl
    replace hB1 := hB1.mono st38 (fun x => x)
    replace hR1 := hR1.mono st38 (fun x => x)
    replace tot := tot.trans st38.pure
    refine WP.still 1 (by kernel_rfl) ?_
    refine WP.guard 13 (b := q8) (by kernel_rfl) (fun h16 => ?_) (fun h16 => ?_)
    · replace hs := of_if_t hs h16
      refine WP.still 4 (by kernel_rfl) ?_
      refine WP.done (by kernel_rfl) ?_
      refine NX.post ?_
      exact ⟨true, ⟨by kernel_rfl, by kernel_rfl⟩, tot, hB1, hR1, hs⟩
    replace hs := of_if_f hs h16
    refine WP.still 4 (by kernel_rfl) ?_
    refine WP.done (by kernel_rfl) ?_
    refine NX.post ?_
    exact ⟨decide (x3 < x2), ⟨by kernel_rfl, by kernel_rfl⟩, tot, hB1, hR1, hs⟩
  clear tot hs hB1 hR1
  rintro tm g ⟨q2, hF, tot, hB1, hR1, hs⟩
  clear ds
  obtain ⟨ds, rfl⟩ := hF.open
  clear hF
  unfold F.baizelaw47_PursePays.c1 at hs
  refine CP.cond (b := q2) (by kernel_rfl) (fun h2 => ?_) (fun h2 => ?_)
  · replace hs := of_if_t hs h2
    refine CP.seqR ?_
    replace hs := Option.bind_eq_some_iff.1 hs
    obtain ⟨q3, hk2, hs⟩ := hs
    have hcal2 := P.baizelaw47_told g q3 hk2
    refine WP.callC hcal2 (by kernel_rfl) ?_
    rintro _ g3 st3 rfl
    replace hB1 := hB1.mono st3 (fun x => x)
    replace hR1 := hR1.mono st3 (fun x => x)
    replace tot := tot.trans st3.pure
    refine WP.still 1 (by kernel_rfl) ?_
    refine WP.done (by kernel_rfl) ?_
    refine NX.then_n ?_
    refine CP.ret ?_
    refine NX.then_r ?_
    replace hs := Option.some.inj hs
    obtain rfl := hs
    exact NX.fin (v := .bool q3) (Res.still (by kernel_rfl)) tot htL rfl
  replace hs := of_if_f hs h2
  refine CP.skip ?_
  refine NX.then_n ?_
  refine CP.seqR ?_
  refine WP.loadB (v := AG [encA .u8 d1, [.int .i64 x1], encA .i64 d2, [.slice a1 n1 c1]]) hB1 (by kernel_rfl) (by kernel_rfl) ?_
  replace hs := Option.bind_eq_some_iff.1 hs
  obtain ⟨⟨d3, x4, d4, l2⟩, hk3, hs⟩ := hs
  dsimp only at hs
  have hcal3 := P.baizelaw47_Own g (t + 2) d1 x1 d2 l1 a1 n1 c1 hR1 d3 x4 d4 l2 hk3
  refine WP.callC hcal3 (by kernel_rfl) ?_
  rintro _ g4 st4 ⟨a2, n2, c2, rfl, hR2⟩
  replace hB1 := hB1.mono st4 (fun x => x)
  replace hR1 := hR1.mono st4 (fun x => x)
  replace tot := tot.trans st4.pure
  refine WP.alloc (T := 32) (t + 3) [encA .u8 (zA 8), [.int .i64 0], encA .i64 (zA 2), [.slice none 0 0]] [8, 1, 2, 1] (by kernel_rfl) (by simp [len_encA]) ?_
  intro g5 b2 st5 hB2
  replace hB1 := hB1.mono st5 (fun x => x)
  replace hR1 := hR1.mono st5 (fun x => x)
  replace hR2 := hR2.mono st5 (fun x => x) (fun x => x)
  replace tot := tot.trans st5.pure
  refine WP.storeB (ty := 32) (off := 0) (v := AG [encA .u8 d3, [.int .i64 x4], encA .i64 d4, [.slice a2 n2 c2]]) hB2 [encA .u8 d3, [.int .i64 x4], encA .i64 d4, [.slice a2 n2 c2]] [8, 1, 2, 1] (by kernel_rfl) (by kernel_rfl) (by simp [len_encA]) (by kernel_rfl) [encA .u8 d3, [.int .i64 x4], encA .i64 d4, [.slice a2 n2 c2]] (by kernel_rfl) (.arr (.one rfl (.arr (.one rfl .nil)))) ?_
  intro g6 st6 hB3
  replace hB1 := hB1.mono st6 (WL.no1 (by omega))
  replace hR1 := hR1.mono st6 (WL.no1 (by omega))
  replace hR2 := hR2.mono st6 (WL.no1 (by omega)) (WL.no1 (by omega))
  replace tot := tot.trans (st6.up1 (.inr (by omega)))
  clear hB2
  have hB2 := hB3
  clear hB3
  refine WP.done (by kernel_rfl) ?_
  refine NX.then_n ?_
  refine CP.seq ?_
  replace hs := Option.bind_eq_some_iff.1 hs
  obtain ⟨d5, hk4, hs⟩ := hs
  replace hs := Option.bind_eq_some_iff.1 hs
  obtain ⟨d6, hk5, hs⟩ := hs
  replace hs := Option.bind_eq_some_iff.1 hs
  obtain ⟨d7, hk6, hs⟩ := hs
  refine CP.drawL (by kernel_rfl) [0, 2, 3, 5, 6, 7, 8, 9, 10, 11, 12, 13] N.baizelaw47_PursePays_0 [⟨none, [], [], fun l g => Box g (t + 3) b2 32 [encA .u8 d3, [.int .i64 x4], encA .i64 d4, [.slice a2 n2 c2]] [8, 1, 2, 1]⟩, ⟨none, [0], [], fun l g => OwnS k_S_purse_Held g (t + 2) 56 a2 n2 c2 l2⟩, ⟨some 0, [], [0], fun l g => l.getD 0 undef = AG [encA .u8 d3, [.int .i64 x4], encA .i64 d4, [.slice a2 n2 c2]]⟩, ⟨some 1, [], [1], fun l g => l.getD 0 undef = AG [encA .i64 d5]⟩, ⟨some 1, [0], [], fun l g => OwnS k_S_purse_Held g (t + 2) 56 a2 n2 c2 l2⟩, ⟨some 2, [], [2], fun l g => l.getD 0 undef = AG [encA .u8 d3, [.int .i64 x4], encA .i64 d4, [.slice a2 n2 c2]]⟩, ⟨some 3, [], [3], fun l g => l.getD 0 undef = AG [encA .i64 d6]⟩, ⟨some 3, [0], [], fun l g => OwnS k_S_purse_Held g (t + 2) 56 a2 n2 c2 l2⟩, ⟨some 4, [], [4], fun l g => l.getD 0 undef = AG [encA .u8 d3, [.int .i64 x4], encA .i64 d4, [.slice a2 n2 c2]]⟩, ⟨some 5, [], [5], fun l g => l.getD 0 undef = AG [encA .i64 d7]⟩, ⟨some 5, [0], [], fun l g => OwnS k_S_purse_Held g (t + 2) 56 a2 n2 c2 l2⟩, ⟨some 6, [1], [6], fun l g => ∃ (b3 : Nat), l.getD 0 undef = .pointer (some ⟨b3, 0, none⟩) ∧ Box g (t + 4) b3 34 [encA .i64 (zA 3)] [3]⟩, ⟨some 7, [2], [7], fun l g => ∃ (b4 : Nat), l.getD 0 undef = .pointer (some ⟨b4, 0, none⟩) ∧ Box g (t + 5) b4 34 [encA .i64 (zA 3)] [3]⟩, ⟨some 8, [3], [8], fun l g => ∃ (b5 : Nat), l.getD 0 undef = .pointer (some ⟨b5, 0, none⟩) ∧ Box g (t + 6) b5 34 [encA .i64 (zA 3)] [3]⟩, ⟨some 9, [1], [6], fun l g => ∃ (b3 : Nat), l.getD 0 undef = .pointer (some ⟨b3, 0, none⟩) ∧ Box g (t + 4) b3 34 [encA .i64 d5] [3]⟩, ⟨some 10, [2], [7], fun l g => ∃ (b4 : Nat), l.getD 0 undef = .pointer (some ⟨b4, 0, none⟩) ∧ Box g (t + 5) b4 34 [encA .i64 d6] [3]⟩, ⟨some 11, [3], [8], fun l g => ∃ (b5 : Nat), l.getD 0 undef = .pointer (some ⟨b5, 0, none⟩) ∧ Box g (t + 6) b5 34 [encA .i64 d7] [3]⟩] [[], [0], [], [0], [], [0], [], [], [], [1], [2], [3]] [(t + 2), (t + 4), (t + 5), (t + 6)] [1, 4] [] (by kernel_rfl) (by simp <;> omega) (by simp <;> omega) ⟨fun _ _ _ _ st h0 hl hj hB2 => (hB2.mono st (fun h => absurd (hl _ h) (by simp <;> omega))), fun _ _ _ _ st h0 hl hj hR2 => (hR2.mono st h0 (hj 0 (by simp) _ rfl)), fun _ _ _ _ st h0 hl hj e0 => e0, fun _ _ _ _ st h0 hl hj e1 => e1, fun _ _ _ _ st h0 hl hj hR2 => (hR2.mono st h0 (hj 0 (by simp) _ rfl)), fun _ _ _ _ st h0 hl hj e2 => e2, fun _ _ _ _ st h0 hl hj e3 => e3, fun _ _ _ _ st h0 hl hj hR2 => (hR2.mono st h0 (hj 0 (by simp) _ rfl)), fun _ _ _ _ st h0 hl hj e4 => e4, fun _ _ _ _ st h0 hl hj e5 => e5, fun _ _ _ _ st h0 hl hj hR2 => (hR2.mono st h0 (hj 0 (by simp) _ rfl)), fun _ _ _ _ st h0 hl hj ⟨b3, e6, hB4⟩ => ⟨b3, e6, (hB4.mono st (hj 1 (by simp) _ rfl))⟩, fun _ _ _ _ st h0 hl hj ⟨b4, e7, hB5⟩ => ⟨b4, e7, (hB5.mono st (hj 2 (by simp) _ rfl))⟩, fun _ _ _ _ st h0 hl hj ⟨b5, e8, hB6⟩ => ⟨b5, e8, (hB6.mono st (hj 3 (by simp) _ rfl))⟩, fun _ _ _ _ st h0 hl hj ⟨b3, e6, hB4⟩ => ⟨b3, e6, (hB4.mono st (hj 1 (by simp) _ rfl))⟩, fun _ _ _ _ st h0 hl hj ⟨b4, e7, hB5⟩ => ⟨b4, e7, (hB5.mono st (hj 2 (by simp) _ rfl))⟩, fun _ _ _ _ st h0 hl hj ⟨b5, e8, hB6⟩ => ⟨b5, e8, (hB6.mono st (hj 3 (by simp) _ rfl))⟩, trivial⟩ ⟨hB2, hR2, trivial, trivial, trivial, trivial, trivial, trivial, trivial, trivial, trivial, trivial, trivial, trivial, trivial, trivial, trivial, trivial⟩ (by kernel_rfl) (fun vs => by kernel_rfl) ?_ ?_ ?_
  · intro j hj; exact absurd hj (by simp)
  · intro j hj
    have hq : j = 0 ∨ j = 1 ∨ j = 2 ∨ j = 3 ∨ j = 4 ∨ j = 5 ∨ j = 6 ∨ j = 7 ∨ j = 8 ∨ j = 9 ∨ j = 10 ∨ j = 11 := by have h : j < 12 := hj; omega
    rcases hq with rfl | rfl | rfl | rfl | rfl | rfl | rfl | rfl | rfl | rfl | rfl | rfl
    · intro vs gq stq hl hf
      replace hl : vs.length = 12 := hl
      obtain ⟨v0, vs0, rfl, hl0⟩ := len_succ hl
      obtain ⟨v1, vs1, rfl, hl1⟩ := len_succ hl0
      obtain ⟨v2, vs2, rfl, hl2⟩ := len_succ hl1
      obtain ⟨v3, vs3, rfl, hl3⟩ := len_succ hl2
      obtain ⟨v4, vs4, rfl, hl4⟩ := len_succ hl3
      obtain ⟨v5, vs5, rfl, hl5⟩ := len_succ hl4
      obtain ⟨v6, vs6, rfl, hl6⟩ := len_succ hl5
      obtain ⟨v7, vs7, rfl, hl7⟩ := len_succ hl6
      obtain ⟨v8, vs8, rfl, hl8⟩ := len_succ hl7
      obtain ⟨v9, vs9, rfl, hl9⟩ := len_succ hl8
      obtain ⟨v10, vs10, rfl, hl10⟩ := len_succ hl9
      obtain ⟨v11, vs11, rfl, hl11⟩ := len_succ hl10
      obtain rfl := len_zero hl11
      have hB2 := (show Box gq (t + 3) b2 32 [encA .u8 d3, [.int .i64 x4], encA .i64 d4, [.slice a2 n2 c2]] [8, 1, 2, 1] from hf _ (List.mem_of_getElem? (i := 0) rfl) (by kernel_rfl))
      refine WP.loadB (v := AG [encA .u8 d3, [.int .i64 x4], encA .i64 d4, [.slice a2 n2 c2]]) hB2 (by kernel_rfl) (by kernel_rfl) ?_
      refine WP.done (by kernel_rfl) (Shown.ok (v := AG [encA .u8 d3, [.int .i64 x4], encA .i64 d4, [.slice a2 n2 c2]]) (by kernel_rfl) (Step.refl _ _) ?_)
      exact ⟨trivial, trivial, rfl, trivial, trivial, trivial, trivial, trivial, trivial, trivial, trivial, trivial, trivial, trivial, trivial, trivial, trivial, trivial⟩
    · intro vs gq stq hl hf
      replace hl : vs.length = 12 := hl
      obtain ⟨v0, vs0, rfl, hl0⟩ := len_succ hl
      obtain ⟨v1, vs1, rfl, hl1⟩ := len_succ hl0
      obtain ⟨v2, vs2, rfl, hl2⟩ := len_succ hl1
      obtain ⟨v3, vs3, rfl, hl3⟩ := len_succ hl2
      obtain ⟨v4, vs4, rfl, hl4⟩ := len_succ hl3
      obtain ⟨v5, vs5, rfl, hl5⟩ := len_succ hl4
      obtain ⟨v6, vs6, rfl, hl6⟩ := len_succ hl5
      obtain ⟨v7, vs7, rfl, hl7⟩ := len_succ hl6
      obtain ⟨v8, vs8, rfl, hl8⟩ := len_succ hl7
      obtain ⟨v9, vs9, rfl, hl9⟩ := len_succ hl8
      obtain ⟨v10, vs10, rfl, hl10⟩ := len_succ hl9
      obtain ⟨v11, vs11, rfl, hl11⟩ := len_succ hl10
      obtain rfl := len_zero hl11
      have hR2 := (show OwnS k_S_purse_Held gq (t + 2) 56 a2 n2 c2 l2 from hf _ (List.mem_of_getElem? (i := 1) rfl) (by kernel_rfl))
      have e0 := (show v0 = AG [encA .u8 d3, [.int .i64 x4], encA .i64 d4, [.slice a2 n2 c2]] from hf _ (List.mem_of_getElem? (i := 2) rfl) (by kernel_rfl))
      subst e0
      have hS1 : 0 ∉ ([(t + 2)] : List Nat) := by simp <;> omega
      have stl1 := GW.lend_step gq [(t + 2)]
      have hRl1 := hR2.lendTo hS1 (by simp)
      refine WP.regw (g' := GW.lend gq [(t + 2)]) rfl ?_
      have hcal4 := P.purse_Purse_Pays (GW.lend gq [(t + 2)]) d3 x4 d4 l2 x2 a2 n2 c2 hRl1 d5 hk4
      refine WP.callC hcal4 (by kernel_rfl) ?_
      rintro _ g7 st7 rfl
      have st8 := (GW.back_step st7).lentS
      have hO1 := hR2.backTo hS1 (by simp) st7 (fun x => x)
      refine WP.regw (g' := GW.back gq g7 [(t + 2)]) rfl ?_
      generalize GW.back gq g7 [(t + 2)] = g8 at *
      refine WP.done (by kernel_rfl) (Shown.ok (v := AG [encA .i64 d5]) (by kernel_rfl) st8 ?_)
      exact ⟨trivial, trivial, trivial, rfl, hO1, trivial, trivial, trivial, trivial, trivial, trivial, trivial, trivial, trivial, trivial, trivial, trivial, trivial⟩
    · intro vs gq stq hl hf
      replace hl : vs.length = 12 := hl
      obtain ⟨v0, vs0, rfl, hl0⟩ := len_succ hl
      obtain ⟨v1, vs1, rfl, hl1⟩ := len_succ hl0
      obtain ⟨v2, vs2, rfl, hl2⟩ := len_succ hl1
      obtain ⟨v3, vs3, rfl, hl3⟩ := len_succ hl2
      obtain ⟨v4, vs4, rfl, hl4⟩ := len_succ hl3
      obtain ⟨v5, vs5, rfl, hl5⟩ := len_succ hl4
      obtain ⟨v6, vs6, rfl, hl6⟩ := len_succ hl5
      obtain ⟨v7, vs7, rfl, hl7⟩ := len_succ hl6
      obtain ⟨v8, vs8, rfl, hl8⟩ := len_succ hl7
      obtain ⟨v9, vs9, rfl, hl9⟩ := len_succ hl8
      obtain ⟨v10, vs10, rfl, hl10⟩ := len_succ hl9
      obtain ⟨v11, vs11, rfl, hl11⟩ := len_succ hl10
      obtain rfl := len_zero hl11
      have hB2 := (show Box gq (t + 3) b2 32 [encA .u8 d3, [.int .i64 x4], encA .i64 d4, [.slice a2 n2 c2]] [8, 1, 2, 1] from hf _ (List.mem_of_getElem? (i := 0) rfl) (by kernel_rfl))
      refine WP.loadB (v := AG [encA .u8 d3, [.int .i64 x4], encA .i64 d4, [.slice a2 n2 c2]]) hB2 (by kernel_rfl) (by kernel_rfl) ?_
      refine WP.done (by kernel_rfl) (Shown.ok (v := AG [encA .u8 d3, [.int .i64 x4], encA .i64 d4, [.slice a2 n2 c2]]) (by kernel_rfl) (Step.refl _ _) ?_)
      exact ⟨trivial, trivial, trivial, trivial, trivial, rfl, trivial, trivial, trivial, trivial, trivial, trivial, trivial, trivial, trivial, trivial, trivial, trivial⟩
    · intro vs gq stq hl hf
      replace hl : vs.length = 12 := hl
      obtain ⟨v0, vs0, rfl, hl0⟩ := len_succ hl
      obtain ⟨v1, vs1, rfl, hl1⟩ := len_succ hl0
      obtain ⟨v2, vs2, rfl, hl2⟩ := len_succ hl1
      obtain ⟨v3, vs3, rfl, hl3⟩ := len_succ hl2
      obtain ⟨v4, vs4, rfl, hl4⟩ := len_succ hl3
      obtain ⟨v5, vs5, rfl, hl5⟩ := len_succ hl4
      obtain ⟨v6, vs6, rfl, hl6⟩ := len_succ hl5
      obtain ⟨v7, vs7, rfl, hl7⟩ := len_succ hl6
      obtain ⟨v8, vs8, rfl, hl8⟩ := len_succ hl7
      obtain ⟨v9, vs9, rfl, hl9⟩ := len_succ hl8
      obtain ⟨v10, vs10, rfl, hl10⟩ := len_succ hl9
      obtain ⟨v11, vs11, rfl, hl11⟩ := len_succ hl10
      obtain rfl := len_zero hl11
      have hR2 := (show OwnS k_S_purse_Held gq (t + 2) 56 a2 n2 c2 l2 from hf _ (List.mem_of_getElem? (i := 4) rfl) (by kernel_rfl))
      have e2 := (show v2 = AG [encA .u8 d3, [.int .i64 x4], encA .i64 d4, [.slice a2 n2 c2]] from hf _ (List.mem_of_getElem? (i := 5) rfl) (by kernel_rfl))
      subst e2
      have hS2 : 0 ∉ ([(t + 2)] : List Nat) := by simp <;> omega
      have stl2 := GW.lend_step gq [(t + 2)]
      have hRl2 := hR2.lendTo hS2 (by simp)
      refine WP.regw (g' := GW.lend gq [(t + 2)]) rfl ?_
      have hcal5 := P.purse_Purse_Pays (GW.lend gq [(t + 2)]) d3 x4 d4 l2 x3 a2 n2 c2 hRl2 d6 hk5
      refine WP.callC hcal5 (by kernel_rfl) ?_
      rintro _ g9 st9 rfl
      have st10 := (GW.back_step st9).lentS
      have hO2 := hR2.backTo hS2 (by simp) st9 (fun x => x)
      refine WP.regw (g' := GW.back gq g9 [(t + 2)]) rfl ?_
      generalize GW.back gq g9 [(t + 2)] = g10 at *
      refine WP.done (by kernel_rfl) (Shown.ok (v := AG [encA .i64 d6]) (by kernel_rfl) st10 ?_)
      exact ⟨trivial, trivial, trivial, trivial, trivial, trivial, rfl, hO2, trivial, trivial, trivial, trivial, trivial, trivial, trivial, trivial, trivial, trivial⟩
    · intro vs gq stq hl hf
      replace hl : vs.length = 12 := hl
      obtain ⟨v0, vs0, rfl, hl0⟩ := len_succ hl
      obtain ⟨v1, vs1, rfl, hl1⟩ := len_succ hl0
      obtain ⟨v2, vs2, rfl, hl2⟩ := len_succ hl1
      obtain ⟨v3, vs3, rfl, hl3⟩ := len_succ hl2
      obtain ⟨v4, vs4, rfl, hl4⟩ := len_succ hl3
      obtain ⟨v5, vs5, rfl, hl5⟩ := len_succ hl4
      obtain ⟨v6, vs6, rfl, hl6⟩ := len_succ hl5
      obtain ⟨v7, vs7, rfl, hl7⟩ := len_succ hl6
      obtain ⟨v8, vs8, rfl, hl8⟩ := len_succ hl7
      obtain ⟨v9, vs9, rfl, hl9⟩ := len_succ hl8
      obtain ⟨v10, vs10, rfl, hl10⟩ := len_succ hl9
      obtain ⟨v11, vs11, rfl, hl11⟩ := len_succ hl10
      obtain rfl := len_zero hl11
      have hB2 := (show Box gq (t + 3) b2 32 [encA .u8 d3, [.int .i64 x4], encA .i64 d4, [.slice a2 n2 c2]] [8, 1, 2, 1] from hf _ (List.mem_of_getElem? (i := 0) rfl) (by kernel_rfl))
      refine WP.loadB (v := AG [encA .u8 d3, [.int .i64 x4], encA .i64 d4, [.slice a2 n2 c2]]) hB2 (by kernel_rfl) (by kernel_rfl) ?_
      refine WP.done (by kernel_rfl) (Shown.ok (v := AG [encA .u8 d3, [.int .i64 x4], encA .i64 d4, [.slice a2 n2 c2]]) (by kernel_rfl) (Step.refl _ _) ?_)
      exact ⟨trivial, trivial, trivial, trivial, trivial, trivial, trivial, trivial, rfl, trivial, trivial, trivial, trivial, trivial, trivial, trivial, trivial, trivial⟩
    · intro vs gq stq hl hf
      replace hl : vs.length = 12 := hl
      obtain ⟨v0, vs0, rfl, hl0⟩ := len_succ hl
      obtain ⟨v1, vs1, rfl, hl1⟩ := len_succ hl0
      obtain ⟨v2, vs2, rfl, hl2⟩ := len_succ hl1
      obtain ⟨v3, vs3, rfl, hl3⟩ := len_succ hl2
      obtain ⟨v4, vs4, rfl, hl4⟩ := len_succ hl3
      obtain ⟨v5, vs5, rfl, hl5⟩ := len_succ hl4
      obtain ⟨v6, vs6, rfl, hl6⟩ := len_succ hl5
      obtain ⟨v7, vs7, rfl, hl7⟩ := len_succ hl6
      obtain ⟨v8, vs8, rfl, hl8⟩ := len_succ hl7
      obtain ⟨v9, vs9, rfl, hl9⟩ := len_succ hl8
      obtain ⟨v10, vs10, rfl, hl10⟩ := len_succ hl9
      obtain ⟨v11, vs11, rfl, hl11⟩ := len_succ hl10
      obtain rfl := len_zero hl11
      have hR2 := (show OwnS k_S_purse_Held gq (t + 2) 56 a2 n2 c2 l2 from hf _ (List.mem_of_getElem? (i := 7) rfl) (by kernel_rfl))
      have e4 := (show v4 = AG [encA .u8 d3, [.int .i64 x4], encA .i64 d4, [.slice a2 n2 c2]] from hf _ (List.mem_of_getElem? (i := 8) rfl) (by kernel_rfl))
      subst e4
      have hS3 : 0 ∉ ([(t + 2)] : List Nat) := by simp <;> omega
      have stl3 := GW.lend_step gq [(t + 2)]
      have hRl3 := hR2.lendTo hS3 (by simp)
      refine WP.regw (g' := GW.lend gq [(t + 2)]) rfl ?_
      have hcal6 := P.purse_Purse_Pays (GW.lend gq [(t + 2)]) d3 x4 d4 l2 2199023255552 a2 n2 c2 hRl3 d7 hk6
      refine WP.callC hcal6 (by kernel_rfl) ?_
      rintro _ g11 st11 rfl
      have st12 := (GW.back_step st11).lentS
      have hO3 := hR2.backTo hS3 (by simp) st11 (fun x => x)
      refine WP.regw (g' := GW.back gq g11 [(t + 2)]) rfl ?_
      generalize GW.back gq g11 [(t + 2)] = g12 at *
      refine WP.done (by kernel_rfl) (Shown.ok (v := AG [encA .i64 d7]) (by kernel_rfl) st12 ?_)
      exact ⟨trivial, trivial, trivial, trivial, trivial, trivial, trivial, trivial, trivial, rfl, hO3, trivial, trivial, trivial, trivial, trivial, trivial, trivial⟩
    · intro vs gq stq hl hf
      replace hl : vs.length = 12 := hl
      obtain ⟨v0, vs0, rfl, hl0⟩ := len_succ hl
      obtain ⟨v1, vs1, rfl, hl1⟩ := len_succ hl0
      obtain ⟨v2, vs2, rfl, hl2⟩ := len_succ hl1
      obtain ⟨v3, vs3, rfl, hl3⟩ := len_succ hl2
      obtain ⟨v4, vs4, rfl, hl4⟩ := len_succ hl3
      obtain ⟨v5, vs5, rfl, hl5⟩ := len_succ hl4
      obtain ⟨v6, vs6, rfl, hl6⟩ := len_succ hl5
      obtain ⟨v7, vs7, rfl, hl7⟩ := len_succ hl6
      obtain ⟨v8, vs8, rfl, hl8⟩ := len_succ hl7
      obtain ⟨v9, vs9, rfl, hl9⟩ := len_succ hl8
      obtain ⟨v10, vs10, rfl, hl10⟩ := len_succ hl9
      obtain ⟨v11, vs11, rfl, hl11⟩ := len_succ hl10
      obtain rfl := len_zero hl11
      refine WP.alloc (T := 34) (t + 4) [encA .i64 (zA 3)] [3] (by kernel_rfl) (by simp [len_encA]) ?_
      intro g13 b3 st13 hB4
      refine WP.done (by kernel_rfl) (Shown.ok (v := .pointer (some ⟨b3, 0, none⟩)) (by kernel_rfl) st13.pure ?_)
      exact ⟨trivial, trivial, trivial, trivial, trivial, trivial, trivial, trivial, trivial, trivial, trivial, ⟨b3, rfl, hB4⟩, trivial, trivial, trivial, trivial, trivial, trivial⟩
    · intro vs gq stq hl hf
      replace hl : vs.length = 12 := hl
      obtain ⟨v0, vs0, rfl, hl0⟩ := len_succ hl
      obtain ⟨v1, vs1, rfl, hl1⟩ := len_succ hl0
      obtain ⟨v2, vs2, rfl, hl2⟩ := len_succ hl1
      obtain ⟨v3, vs3, rfl, hl3⟩ := len_succ hl2
      obtain ⟨v4, vs4, rfl, hl4⟩ := len_succ hl3
      obtain ⟨v5, vs5, rfl, hl5⟩ := len_succ hl4
      obtain ⟨v6, vs6, rfl, hl6⟩ := len_succ hl5
      obtain ⟨v7, vs7, rfl, hl7⟩ := len_succ hl6
      obtain ⟨v8, vs8, rfl, hl8⟩ := len_succ hl7
      obtain ⟨v9, vs9, rfl, hl9⟩ := len_succ hl8
      obtain ⟨v10, vs10, rfl, hl10⟩ := len_succ hl9
      obtain ⟨v11, vs11, rfl, hl11⟩ := len_succ hl10
      obtain rfl := len_zero hl11
      refine WP.alloc (T := 34) (t + 5) [encA .i64 (zA 3)] [3] (by kernel_rfl) (by simp [len_encA]) ?_
      intro g14 b4 st14 hB5
      refine WP.done (by kernel_rfl) (Shown.ok (v := .pointer (some ⟨b4, 0, none⟩)) (by kernel_rfl) st14.pure ?_)
      exact ⟨trivial, trivial, trivial, trivial, trivial, trivial, trivial, trivial, trivial, trivial, trivial, trivial, ⟨b4, rfl, hB5⟩, trivial, trivial, trivial, trivial, trivial⟩
    · intro vs gq stq hl hf
      replace hl : vs.length = 12 := hl
      obtain ⟨v0, vs0, rfl, hl0⟩ := len_succ hl
      obtain ⟨v1, vs1, rfl, hl1⟩ := len_succ hl0
      obtain ⟨v2, vs2, rfl, hl2⟩ := len_succ hl1
      obtain ⟨v3, vs3, rfl, hl3⟩ := len_succ hl2
      obtain ⟨v4, vs4, rfl, hl4⟩ := len_succ hl3
      obtain ⟨v5, vs5, rfl, hl5⟩ := len_succ hl4
      obtain ⟨v6, vs6, rfl, hl6⟩ := len_succ hl5
      obtain ⟨v7, vs7, rfl, hl7⟩ := len_succ hl6
      obtain ⟨v8, vs8, rfl, hl8⟩ := len_succ hl7
      obtain ⟨v9, vs9, rfl, hl9⟩ := len_succ hl8
      obtain ⟨v10, vs10, rfl, hl10⟩ := len_succ hl9
      obtain ⟨v11, vs11, rfl, hl11⟩ := len_succ hl10
      obtain rfl := len_zero hl11
      refine WP.alloc (T := 34) (t + 6) [encA .i64 (zA 3)] [3] (by kernel_rfl) (by simp [len_encA]) ?_
      intro g15 b5 st15 hB6
      refine WP.done (by kernel_rfl) (Shown.ok (v := .pointer (some ⟨b5, 0, none⟩)) (by kernel_rfl) st15.pure ?_)
      exact ⟨trivial, trivial, trivial, trivial, trivial, trivial, trivial, trivial, trivial, trivial, trivial, trivial, trivial, ⟨b5, rfl, hB6⟩, trivial, trivial, trivial, trivial⟩
    · intro vs gq stq hl hf
      replace hl : vs.length = 12 := hl
      obtain ⟨v0, vs0, rfl, hl0⟩ := len_succ hl
      obtain ⟨v1, vs1, rfl, hl1⟩ := len_succ hl0
      obtain ⟨v2, vs2, rfl, hl2⟩ := len_succ hl1
      obtain ⟨v3, vs3, rfl, hl3⟩ := len_succ hl2
      obtain ⟨v4, vs4, rfl, hl4⟩ := len_succ hl3
      obtain ⟨v5, vs5, rfl, hl5⟩ := len_succ hl4
      obtain ⟨v6, vs6, rfl, hl6⟩ := len_succ hl5
      obtain ⟨v7, vs7, rfl, hl7⟩ := len_succ hl6
      obtain ⟨v8, vs8, rfl, hl8⟩ := len_succ hl7
      obtain ⟨v9, vs9, rfl, hl9⟩ := len_succ hl8
      obtain ⟨v10, vs10, rfl, hl10⟩ := len_succ hl9
      obtain ⟨v11, vs11, rfl, hl11⟩ := len_succ hl10
      obtain rfl := len_zero hl11
      have e1 := (show v1 = AG [encA .i64 d5] from hf _ (List.mem_of_getElem? (i := 3) rfl) (by kernel_rfl))
      subst e1
      obtain ⟨b3, e6, hB4⟩ := (show ∃ (b3 : Nat), v6 = .pointer (some ⟨b3, 0, none⟩) ∧ Box gq (t + 4) b3 34 [encA .i64 (zA 3)] [3] from hf _ (List.mem_of_getElem? (i := 11) rfl) (by kernel_rfl))
      subst e6
      refine WP.storeB (ty := 34) (off := 0) (v := AG [encA .i64 d5]) hB4 [encA .i64 d5] [3] (by kernel_rfl) (by kernel_rfl) (by simp [len_encA]) (by kernel_rfl) [encA .i64 d5] (by kernel_rfl) (.arr .nil) ?_
      intro g16 st16 hB7
      refine WP.done (by kernel_rfl) (Shown.ok (v := undef) (by kernel_rfl) st16 ?_)
      exact ⟨trivial, trivial, trivial, trivial, trivial, trivial, trivial, trivial, trivial, trivial, trivial, trivial, trivial, trivial, ⟨b3, rfl, hB7⟩, trivial, trivial, trivial⟩
    · intro vs gq stq hl hf
      replace hl : vs.length = 12 := hl
      obtain ⟨v0, vs0, rfl, hl0⟩ := len_succ hl
      obtain ⟨v1, vs1, rfl, hl1⟩ := len_succ hl0
      obtain ⟨v2, vs2, rfl, hl2⟩ := len_succ hl1
      obtain ⟨v3, vs3, rfl, hl3⟩ := len_succ hl2
      obtain ⟨v4, vs4, rfl, hl4⟩ := len_succ hl3
      obtain ⟨v5, vs5, rfl, hl5⟩ := len_succ hl4
      obtain ⟨v6, vs6, rfl, hl6⟩ := len_succ hl5
      obtain ⟨v7, vs7, rfl, hl7⟩ := len_succ hl6
      obtain ⟨v8, vs8, rfl, hl8⟩ := len_succ hl7
      obtain ⟨v9, vs9, rfl, hl9⟩ := len_succ hl8
      obtain ⟨v10, vs10, rfl, hl10⟩ := len_succ hl9
      obtain ⟨v11, vs11, rfl, hl11⟩ := len_succ hl10
      obtain rfl := len_zero hl11
      have e3 := (show v3 = AG [encA .i64 d6] from hf _ (List.mem_of_getElem? (i := 6) rfl) (by kernel_rfl))
      subst e3
      obtain ⟨b4, e7, hB5⟩ := (show ∃ (b4 : Nat), v7 = .pointer (some ⟨b4, 0, none⟩) ∧ Box gq (t + 5) b4 34 [encA .i64 (zA 3)] [3] from hf _ (List.mem_of_getElem? (i := 12) rfl) (by kernel_rfl))
      subst e7
      refine WP.storeB (ty := 34) (off := 0) (v := AG [encA .i64 d6]) hB5 [encA .i64 d6] [3] (by kernel_rfl) (by kernel_rfl) (by simp [len_encA]) (by kernel_rfl) [encA .i64 d6] (by kernel_rfl) (.arr .nil) ?_
      intro g17 st17 hB8
      refine WP.done (by kernel_rfl) (Shown.ok (v := undef) (by kernel_rfl) st17 ?_)
      exact ⟨trivial, trivial, trivial, trivial, trivial, trivial, trivial, trivial, trivial, trivial, trivial, trivial, trivial, trivial, trivial, ⟨b4, rfl, hB8⟩, trivial, trivial⟩
    · intro vs gq stq hl hf
      replace hl : vs.length = 12 := hl
      obtain ⟨v0, vs0, rfl, hl0⟩ := len_succ hl
      obtain ⟨v1, vs1, rfl, hl1⟩ := len_succ hl0
      obtain ⟨v2, vs2, rfl, hl2⟩ := len_succ hl1
      obtain ⟨v3, vs3, rfl, hl3⟩ := len_succ hl2
      obtain ⟨v4, vs4, rfl, hl4⟩ := len_succ hl3
      obtain ⟨v5, vs5, rfl, hl5⟩ := len_succ hl4
      obtain ⟨v6, vs6, rfl, hl6⟩ := len_succ hl5
      obtain ⟨v7, vs7, rfl, hl7⟩ := len_succ hl6
      obtain ⟨v8, vs8, rfl, hl8⟩ := len_succ hl7
      obtain ⟨v9, vs9, rfl, hl9⟩ := len_succ hl8
      obtain ⟨v10, vs10, rfl, hl10⟩ := len_succ hl9
      obtain ⟨v11, vs11, rfl, hl11⟩ := len_succ hl10
      obtain rfl := len_zero hl11
      have e5 := (show v5 = AG [encA .i64 d7] from hf _ (List.mem_of_getElem? (i := 9) rfl) (by kernel_rfl))
      subst e5
      obtain ⟨b5, e8, hB6⟩ := (show ∃ (b5 : Nat), v8 = .pointer (some ⟨b5, 0, none⟩) ∧ Box gq (t + 6) b5 34 [encA .i64 (zA 3)] [3] from hf _ (List.mem_of_getElem? (i := 13) rfl) (by kernel_rfl))
      subst e8
      refine WP.storeB (ty := 34) (off := 0) (v := AG [encA .i64 d7]) hB6 [encA .i64 d7] [3] (by kernel_rfl) (by kernel_rfl) (by simp [len_encA]) (by kernel_rfl) [encA .i64 d7] (by kernel_rfl) (.arr .nil) ?_
      intro g18 st18 hB9
      refine WP.done (by kernel_rfl) (Shown.ok (v := undef) (by kernel_rfl) st18 ?_)
      exact ⟨trivial, trivial, trivial, trivial, trivial, trivial, trivial, trivial, trivial, trivial, trivial, trivial, trivial, trivial, trivial, trivial, ⟨b5, rfl, hB9⟩, trivial⟩
  intro vs g19 st19 hl hf
  replace hl : vs.length = 12 := hl
  obtain ⟨v0, vs0, rfl, hl0⟩ := len_succ hl
  obtain ⟨v1, vs1, rfl, hl1⟩ := len_succ hl0
  obtain ⟨v2, vs2, rfl, hl2⟩ := len_succ hl1
  obtain ⟨v3, vs3, rfl, hl3⟩ := len_succ hl2
  obtain ⟨v4, vs4, rfl, hl4⟩ := len_succ hl3
  obtain ⟨v5, vs5, rfl, hl5⟩ := len_succ hl4
  obtain ⟨v6, vs6, rfl, hl6⟩ := len_succ hl5
  obtain ⟨v7, vs7, rfl, hl7⟩ := len_succ hl6
  obtain ⟨v8, vs8, rfl, hl8⟩ := len_succ hl7
  obtain ⟨v9, vs9, rfl, hl9⟩ := len_succ hl8
  obtain ⟨v10, vs10, rfl, hl10⟩ := len_succ hl9
  obtain ⟨v11, vs11, rfl, hl11⟩ := len_succ hl10
  obtain rfl := len_zero hl11
  have hR2 := (show OwnS k_S_purse_Held g19 (t + 2) 56 a2 n2 c2 l2 from hf _ (List.mem_of_getElem? (i := 10) rfl) (by kernel_rfl))
  obtain ⟨b3, e6, hB4⟩ := (show ∃ (b3 : Nat), v6 = .pointer (some ⟨b3, 0, none⟩) ∧ Box g19 (t + 4) b3 34 [encA .i64 d5] [3] from hf _ (List.mem_of_getElem? (i := 14) rfl) (by kernel_rfl))
  subst e6
  obtain ⟨b4, e7, hB5⟩ := (show ∃ (b4 : Nat), v7 = .pointer (some ⟨b4, 0, none⟩) ∧ Box g19 (t + 5) b4 34 [encA .i64 d6] [3] from hf _ (List.mem_of_getElem? (i := 15) rfl) (by kernel_rfl))
  subst e7
  obtain ⟨b5, e8, hB6⟩ := (show ∃ (b5 : Nat), v8 = .pointer (some ⟨b5, 0, none⟩) ∧ Box g19 (t + 6) b5 34 [encA .i64 d7] [3] from hf _ (List.mem_of_getElem? (i := 16) rfl) (by kernel_rfl))
  subst e8
  replace hB2 := hB2.mono st19 (WL.no (by simp <;> omega))
  replace tot := tot.trans (st19.up (by intro l hl; simp at hl; rcases hl with rfl | rfl | rfl | rfl <;> first | exact .inr (by omega) | exact .inl (by simp [WL])))
  refine NX.then_n ?_
  refine CP.refr 90 [(7, .pointer (some ⟨b2, 0, none⟩)), (8, .pointer (some ⟨b3, 0, none⟩)), (9, .pointer (some ⟨b4, 0, none⟩)), (10, .pointer (some ⟨b5, 0, none⟩))] (by kernel_rfl) (by kernel_rfl) ?_
  clear ds
  intro ds
  refine CP.seq ?_
  refine CP.cut (fun tm g => ∃ (q4 : Bool), Fr 90 [(8, .pointer (some ⟨b3, 0, none⟩)), (9, .pointer (some ⟨b4, 0, none⟩)), (67, .bool q4)] tm ∧ Step (fun l => NoM l ∨ t ≤ l) g0 g ∧ Box g (t + 4) b3 34 [encA .i64 d5] [3] ∧ Box g (t + 5) b4 34 [encA .i64 d6] [3] ∧ (F.baizelaw47_PursePays.c2 d5 d6 q4) = some o1) ?_ ?_
  · replace hs := Option.bind_eq_some_iff.1 hs
    obtain ⟨x8, hk12, hs⟩ := hs
    refine bool_split (b := ((IntKind.i64.wrap ((IntKind.i64.wrap ((aget d5 0) + (aget d5 1))) + (aget d5 2))) != x8)) (fun h13 => ?_) (fun h13 => ?_)
    · replace hs := of_if_t hs h13
      refine CP.drawL (by kernel_rfl) [1, 3, 6, 8, 9, 11] N.baizelaw47_PursePays_1 [⟨none, [], [], fun l g => Box g (t + 3) b2 32 [encA .u8 d3, [.int .i64 x4], encA .i64 d4, [.slice a2 n2 c2]] [8, 1, 2, 1]⟩, ⟨none, [0], [], fun l g => OwnS k_S_purse_Held g (t + 2) 56 a2 n2 c2 l2⟩, ⟨none, [], [], fun l g => Box g (t + 4) b3 34 [encA .i64 d5] [3]⟩, ⟨some 0, [], [0], fun l g => l.getD 0 undef = .int .i64 (aget d5 0)⟩, ⟨some 1, [], [1], fun l g => l.getD 0 undef = .int .i64 (aget d5 1)⟩, ⟨some 2, [], [2], fun l g => l.getD 0 undef = .int .i64 (aget d5 2)⟩, ⟨some 3, [], [3], fun l g => l.getD 0 undef = AG [encA .u8 d3, [.int .i64 x4], encA .i64 d4, [.slice a2 n2 c2]]⟩, ⟨some 4, [], [4], fun l g => l.getD 0 undef = .int .i64 x8⟩, ⟨some 4, [0], [], fun l g => OwnS k_S_purse_Held g (t + 2) 56 a2 n2 c2 l2⟩, ⟨some 5, [], [5], fun l g => l.getD 0 undef = .bool true⟩] [[], [], [], [], [0], []] [(t + 2)] [0, 2, 5] [4, 7, 10, 12, 13, 14, 15, 16, 17, 18, 19, 20, 21, 22, 23, 24, 25, 26, 27, 28, 29, 30, 31, 32, 33, 34, 35, 36, 37, 38] (by kernel_rfl) (by simp <;> omega) (by simp) ⟨fun _ _ _ _ st h0 hl hj hB2 => (hB2.mono st (fun h => absurd (hl _ h) (by simp <;> omega))), fun _ _ _ _ st h0 hl hj hR2 => (hR2.mono st h0 (hj 0 (by simp) _ rfl)), fun _ _ _ _ st h0 hl hj hB4 => (hB4.mono st (fun h => absurd (hl _ h) (by simp <;> omega))), fun _ _ _ _ st h0 hl hj e0 => e0, fun _ _ _ _ st h0 hl hj e1 => e1, fun _ _ _ _ st h0 hl hj e2 => e2, fun _ _ _ _ st h0 hl hj e3 => e3, fun _ _ _ _ st h0 hl hj e4 => e4, fun _ _ _ _ st h0 hl hj hR2 => (hR2.mono st h0 (hj 0 (by simp) _ rfl)), fun _ _ _ _ st h0 hl hj e5 => e5, trivial⟩ ⟨hB2, hR2, hB4, trivial, trivial, trivial, trivial, trivial, trivial, trivial, trivial⟩ (by kernel_rfl) (fun vs => by kernel_rfl) ?_ ?_ ?_
      · intro j hj
        have hq : j = 0 ∨ j = 1 ∨ j = 2 ∨ j = 3 ∨ j = 4 ∨ j = 5 ∨ j = 6 ∨ j = 7 ∨ j = 8 ∨ j = 9 ∨ j = 10 ∨ j = 11 ∨ j = 12 ∨ j = 13 ∨ j = 14 ∨ j = 15 ∨ j = 16 ∨ j = 17 ∨ j = 18 ∨ j = 19 ∨ j = 20 ∨ j = 21 ∨ j = 22 ∨ j = 23 ∨ j = 24 ∨ j = 25 ∨ j = 26 ∨ j = 27 ∨ j = 28 ∨ j = 29 := by have h : j < 30 := hj; omega
        rcases hq with rfl | rfl | rfl | rfl | rfl | rfl | rfl | rfl | rfl | rfl | rfl | rfl | rfl | rfl | rfl | rfl | rfl | rfl | rfl | rfl | rfl | rfl | rfl | rfl | rfl | rfl | rfl | rfl | rfl | rfl
        · intro vs gq stq hl hf
          replace hl : vs.length = 6 := hl
          obtain ⟨v0, vs0, rfl, hl0⟩ := len_succ hl
          obtain ⟨v1, vs1, rfl, hl1⟩ := len_succ hl0
          obtain ⟨v2, vs2, rfl, hl2⟩ := len_succ hl1
          obtain ⟨v3, vs3, rfl, hl3⟩ := len_succ hl2
          obtain ⟨v4, vs4, rfl, hl4⟩ := len_succ hl3
          obtain ⟨v5, vs5, rfl, hl5⟩ := len_succ hl4
          obtain rfl := len_zero hl5
          have e0 := (show v0 = .int .i64 (aget d5 0) from hf _ (List.mem_of_getElem? (i := 3) rfl) (by kernel_rfl))
          subst e0
          have e1 := (show v1 = .int .i64 (aget d5 1) from hf _ (List.mem_of_getElem? (i := 4) rfl) (by kernel_rfl))
          subst e1
          show Option.isSome _ = true
          kernel_rfl
        · intro vs gq stq hl hf
          replace hl : vs.length = 6 := hl
          obtain ⟨v0, vs0, rfl, hl0⟩ := len_succ hl
          obtain ⟨v1, vs1, rfl, hl1⟩ := len_succ hl0
          obtain ⟨v2, vs2, rfl, hl2⟩ := len_succ hl1
          obtain ⟨v3, vs3, rfl, hl3⟩ := len_succ hl2
          obtain ⟨v4, vs4, rfl, hl4⟩ := len_succ hl3
          obtain ⟨v5, vs5, rfl, hl5⟩ := len_succ hl4
          obtain rfl := len_zero hl5
          have e0 := (show v0 = .int .i64 (aget d5 0) from hf _ (List.mem_of_getElem? (i := 3) rfl) (by kernel_rfl))
          subst e0
          have e1 := (show v1 = .int .i64 (aget d5 1) from hf _ (List.mem_of_getElem? (i := 4) rfl) (by kernel_rfl))
          subst e1
          have e2 := (show v2 = .int .i64 (aget d5 2) from hf _ (List.mem_of_getElem? (i := 5) rfl) (by kernel_rfl))
          subst e2
          show Option.isSome _ = true
          kernel_rfl
        · intro vs gq stq hl hf
          replace hl : vs.length = 6 := hl
          obtain ⟨v0, vs0, rfl, hl0⟩ := len_succ hl
          obtain ⟨v1, vs1, rfl, hl1⟩ := len_succ hl0
          obtain ⟨v2, vs2, rfl, hl2⟩ := len_succ hl1
          obtain ⟨v3, vs3, rfl, hl3⟩ := len_succ hl2
          obtain ⟨v4, vs4, rfl, hl4⟩ := len_succ hl3
          obtain ⟨v5, vs5, rfl, hl5⟩ := len_succ hl4
          obtain rfl := len_zero hl5
          have e0 := (show v0 = .int .i64 (aget d5 0) from hf _ (List.mem_of_getElem? (i := 3) rfl) (by kernel_rfl))
          subst e0
          have e1 := (show v1 = .int .i64 (aget d5 1) from hf _ (List.mem_of_getElem? (i := 4) rfl) (by kernel_rfl))
          subst e1
          have e2 := (show v2 = .int .i64 (aget d5 2) from hf _ (List.mem_of_getElem? (i := 5) rfl) (by kernel_rfl))
          subst e2
          have e4 := (show v4 = .int .i64 x8 from hf _ (List.mem_of_getElem? (i := 7) rfl) (by kernel_rfl))
          subst e4
          show Option.isSome _ = true
          kernel_rfl
        · intro vs gq stq hl hf
          replace hl : vs.length = 6 := hl
          obtain ⟨v0, vs0, rfl, hl0⟩ := len_succ hl
          obtain ⟨v1, vs1, rfl, hl1⟩ := len_succ hl0
          obtain ⟨v2, vs2, rfl, hl2⟩ := len_succ hl1
          obtain ⟨v3, vs3, rfl, hl3⟩ := len_succ hl2
          obtain ⟨v4, vs4, rfl, hl4⟩ := len_succ hl3
          obtain ⟨v5, vs5, rfl, hl5⟩ := len_succ hl4
          obtain rfl := len_zero hl5
          have e5 := (show v5 = .bool true from hf _ (List.mem_of_getElem? (i := 9) rfl) (by kernel_rfl))
          subst e5
          show Option.isSome _ = true
          kernel_rfl
        · intro vs gq stq hl hf
          replace hl : vs.length = 6 := hl
          obtain ⟨v0, vs0, rfl, hl0⟩ := len_succ hl
          obtain ⟨v1, vs1, rfl, hl1⟩ := len_succ hl0
          obtain ⟨v2, vs2, rfl, hl2⟩ := len_succ hl1
          obtain ⟨v3, vs3, rfl, hl3⟩ := len_succ hl2
          obtain ⟨v4, vs4, rfl, hl4⟩ := len_succ hl3
          obtain ⟨v5, vs5, rfl, hl5⟩ := len_succ hl4
          obtain rfl := len_zero hl5
          have e5 := (show v5 = .bool true from hf _ (List.mem_of_getElem? (i := 9) rfl) (by kernel_rfl))
          subst e5
          show Option.isSome _ = true
          kernel_rfl
        · intro vs gq stq hl hf
          replace hl : vs.length = 6 := hl
          obtain ⟨v0, vs0, rfl, hl0⟩ := len_succ hl
          obtain ⟨v1, vs1, rfl, hl1⟩ := len_succ hl0
          obtain ⟨v2, vs2, rfl, hl2⟩ := len_succ hl1
          obtain ⟨v3, vs3, rfl, hl3⟩ := len_succ hl2
          obtain ⟨v4, vs4, rfl, hl4⟩ := len_succ hl3
          obtain ⟨v5, vs5, rfl, hl5⟩ := len_succ hl4
          obtain rfl := len_zero hl5
          have e5 := (show v5 = .bool true from hf _ (List.mem_of_getElem? (i := 9) rfl) (by kernel_rfl))
          subst e5
          show Option.isSome _ = true
          kernel_rfl
        · intro vs gq stq hl hf
          replace hl : vs.length = 6 := hl
          obtain ⟨v0, vs0, rfl, hl0⟩ := len_succ hl
          obtain ⟨v1, vs1, rfl, hl1⟩ := len_succ hl0
          obtain ⟨v2, vs2, rfl, hl2⟩ := len_succ hl1
          obtain ⟨v3, vs3, rfl, hl3⟩ := len_succ hl2
          obtain ⟨v4, vs4, rfl, hl4⟩ := len_succ hl3
          obtain ⟨v5, vs5, rfl, hl5⟩ := len_succ hl4
          obtain rfl := len_zero hl5
          have e5 := (show v5 = .bool true from hf _ (List.mem_of_getElem? (i := 9) rfl) (by kernel_rfl))
          subst e5
          show Option.isSome _ = true
          kernel_rfl
        · intro vs gq stq hl hf
          replace hl : vs.length = 6 := hl
          obtain ⟨v0, vs0, rfl, hl0⟩ := len_succ hl
          obtain ⟨v1, vs1, rfl, hl1⟩ := len_succ hl0
          obtain ⟨v2, vs2, rfl, hl2⟩ := len_succ hl1
          obtain ⟨v3, vs3, rfl, hl3⟩ := len_succ hl2
          obtain ⟨v4, vs4, rfl, hl4⟩ := len_succ hl3
          obtain ⟨v5, vs5, rfl, hl5⟩ := len_succ hl4
          obtain rfl := len_zero hl5
          have e5 := (show v5 = .bool true from hf _ (List.mem_of_getElem? (i := 9) rfl) (by kernel_rfl))
          subst e5
          show Option.isSome _ = true
          kernel_rfl
        · intro vs gq stq hl hf
          replace hl : vs.length = 6 := hl
          obtain ⟨v0, vs0, rfl, hl0⟩ := len_succ hl
          obtain ⟨v1, vs1, rfl, hl1⟩ := len_succ hl0
          obtain ⟨v2, vs2, rfl, hl2⟩ := len_succ hl1
          obtain ⟨v3, vs3, rfl, hl3⟩ := len_succ hl2
          obtain ⟨v4, vs4, rfl, hl4⟩ := len_succ hl3
          obtain ⟨v5, vs5, rfl, hl5⟩ := len_succ hl4
          obtain rfl := len_zero hl5
          have e5 := (show v5 = .bool true from hf _ (List.mem_of_getElem? (i := 9) rfl) (by kernel_rfl))
          subst e5
          show Option.isSome _ = true
          kernel_rfl
        · intro vs gq stq hl hf
          replace hl : vs.length = 6 := hl
          obtain ⟨v0, vs0, rfl, hl0⟩ := len_succ hl
          obtain ⟨v1, vs1, rfl, hl1⟩ := len_succ hl0
          obtain ⟨v2, vs2, rfl, hl2⟩ := len_succ hl1
          obtain ⟨v3, vs3, rfl, hl3⟩ := len_succ hl2
          obtain ⟨v4, vs4, rfl, hl4⟩ := len_succ hl3
          obtain ⟨v5, vs5, rfl, hl5⟩ := len_succ hl4
          obtain rfl := len_zero hl5
          have e5 := (show v5 = .bool true from hf _ (List.mem_of_getElem? (i := 9) rfl) (by kernel_rfl))
          subst e5
          show Option.isSome _ = true
          kernel_rfl
        · intro vs gq stq hl hf
          replace hl : vs.length = 6 := hl
          obtain ⟨v0, vs0, rfl, hl0⟩ := len_succ hl
          obtain ⟨v1, vs1, rfl, hl1⟩ := len_succ hl0
          obtain ⟨v2, vs2, rfl, hl2⟩ := len_succ hl1
          obtain ⟨v3, vs3, rfl, hl3⟩ := len_succ hl2
          obtain ⟨v4, vs4, rfl, hl4⟩ := len_succ hl3
          obtain ⟨v5, vs5, rfl, hl5⟩ := len_succ hl4
          obtain rfl := len_zero hl5
          have e5 := (show v5 = .bool true from hf _ (List.mem_of_getElem? (i := 9) rfl) (by kernel_rfl))
          subst e5
          show Option.isSome _ = true
          kernel_rfl
        · intro vs gq stq hl hf
          replace hl : vs.length = 6 := hl
          obtain ⟨v0, vs0, rfl, hl0⟩ := len_succ hl
          obtain ⟨v1, vs1, rfl, hl1⟩ := len_succ hl0
          obtain ⟨v2, vs2, rfl, hl2⟩ := len_succ hl1
          obtain ⟨v3, vs3, rfl, hl3⟩ := len_succ hl2
          obtain ⟨v4, vs4, rfl, hl4⟩ := len_succ hl3
          obtain ⟨v5, vs5, rfl, hl5⟩ := len_succ hl4
          obtain rfl := len_zero hl5
          have e5 := (show v5 = .bool true from hf _ (List.mem_of_getElem? (i := 9) rfl) (by kernel_rfl))
          subst e5
          show Option.isSome _ = true
          kernel_rfl
        · intro vs gq stq hl hf
          replace hl : vs.length = 6 := hl
          obtain ⟨v0, vs0, rfl, hl0⟩ := len_succ hl
          obtain ⟨v1, vs1, rfl, hl1⟩ := len_succ hl0
          obtain ⟨v2, vs2, rfl, hl2⟩ := len_succ hl1
          obtain ⟨v3, vs3, rfl, hl3⟩ := len_succ hl2
          obtain ⟨v4, vs4, rfl, hl4⟩ := len_succ hl3
          obtain ⟨v5, vs5, rfl, hl5⟩ := len_succ hl4
          obtain rfl := len_zero hl5
          have e5 := (show v5 = .bool true from hf _ (List.mem_of_getElem? (i := 9) rfl) (by kernel_rfl))
          subst e5
          show Option.isSome _ = true
          kernel_rfl
        · intro vs gq stq hl hf
          replace hl : vs.length = 6 := hl
          obtain ⟨v0, vs0, rfl, hl0⟩ := len_succ hl
          obtain ⟨v1, vs1, rfl, hl1⟩ := len_succ hl0
          obtain ⟨v2, vs2, rfl, hl2⟩ := len_succ hl1
          obtain ⟨v3, vs3, rfl, hl3⟩ := len_succ hl2
          obtain ⟨v4, vs4, rfl, hl4⟩ := len_succ hl3
          obtain ⟨v5, vs5, rfl, hl5⟩ := len_succ hl4
          obtain rfl := len_zero hl5
          have e5 := (show v5 = .bool true from hf _ (List.mem_of_getElem? (i := 9) rfl) (by kernel_rfl))
          subst e5
          show Option.isSome _ = true
          kernel_rfl
        · intro vs gq stq hl hf
          replace hl : vs.length = 6 := hl
          obtain ⟨v0, vs0, rfl, hl0⟩ := len_succ hl
          obtain ⟨v1, vs1, rfl, hl1⟩ := len_succ hl0
          obtain ⟨v2, vs2, rfl, hl2⟩ := len_succ hl1
          obtain ⟨v3, vs3, rfl, hl3⟩ := len_succ hl2
          obtain ⟨v4, vs4, rfl, hl4⟩ := len_succ hl3
          obtain ⟨v5, vs5, rfl, hl5⟩ := len_succ hl4
          obtain rfl := len_zero hl5
          have e5 := (show v5 = .bool true from hf _ (List.mem_of_getElem? (i := 9) rfl) (by kernel_rfl))
          subst e5
          show Option.isSome _ = true
          kernel_rfl
        · intro vs gq stq hl hf
          replace hl : vs.length = 6 := hl
          obtain ⟨v0, vs0, rfl, hl0⟩ := len_succ hl
          obtain ⟨v1, vs1, rfl, hl1⟩ := len_succ hl0
          obtain ⟨v2, vs2, rfl, hl2⟩ := len_succ hl1
          obtain ⟨v3, vs3, rfl, hl3⟩ := len_succ hl2
          obtain ⟨v4, vs4, rfl, hl4⟩ := len_succ hl3
          obtain ⟨v5, vs5, rfl, hl5⟩ := len_succ hl4
          obtain rfl := len_zero hl5
          have e5 := (show v5 = .bool true from hf _ (List.mem_of_getElem? (i := 9) rfl) (by kernel_rfl))
          subst e5
          show Option.isSome _ = true
          kernel_rfl
        · intro vs gq stq hl hf
          replace hl : vs.length = 6 := hl
          obtain ⟨v0, vs0, rfl, hl0⟩ := len_succ hl
          obtain ⟨v1, vs1, rfl, hl1⟩ := len_succ hl0
          obtain ⟨v2, vs2, rfl, hl2⟩ := len_succ hl1
          obtain ⟨v3, vs3, rfl, hl3⟩ := len_succ hl2
          obtain ⟨v4, vs4, rfl, hl4⟩ := len_succ hl3
          obtain ⟨v5, vs5, rfl, hl5⟩ := len_succ hl4
          obtain rfl := len_zero hl5
          have e5 := (show v5 = .bool true from hf _ (List.mem_of_getElem? (i := 9) rfl) (by kernel_rfl))
          subst e5
          show Option.isSome _ = true
          kernel_rfl
        · intro vs gq stq hl hf
          replace hl : vs.length = 6 := hl
          obtain ⟨v0, vs0, rfl, hl0⟩ := len_succ hl
          obtain ⟨v1, vs1, rfl, hl1⟩ := len_succ hl0
          obtain ⟨v2, vs2, rfl, hl2⟩ := len_succ hl1
          obtain ⟨v3, vs3, rfl, hl3⟩ := len_succ hl2
          obtain ⟨v4, vs4, rfl, hl4⟩ := len_succ hl3
          obtain ⟨v5, vs5, rfl, hl5⟩ := len_succ hl4
          obtain rfl := len_zero hl5
          have e5 := (show v5 = .bool true from hf _ (List.mem_of_getElem? (i := 9) rfl) (by kernel_rfl))
          subst e5
          show Option.isSome _ = true
          kernel_rfl
        · intro vs gq stq hl hf
          replace hl : vs.length = 6 := hl
          obtain ⟨v0, vs0, rfl, hl0⟩ := len_succ hl
          obtain ⟨v1, vs1, rfl, hl1⟩ := len_succ hl0
          obtain ⟨v2, vs2, rfl, hl2⟩ := len_succ hl1
          obtain ⟨v3, vs3, rfl, hl3⟩ := len_succ hl2
          obtain ⟨v4, vs4, rfl, hl4⟩ := len_succ hl3
          obtain ⟨v5, vs5, rfl, hl5⟩ := len_succ hl4
          obtain rfl := len_zero hl5
          have e5 := (show v5 = .bool true from hf _ (List.mem_of_getElem? (i := 9) rfl) (by kernel_rfl))
          subst e5
          show Option.isSome _ = true
          kernel_rfl
        · intro vs gq stq hl hf
          replace hl : vs.length = 6 := hl
          obtain ⟨v0, vs0, rfl, hl0⟩ := len_succ hl
          obtain ⟨v1, vs1, rfl, hl1⟩ := len_succ hl0
          obtain ⟨v2, vs2, rfl, hl2⟩ := len_succ hl1
          obtain ⟨v3, vs3, rfl, hl3⟩ := len_succ hl2
          obtain ⟨v4, vs4, rfl, hl4⟩ := len_succ hl3
          obtain ⟨v5, vs5, rfl, hl5⟩ := len_succ hl4
          obtain rfl := len_zero hl5
          have e5 := (show v5 = .bool true from hf _ (List.mem_of_getElem? (i := 9) rfl) (by kernel_rfl))
          subst e5
          show Option.isSome _ = true
          kernel_rfl
        · intro vs gq stq hl hf
          replace hl : vs.length = 6 := hl
          obtain ⟨v0, vs0, rfl, hl0⟩ := len_succ hl
          obtain ⟨v1, vs1, rfl, hl1⟩ := len_succ hl0
          obtain ⟨v2, vs2, rfl, hl2⟩ := len_succ hl1
          obtain ⟨v3, vs3, rfl, hl3⟩ := len_succ hl2
          obtain ⟨v4, vs4, rfl, hl4⟩ := len_succ hl3
          obtain ⟨v5, vs5, rfl, hl5⟩ := len_succ hl4
          obtain rfl := len_zero hl5
          have e5 := (show v5 = .bool true from hf _ (List.mem_of_getElem? (i := 9) rfl) (by kernel_rfl))
          subst e5
          show Option.isSome _ = true
          kernel_rfl
        · intro vs gq stq hl hf
          replace hl : vs.length = 6 := hl
          obtain ⟨v0, vs0, rfl, hl0⟩ := len_succ hl
          obtain ⟨v1, vs1, rfl, hl1⟩ := len_succ hl0
          obtain ⟨v2, vs2, rfl, hl2⟩ := len_succ hl1
          obtain ⟨v3, vs3, rfl, hl3⟩ := len_succ hl2
          obtain ⟨v4, vs4, rfl, hl4⟩ := len_succ hl3
          obtain ⟨v5, vs5, rfl, hl5⟩ := len_succ hl4
          obtain rfl := len_zero hl5
          have e5 := (show v5 = .bool true from hf _ (List.mem_of_getElem? (i := 9) rfl) (by kernel_rfl))
          subst e5
          show Option.isSome _ = true
          kernel_rfl
        · intro vs gq stq hl hf
          replace hl : vs.length = 6 := hl
          obtain ⟨v0, vs0, rfl, hl0⟩ := len_succ hl
          obtain ⟨v1, vs1, rfl, hl1⟩ := len_succ hl0
          obtain ⟨v2, vs2, rfl, hl2⟩ := len_succ hl1
          obtain ⟨v3, vs3, rfl, hl3⟩ := len_succ hl2
          obtain ⟨v4, vs4, rfl, hl4⟩ := len_succ hl3
          obtain ⟨v5, vs5, rfl, hl5⟩ := len_succ hl4
          obtain rfl := len_zero hl5
          have e5 := (show v5 = .bool true from hf _ (List.mem_of_getElem? (i := 9) rfl) (by kernel_rfl))
          subst e5
          show Option.isSome _ = true
          kernel_rfl
        · intro vs gq stq hl hf
          replace hl : vs.length = 6 := hl
          obtain ⟨v0, vs0, rfl, hl0⟩ := len_succ hl
          obtain ⟨v1, vs1, rfl, hl1⟩ := len_succ hl0
          obtain ⟨v2, vs2, rfl, hl2⟩ := len_succ hl1
          obtain ⟨v3, vs3, rfl, hl3⟩ := len_succ hl2
          obtain ⟨v4, vs4, rfl, hl4⟩ := len_succ hl3
          obtain ⟨v5, vs5, rfl, hl5⟩ := len_succ hl4
          obtain rfl := len_zero hl5
          have e5 := (show v5 = .bool true from hf _ (List.mem_of_getElem? (i := 9) rfl) (by kernel_rfl))
          subst e5
          show Option.isSome _ = true
          kernel_rfl
        · intro vs gq stq hl hf
          replace hl : vs.length = 6 := hl
          obtain ⟨v0, vs0, rfl, hl0⟩ := len_succ hl
          obtain ⟨v1, vs1, rfl, hl1⟩ := len_succ hl0
          obtain ⟨v2, vs2, rfl, hl2⟩ := len_succ hl1
          obtain ⟨v3, vs3, rfl, hl3⟩ := len_succ hl2
          obtain ⟨v4, vs4, rfl, hl4⟩ := len_succ hl3
          obtain ⟨v5, vs5, rfl, hl5⟩ := len_succ hl4
          obtain rfl := len_zero hl5
          have e5 := (show v5 = .bool true from hf _ (List.mem_of_getElem? (i := 9) rfl) (by kernel_rfl))
          subst e5
          show Option.isSome _ = true
          kernel_rfl
        · intro vs gq stq hl hf
          replace hl : vs.length = 6 := hl
          obtain ⟨v0, vs0, rfl, hl0⟩ := len_succ hl
          obtain ⟨v1, vs1, rfl, hl1⟩ := len_succ hl0
          obtain ⟨v2, vs2, rfl, hl2⟩ := len_succ hl1
          obtain ⟨v3, vs3, rfl, hl3⟩ := len_succ hl2
          obtain ⟨v4, vs4, rfl, hl4⟩ := len_succ hl3
          obtain ⟨v5, vs5, rfl, hl5⟩ := len_succ hl4
          obtain rfl := len_zero hl5
          have e5 := (show v5 = .bool true from hf _ (List.mem_of_getElem? (i := 9) rfl) (by kernel_rfl))
          subst e5
          show Option.isSome _ = true
          kernel_rfl
        · intro vs gq stq hl hf
          replace hl : vs.length = 6 := hl
          obtain ⟨v0, vs0, rfl, hl0⟩ := len_succ hl
          obtain ⟨v1, vs1, rfl, hl1⟩ := len_succ hl0
          obtain ⟨v2, vs2, rfl, hl2⟩ := len_succ hl1
          obtain ⟨v3, vs3, rfl, hl3⟩ := len_succ hl2
          obtain ⟨v4, vs4, rfl, hl4⟩ := len_succ hl3
          obtain ⟨v5, vs5, rfl, hl5⟩ := len_succ hl4
          obtain rfl := len_zero hl5
          have e5 := (show v5 = .bool true from hf _ (List.mem_of_getElem? (i := 9) rfl) (by kernel_rfl))
          subst e5
          show Option.isSome _ = true
          kernel_rfl
        · intro vs gq stq hl hf
          replace hl : vs.length = 6 := hl
          obtain ⟨v0, vs0, rfl, hl0⟩ := len_succ hl
          obtain ⟨v1, vs1, rfl, hl1⟩ := len_succ hl0
          obtain ⟨v2, vs2, rfl, hl2⟩ := len_succ hl1
          obtain ⟨v3, vs3, rfl, hl3⟩ := len_succ hl2
          obtain ⟨v4, vs4, rfl, hl4⟩ := len_succ hl3
          obtain ⟨v5, vs5, rfl, hl5⟩ := len_succ hl4
          obtain rfl := len_zero hl5
          have e5 := (show v5 = .bool true from hf _ (List.mem_of_getElem? (i := 9) rfl) (by kernel_rfl))
          subst e5
          show Option.isSome _ = true
          kernel_rfl
        · intro vs gq stq hl hf
          replace hl : vs.length = 6 := hl
          obtain ⟨v0, vs0, rfl, hl0⟩ := len_succ hl
          obtain ⟨v1, vs1, rfl, hl1⟩ := len_succ hl0
          obtain ⟨v2, vs2, rfl, hl2⟩ := len_succ hl1
          obtain ⟨v3, vs3, rfl, hl3⟩ := len_succ hl2
          obtain ⟨v4, vs4, rfl, hl4⟩ := len_succ hl3
          obtain ⟨v5, vs5, rfl, hl5⟩ := len_succ hl4
          obtain rfl := len_zero hl5
          have e5 := (show v5 = .bool true from hf _ (List.mem_of_getElem? (i := 9) rfl) (by kernel_rfl))
          subst e5
          show Option.isSome _ = true
          kernel_rfl
        · intro vs gq stq hl hf
          replace hl : vs.length = 6 := hl
          obtain ⟨v0, vs0, rfl, hl0⟩ := len_succ hl
          obtain ⟨v1, vs1, rfl, hl1⟩ := len_succ hl0
          obtain ⟨v2, vs2, rfl, hl2⟩ := len_succ hl1
          obtain ⟨v3, vs3, rfl, hl3⟩ := len_succ hl2
          obtain ⟨v4, vs4, rfl, hl4⟩ := len_succ hl3
          obtain ⟨v5, vs5, rfl, hl5⟩ := len_succ hl4
          obtain rfl := len_zero hl5
          have e5 := (show v5 = .bool true from hf _ (List.mem_of_getElem? (i := 9) rfl) (by kernel_rfl))
          subst e5
          show Option.isSome _ = true
          kernel_rfl
      · intro j hj
        have hq : j = 0 ∨ j = 1 ∨ j = 2 ∨ j = 3 ∨ j = 4 ∨ j = 5 := by have h : j < 6 := hj; omega
        rcases hq with rfl | rfl | rfl | rfl | rfl | rfl
        · intro vs gq stq hl hf
          replace hl : vs.length = 6 := hl
          obtain ⟨v0, vs0, rfl, hl0⟩ := len_succ hl
          obtain ⟨v1, vs1, rfl, hl1⟩ := len_succ hl0
          obtain ⟨v2, vs2, rfl, hl2⟩ := len_succ hl1
          obtain ⟨v3, vs3, rfl, hl3⟩ := len_succ hl2
          obtain ⟨v4, vs4, rfl, hl4⟩ := len_succ hl3
          obtain ⟨v5, vs5, rfl, hl5⟩ := len_succ hl4
          obtain rfl := len_zero hl5
          have hB4 := (show Box gq (t + 4) b3 34 [encA .i64 d5] [3] from hf _ (List.mem_of_getElem? (i := 2) rfl) (by kernel_rfl))
          refine WP.loadE (ty := 3) (o := 0) (m := 3) (k := .i64) (d := d5) (i := 0) hB4 (by kernel_rfl) (by decide) (by kernel_rfl) (by kernel_rfl) ?_
          refine WP.done (by kernel_rfl) (Shown.ok (v := .int .i64 (aget d5 0)) (by kernel_rfl) (Step.refl _ _) ?_)
          exact ⟨trivial, trivial, trivial, rfl, trivial, trivial, trivial, trivial, trivial, trivial, trivial⟩
        · intro vs gq stq hl hf
          replace hl : vs.length = 6 := hl
          obtain ⟨v0, vs0, rfl, hl0⟩ := len_succ hl
          obtain ⟨v1, vs1, rfl, hl1⟩ := len_succ hl0
          obtain ⟨v2, vs2, rfl, hl2⟩ := len_succ hl1
          obtain ⟨v3, vs3, rfl, hl3⟩ := len_succ hl2
          obtain ⟨v4, vs4, rfl, hl4⟩ := len_succ hl3
          obtain ⟨v5, vs5, rfl, hl5⟩ := len_succ hl4
          obtain rfl := len_zero hl5
          have hB4 := (show Box gq (t + 4) b3 34 [encA .i64 d5] [3] from hf _ (List.mem_of_getElem? (i := 2) rfl) (by kernel_rfl))
          refine WP.loadE (ty := 3) (o := 0) (m := 3) (k := .i64) (d := d5) (i := 1) hB4 (by kernel_rfl) (by decide) (by kernel_rfl) (by kernel_rfl) ?_
          refine WP.done (by kernel_rfl) (Shown.ok (v := .int .i64 (aget d5 1)) (by kernel_rfl) (Step.refl _ _) ?_)
          exact ⟨trivial, trivial, trivial, trivial, rfl, trivial, trivial, trivial, trivial, trivial, trivial⟩
        · intro vs gq stq hl hf
          replace hl : vs.length = 6 := hl
          obtain ⟨v0, vs0, rfl, hl0⟩ := len_succ hl
          obtain ⟨v1, vs1, rfl, hl1⟩ := len_succ hl0
          obtain ⟨v2, vs2, rfl, hl2⟩ := len_succ hl1
          obtain ⟨v3, vs3, rfl, hl3⟩ := len_succ hl2
          obtain ⟨v4, vs4, rfl, hl4⟩ := len_succ hl3
          obtain ⟨v5, vs5, rfl, hl5⟩ := len_succ hl4
          obtain rfl := len_zero hl5
          have hB4 := (show Box gq (t + 4) b3 34 [encA .i64 d5] [3] from hf _ (List.mem_of_getElem? (i := 2) rfl) (by kernel_rfl))
          refine WP.loadE (ty := 3) (o := 0) (m := 3) (k := .i64) (d := d5) (i := 2) hB4 (by kernel_rfl) (by decide) (by kernel_rfl) (by kernel_rfl) ?_
          refine WP.done (by kernel_rfl) (Shown.ok (v := .int .i64 (aget d5 2)) (by kernel_rfl) (Step.refl _ _) ?_)
          exact ⟨trivial, trivial, trivial, trivial, trivial, rfl, trivial, trivial, trivial, trivial, trivial⟩
        · intro vs gq stq hl hf
          replace hl : vs.length = 6 := hl
          obtain ⟨v0, vs0, rfl, hl0⟩ := len_succ hl
          obtain ⟨v1, vs1, rfl, hl1⟩ := len_succ hl0
          obtain ⟨v2, vs2, rfl, hl2⟩ := len_succ hl1
          obtain ⟨v3, vs3, rfl, hl3⟩ := len_succ hl2
          obtain ⟨v4, vs4, rfl, hl4⟩ := len_succ hl3
          obtain ⟨v5, vs5, rfl, hl5⟩ := len_succ hl4
          obtain rfl := len_zero hl5
          have hB2 := (show Box gq (t + 3) b2 32 [encA .u8 d3, [.int .i64 x4], encA .i64 d4, [.slice a2 n2 c2]] [8, 1, 2, 1] from hf _ (List.mem_of_getElem? (i := 0) rfl) (by kernel_rfl))
          refine WP.loadB (v := AG [encA .u8 d3, [.int .i64 x4], encA .i64 d4, [.slice a2 n2 c2]]) hB2 (by kernel_rfl) (by kernel_rfl) ?_
          refine WP.done (by kernel_rfl) (Shown.ok (v := AG [encA .u8 d3, [.int .i64 x4], encA .i64 d4, [.slice a2 n2 c2]]) (by kernel_rfl) (Step.refl _ _) ?_)
          exact ⟨trivial, trivial, trivial, trivial, trivial, trivial, rfl, trivial, trivial, trivial, trivial⟩
        · intro vs gq stq hl hf
          replace hl : vs.length = 6 := hl
          obtain ⟨v0, vs0, rfl, hl0⟩ := len_succ hl
          obtain ⟨v1, vs1, rfl, hl1⟩ := len_succ hl0
          obtain ⟨v2, vs2, rfl, hl2⟩ := len_succ hl1
          obtain ⟨v3, vs3, rfl, hl3⟩ := len_succ hl2
          obtain ⟨v4, vs4, rfl, hl4⟩ := len_succ hl3
          obtain ⟨v5, vs5, rfl, hl5⟩ := len_succ hl4
          obtain rfl := len_zero hl5
          have hR2 := (show OwnS k_S_purse_Held gq (t + 2) 56 a2 n2 c2 l2 from hf _ (List.mem_of_getElem? (i := 1) rfl) (by kernel_rfl))
          have e3 := (show v3 = AG [encA .u8 d3, [.int .i64 x4], encA .i64 d4, [.slice a2 n2 c2]] from hf _ (List.mem_of_getElem? (i := 6) rfl) (by kernel_rfl))
          subst e3
          have hS7 : 0 ∉ ([(t + 2)] : List Nat) := by simp <;> omega
          have stl7 := GW.lend_step gq [(t + 2)]
          have hRl7 := hR2.lendTo hS7 (by simp)
          refine WP.regw (g' := GW.lend gq [(t + 2)]) rfl ?_
          have hcal12 := P.purse_Purse_Total (GW.lend gq [(t + 2)]) d3 x4 d4 l2 a2 n2 c2 hRl7 x8 hk12
          refine WP.callC hcal12 (by kernel_rfl) ?_
          rintro _ g28 st28 rfl
          have st29 := (GW.back_step st28).lentS
          have hO7 := hR2.backTo hS7 (by simp) st28 (fun x => x)
          refine WP.regw (g' := GW.back gq g28 [(t + 2)]) rfl ?_
          generalize GW.back gq g28 [(t + 2)] = g29 at *
          refine WP.done (by kernel_rfl) (Shown.ok (v := .int .i64 x8) (by kernel_rfl) st29 ?_)
          exact ⟨trivial, trivial, trivial, trivial, trivial, trivial, trivial, rfl, hO7, trivial, trivial⟩
        · intro vs gq stq hl hf
          replace hl : vs.length = 6 := hl
          obtain ⟨v0, vs0, rfl, hl0⟩ := len_succ hl
          obtain ⟨v1, vs1, rfl, hl1⟩ := len_succ hl0
          obtain ⟨v2, vs2, rfl, hl2⟩ := len_succ hl1
          obtain ⟨v3, vs3, rfl, hl3⟩ := len_succ hl2
          obtain ⟨v4, vs4, rfl, hl4⟩ := len_succ hl3
          obtain ⟨v5, vs5, rfl, hl5⟩ := len_succ hl4
          obtain rfl := len_zero hl5
          have e0 := (show v0 = .int .i64 (aget d5 0) from hf _ (List.mem_of_getElem? (i := 3) rfl) (by kernel_rfl))
          subst e0
          have e1 := (show v1 = .int .i64 (aget d5 1) from hf _ (List.mem_of_getElem? (i := 4) rfl) (by kernel_rfl))
          subst e1
          have e2 := (show v2 = .int .i64 (aget d5 2) from hf _ (List.mem_of_getElem? (i := 5) rfl) (by kernel_rfl))
          subst e2
          have e4 := (show v4 = .int .i64 x8 from hf _ (List.mem_of_getElem? (i := 7) rfl) (by kernel_rfl))
          subst e4
          refine WP.still 1 (by kernel_rfl) ?_
          refine WP.done (by kernel_rfl) (Shown.ok (v := .bool ((IntKind.i64.wrap ((IntKind.i64.wrap ((aget d5 0) + (aget d5 1))) + (aget d5 2))) != x8)) (by kernel_rfl) (Step.refl _ _) ?_)
          exact ⟨trivial, trivial, trivial, trivial, trivial, trivial, trivial, trivial, trivial, congrArg Value.bool h13, trivial⟩
      intro vs g30 st30 hl hf
      replace hl : vs.length = 6 := hl
      obtain ⟨v0, vs0, rfl, hl0⟩ := len_succ hl
      obtain ⟨v1, vs1, rfl, hl1⟩ := len_succ hl0
      obtain ⟨v2, vs2, rfl, hl2⟩ := len_succ hl1
      obtain ⟨v3, vs3, rfl, hl3⟩ := len_succ hl2
      obtain ⟨v4, vs4, rfl, hl4⟩ := len_succ hl3
      obtain ⟨v5, vs5, rfl, hl5⟩ := len_succ hl4
      obtain rfl := len_zero hl5
      have e5 := (show v5 = .bool true from hf _ (List.mem_of_getElem? (i := 9) rfl) (by kernel_rfl))
      subst e5
      replace hB4 := hB4.mono st30 (WL.no1 (by omega))
      replace hB5 := hB5.mono st30 (WL.no1 (by omega))
      replace tot := tot.trans (st30.up1 (.inr (by omega)))
      refine NX.post ?_
      exact ⟨true, ⟨by kernel_rfl, by kernel_rfl⟩, tot, hB4, hB5, hs⟩
    replace hs := of_if_f hs h13
    replace hs := Option.bind_eq_some_iff.1 hs
    obtain ⟨x9, hk13, hs⟩ := hs
    refine bool_split (b := ((IntKind.i64.wrap ((IntKind.i64.wrap ((aget d6 0) + (aget d6 1))) + (aget d6 2))) != x9)) (fun h14 => ?_) (fun h14 => ?_)
    · replace hs := of_if_t hs h14
      refine CP.drawL (by kernel_rfl) [1, 3, 6, 8, 9, 11, 13, 15, 18, 20, 21, 24] N.baizelaw47_PursePays_1 [⟨none, [], [], fun l g => Box g (t + 3) b2 32 [encA .u8 d3, [.int .i64 x4], encA .i64 d4, [.slice a2 n2 c2]] [8, 1, 2, 1]⟩, ⟨none, [0], [], fun l g => OwnS k_S_purse_Held g (t + 2) 56 a2 n2 c2 l2⟩, ⟨none, [], [], fun l g => Box g (t + 4) b3 34 [encA .i64 d5] [3]⟩, ⟨none, [], [], fun l g => Box g (t + 5) b4 34 [encA .i64 d6] [3]⟩, ⟨some 0, [], [0], fun l g => l.getD 0 undef = .int .i64 (aget d5 0)⟩, ⟨some 1, [], [1], fun l g => l.getD 0 undef = .int .i64 (aget d5 1)⟩, ⟨some 2, [], [2], fun l g => l.getD 0 undef = .int .i64 (aget d5 2)⟩, ⟨some 3, [], [3], fun l g => l.getD 0 undef = AG [encA .u8 d3, [.int .i64 x4], encA .i64 d4, [.slice a2 n2 c2]]⟩, ⟨some 4, [], [4], fun l g => l.getD 0 undef = .int .i64 x8⟩, ⟨some 4, [0], [], fun l g => OwnS k_S_purse_Held g (t + 2) 56 a2 n2 c2 l2⟩, ⟨some 5, [], [5], fun l g => l.getD 0 undef = .bool false⟩, ⟨some 6, [], [6], fun l g => l.getD 0 undef = .int .i64 (aget d6 0)⟩, ⟨some 7, [], [7], fun l g => l.getD 0 undef = .int .i64 (aget d6 1)⟩, ⟨some 8, [], [8], fun l g => l.getD 0 undef = .int .i64 (aget d6 2)⟩, ⟨some 9, [], [9], fun l g => l.getD 0 undef = AG [encA .u8 d3, [.int .i64 x4], encA .i64 d4, [.slice a2 n2 c2]]⟩, ⟨some 10, [], [10], fun l g => l.getD 0 undef = .int .i64 x9⟩, ⟨some 10, [0], [], fun l g => OwnS k_S_purse_Held g (t + 2) 56 a2 n2 c2 l2⟩, ⟨some 11, [], [11], fun l g => l.getD 0 undef = .bool true⟩] [[], [], [], [], [0], [], [], [], [], [], [0], []] [(t + 2)] [0, 2, 5] [4, 7, 10, 12, 14, 16, 17, 19, 22, 23, 25, 26, 27, 28, 29, 30, 31, 32, 33, 34, 35, 36, 37, 38] (by kernel_rfl) (by simp <;> omega) (by simp) ⟨fun _ _ _ _ st h0 hl hj hB2 => (hB2.mono st (fun h => absurd (hl _ h) (by simp <;> omega))), fun _ _ _ _ st h0 hl hj hR2 => (hR2.mono st h0 (hj 0 (by simp) _ rfl)), fun _ _ _ _ st h0 hl hj hB4 => (hB4.mono st (fun h => absurd (hl _ h) (by simp <;> omega))), fun _ _ _ _ st h0 hl hj hB5 => (hB5.mono st (fun h => absurd (hl _ h) (by simp <;> omega))), fun _ _ _ _ st h0 hl hj e0 => e0, fun _ _ _ _ st h0 hl hj e1 => e1, fun _ _ _ _ st h0 hl hj e2 => e2, fun _ _ _ _ st h0 hl hj e3 => e3, fun _ _ _ _ st h0 hl hj e4 => e4, fun _ _ _ _ st h0 hl hj hR2 => (hR2.mono st h0 (hj 0 (by simp) _ rfl)), fun _ _ _ _ st h0 hl hj e5 => e5, fun _ _ _ _ st h0 hl hj e6 => e6, fun _ _ _ _ st h0 hl hj e7 => e7, fun _ _ _ _ st h0 hl hj e8 => e8, fun _ _ _ _ st h0 hl hj e9 => e9, fun _ _ _ _ st h0 hl hj e10 => e10, fun _ _ _ _ st h0 hl hj hR2 => (hR2.mono st h0 (hj 0 (by simp) _ rfl)), fun _ _ _ _ st h0 hl hj e11 => e11, trivial⟩ ⟨hB2, hR2, hB4, hB5, trivial, trivial, trivial, trivial, trivial, trivial, trivial, trivial, trivial, trivial, trivial, trivial, trivial, trivial, trivial⟩ (by kernel_rfl) (fun vs => by kernel_rfl) ?_ ?_ ?_
      · intro j hj
        have hq : j = 0 ∨ j = 1 ∨ j = 2 ∨ j = 3 ∨ j = 4 ∨ j = 5 ∨ j = 6 ∨ j = 7 ∨ j = 8 ∨ j = 9 ∨ j = 10 ∨ j = 11 ∨ j = 12 ∨ j = 13 ∨ j = 14 ∨ j = 15 ∨ j = 16 ∨ j = 17 ∨ j = 18 ∨ j = 19 ∨ j = 20 ∨ j = 21 ∨ j = 22 ∨ j = 23 := by have h : j < 24 := hj; omega
        rcases hq with rfl | rfl | rfl | rfl | rfl | rfl | rfl | rfl | rfl | rfl | rfl | rfl | rfl | rfl | rfl | rfl | rfl | rfl | rfl | rfl | rfl | rfl | rfl | rfl
        · intro vs gq stq hl hf
          replace hl : vs.length = 12 := hl
          obtain ⟨v0, vs0, rfl, hl0⟩ := len_succ hl
          obtain ⟨v1, vs1, rfl, hl1⟩ := len_succ hl0
          obtain ⟨v2, vs2, rfl, hl2⟩ := len_succ hl1
          obtain ⟨v3, vs3, rfl, hl3⟩ := len_succ hl2
          obtain ⟨v4, vs4, rfl, hl4⟩ := len_succ hl3
          obtain ⟨v5, vs5, rfl, hl5⟩ := len_succ hl4
          obtain ⟨v6, vs6, rfl, hl6⟩ := len_succ hl5
          obtain ⟨v7, vs7, rfl, hl7⟩ := len_succ hl6
          obtain ⟨v8, vs8, rfl, hl8⟩ := len_succ hl7
          obtain ⟨v9, vs9, rfl, hl9⟩ := len_succ hl8
          obtain ⟨v10, vs10, rfl, hl10⟩ := len_succ hl9
          obtain ⟨v11, vs11, rfl, hl11⟩ := len_succ hl10
          obtain rfl := len_zero hl11
          have e0 := (show v0 = .int .i64 (aget d5 0) from hf _ (List.mem_of_getElem? (i := 4) rfl) (by kernel_rfl))
          subst e0
          have e1 := (show v1 = .int .i64 (aget d5 1) from hf _ (List.mem_of_getElem? (i := 5) rfl) (by kernel_rfl))
          subst e1
          show Option.isSome _ = true
          kernel_rfl
        · intro vs gq stq hl hf
          replace hl : vs.length = 12 := hl
          obtain ⟨v0, vs0, rfl, hl0⟩ := len_succ hl
          obtain ⟨v1, vs1, rfl, hl1⟩ := len_succ hl0
          obtain ⟨v2, vs2, rfl, hl2⟩ := len_succ hl1
          obtain ⟨v3, vs3, rfl, hl3⟩ := len_succ hl2
          obtain ⟨v4, vs4, rfl, hl4⟩ := len_succ hl3
          obtain ⟨v5, vs5, rfl, hl5⟩ := len_succ hl4
          obtain ⟨v6, vs6, rfl, hl6⟩ := len_succ hl5
          obtain ⟨v7, vs7, rfl, hl7⟩ := len_succ hl6
          obtain ⟨v8, vs8, rfl, hl8⟩ := len_succ hl7
          obtain ⟨v9, vs9, rfl, hl9⟩ := len_succ hl8
          obtain ⟨v10, vs10, rfl, hl10⟩ := len_succ hl9
          obtain ⟨v11, vs11, rfl, hl11⟩ := len_succ hl10
          obtain rfl := len_zero hl11
          have e0 := (show v0 = .int .i64 (aget d5 0) from hf _ (List.mem_of_getElem? (i := 4) rfl) (by kernel_rfl))
          subst e0
          have e1 := (show v1 = .int .i64 (aget d5 1) from hf _ (List.mem_of_getElem? (i := 5) rfl) (by kernel_rfl))
          subst e1
          have e2 := (show v2 = .int .i64 (aget d5 2) from hf _ (List.mem_of_getElem? (i := 6) rfl) (by kernel_rfl))
          subst e2
          show Option.isSome _ = true
          kernel_rfl
        · intro vs gq stq hl hf
          replace hl : vs.length = 12 := hl
          obtain ⟨v0, vs0, rfl, hl0⟩ := len_succ hl
          obtain ⟨v1, vs1, rfl, hl1⟩ := len_succ hl0
          obtain ⟨v2, vs2, rfl, hl2⟩ := len_succ hl1
          obtain ⟨v3, vs3, rfl, hl3⟩ := len_succ hl2
          obtain ⟨v4, vs4, rfl, hl4⟩ := len_succ hl3
          obtain ⟨v5, vs5, rfl, hl5⟩ := len_succ hl4
          obtain ⟨v6, vs6, rfl, hl6⟩ := len_succ hl5
          obtain ⟨v7, vs7, rfl, hl7⟩ := len_succ hl6
          obtain ⟨v8, vs8, rfl, hl8⟩ := len_succ hl7
          obtain ⟨v9, vs9, rfl, hl9⟩ := len_succ hl8
          obtain ⟨v10, vs10, rfl, hl10⟩ := len_succ hl9
          obtain ⟨v11, vs11, rfl, hl11⟩ := len_succ hl10
          obtain rfl := len_zero hl11
          have e0 := (show v0 = .int .i64 (aget d5 0) from hf _ (List.mem_of_getElem? (i := 4) rfl) (by kernel_rfl))
          subst e0
          have e1 := (show v1 = .int .i64 (aget d5 1) from hf _ (List.mem_of_getElem? (i := 5) rfl) (by kernel_rfl))
          subst e1
          have e2 := (show v2 = .int .i64 (aget d5 2) from hf _ (List.mem_of_getElem? (i := 6) rfl) (by kernel_rfl))
          subst e2
          have e4 := (show v4 = .int .i64 x8 from hf _ (List.mem_of_getElem? (i := 8) rfl) (by kernel_rfl))
          subst e4
          show Option.isSome _ = true
          kernel_rfl
        · intro vs gq stq hl hf
          replace hl : vs.length = 12 := hl
          obtain ⟨v0, vs0, rfl, hl0⟩ := len_succ hl
          obtain ⟨v1, vs1, rfl, hl1⟩ := len_succ hl0
          obtain ⟨v2, vs2, rfl, hl2⟩ := len_succ hl1
          obtain ⟨v3, vs3, rfl, hl3⟩ := len_succ hl2
          obtain ⟨v4, vs4, rfl, hl4⟩ := len_succ hl3
          obtain ⟨v5, vs5, rfl, hl5⟩ := len_succ hl4
          obtain ⟨v6, vs6, rfl, hl6⟩ := len_succ hl5
          obtain ⟨v7, vs7, rfl, hl7⟩ := len_succ hl6
          obtain ⟨v8, vs8, rfl, hl8⟩ := len_succ hl7
          obtain ⟨v9, vs9, rfl, hl9⟩ := len_succ hl8
          obtain ⟨v10, vs10, rfl, hl10⟩ := len_succ hl9
          obtain ⟨v11, vs11, rfl, hl11⟩ := len_succ hl10
          obtain rfl := len_zero hl11
          have e5 := (show v5 = .bool false from hf _ (List.mem_of_getElem? (i := 10) rfl) (by kernel_rfl))
          subst e5
          show Option.isSome _ = true
          kernel_rfl
        · intro vs gq stq hl hf
          replace hl : vs.length = 12 := hl
          obtain ⟨v0, vs0, rfl, hl0⟩ := len_succ hl
          obtain ⟨v1, vs1, rfl, hl1⟩ := len_succ hl0
          obtain ⟨v2, vs2, rfl, hl2⟩ := len_succ hl1
          obtain ⟨v3, vs3, rfl, hl3⟩ := len_succ hl2
          obtain ⟨v4, vs4, rfl, hl4⟩ := len_succ hl3
          obtain ⟨v5, vs5, rfl, hl5⟩ := len_succ hl4
          obtain ⟨v6, vs6, rfl, hl6⟩ := len_succ hl5
          obtain ⟨v7, vs7, rfl, hl7⟩ := len_succ hl6
          obtain ⟨v8, vs8, rfl, hl8⟩ := len_succ hl7
          obtain ⟨v9, vs9, rfl, hl9⟩ := len_succ hl8
          obtain ⟨v10, vs10, rfl, hl10⟩ := len_succ hl9
          obtain ⟨v11, vs11, rfl, hl11⟩ := len_succ hl10
          obtain rfl := len_zero hl11
          have e5 := (show v5 = .bool false from hf _ (List.mem_of_getElem? (i := 10) rfl) (by kernel_rfl))
          subst e5
          show Option.isSome _ = true
          kernel_rfl
        · intro vs gq stq hl hf
          replace hl : vs.length = 12 := hl
          obtain ⟨v0, vs0, rfl, hl0⟩ := len_succ hl
          obtain ⟨v1, vs1, rfl, hl1⟩ := len_succ hl0
          obtain ⟨v2, vs2, rfl, hl2⟩ := len_succ hl1
          obtain ⟨v3, vs3, rfl, hl3⟩ := len_succ hl2
          obtain ⟨v4, vs4, rfl, hl4⟩ := len_succ hl3
          obtain ⟨v5, vs5, rfl, hl5⟩ := len_succ hl4
          obtain ⟨v6, vs6, rfl, hl6⟩ := len_succ hl5
          obtain ⟨v7, vs7, rfl, hl7⟩ := len_succ hl6
          obtain ⟨v8, vs8, rfl, hl8⟩ := len_succ hl7
          obtain ⟨v9, vs9, rfl, hl9⟩ := len_succ hl8
          obtain ⟨v10, vs10, rfl, hl10⟩ := len_succ hl9
          obtain ⟨v11, vs11, rfl, hl11⟩ := len_succ hl10
          obtain rfl := len_zero hl11
          have e5 := (show v5 = .bool false from hf _ (List.mem_of_getElem? (i := 10) rfl) (by kernel_rfl))
          subst e5
          have e6 := (show v6 = .int .i64 (aget d6 0) from hf _ (List.mem_of_getElem? (i := 11) rfl) (by kernel_rfl))
          subst e6
          have e7 := (show v7 = .int .i64 (aget d6 1) from hf _ (List.mem_of_getElem? (i := 12) rfl) (by kernel_rfl))
          subst e7
          show Option.isSome _ = true
          kernel_rfl
        · intro vs gq stq hl hf
          replace hl : vs.length = 12 := hl
          obtain ⟨v0, vs0, rfl, hl0⟩ := len_succ hl
          obtain ⟨v1, vs1, rfl, hl1⟩ := len_succ hl0
          obtain ⟨v2, vs2, rfl, hl2⟩ := len_succ hl1
          obtain ⟨v3, vs3, rfl, hl3⟩ := len_succ hl2
          obtain ⟨v4, vs4, rfl, hl4⟩ := len_succ hl3
          obtain ⟨v5, vs5, rfl, hl5⟩ := len_succ hl4
          obtain ⟨v6, vs6, rfl, hl6⟩ := len_succ hl5
          obtain ⟨v7, vs7, rfl, hl7⟩ := len_succ hl6
          obtain ⟨v8, vs8, rfl, hl8⟩ := len_succ hl7
          obtain ⟨v9, vs9, rfl, hl9⟩ := len_succ hl8
          obtain ⟨v10, vs10, rfl, hl10⟩ := len_succ hl9
          obtain ⟨v11, vs11, rfl, hl11⟩ := len_succ hl10
          obtain rfl := len_zero hl11
          have e5 := (show v5 = .bool false from hf _ (List.mem_of_getElem? (i := 10) rfl) (by kernel_rfl))
          subst e5
          show Option.isSome _ = true
          kernel_rfl
        · intro vs gq stq hl hf
          replace hl : vs.length = 12 := hl
          obtain ⟨v0, vs0, rfl, hl0⟩ := len_succ hl
          obtain ⟨v1, vs1, rfl, hl1⟩ := len_succ hl0
          obtain ⟨v2, vs2, rfl, hl2⟩ := len_succ hl1
          obtain ⟨v3, vs3, rfl, hl3⟩ := len_succ hl2
          obtain ⟨v4, vs4, rfl, hl4⟩ := len_succ hl3
          obtain ⟨v5, vs5, rfl, hl5⟩ := len_succ hl4
          obtain ⟨v6, vs6, rfl, hl6⟩ := len_succ hl5
          obtain ⟨v7, vs7, rfl, hl7⟩ := len_succ hl6
          obtain ⟨v8, vs8, rfl, hl8⟩ := len_succ hl7
          obtain ⟨v9, vs9, rfl, hl9⟩ := len_succ hl8
          obtain ⟨v10, vs10, rfl, hl10⟩ := len_succ hl9
          obtain ⟨v11, vs11, rfl, hl11⟩ := len_succ hl10
          obtain rfl := len_zero hl11
          have e5 := (show v5 = .bool false from hf _ (List.mem_of_getElem? (i := 10) rfl) (by kernel_rfl))
          subst e5
          have e6 := (show v6 = .int .i64 (aget d6 0) from hf _ (List.mem_of_getElem? (i := 11) rfl) (by kernel_rfl))
          subst e6
          have e7 := (show v7 = .int .i64 (aget d6 1) from hf _ (List.mem_of_getElem? (i := 12) rfl) (by kernel_rfl))
          subst e7
          have e8 := (show v8 = .int .i64 (aget d6 2) from hf _ (List.mem_of_getElem? (i := 13) rfl) (by kernel_rfl))
          subst e8
          show Option.isSome _ = true
          kernel_rfl
        · intro vs gq stq hl hf
          replace hl : vs.length = 12 := hl
          obtain ⟨v0, vs0, rfl, hl0⟩ := len_succ hl
          obtain ⟨v1, vs1, rfl, hl1⟩ := len_succ hl0
          obtain ⟨v2, vs2, rfl, hl2⟩ := len_succ hl1
          obtain ⟨v3, vs3, rfl, hl3⟩ := len_succ hl2
          obtain ⟨v4, vs4, rfl, hl4⟩ := len_succ hl3
          obtain ⟨v5, vs5, rfl, hl5⟩ := len_succ hl4
          obtain ⟨v6, vs6, rfl, hl6⟩ := len_succ hl5
          obtain ⟨v7, vs7, rfl, hl7⟩ := len_succ hl6
          obtain ⟨v8, vs8, rfl, hl8⟩ := len_succ hl7
          obtain ⟨v9, vs9, rfl, hl9⟩ := len_succ hl8
          obtain ⟨v10, vs10, rfl, hl10⟩ := len_succ hl9
          obtain ⟨v11, vs11, rfl, hl11⟩ := len_succ hl10
          obtain rfl := len_zero hl11
          have e5 := (show v5 = .bool false from hf _ (List.mem_of_getElem? (i := 10) rfl) (by kernel_rfl))
          subst e5
          have e6 := (show v6 = .int .i64 (aget d6 0) from hf _ (List.mem_of_getElem? (i := 11) rfl) (by kernel_rfl))
          subst e6
          have e7 := (show v7 = .int .i64 (aget d6 1) from hf _ (List.mem_of_getElem? (i := 12) rfl) (by kernel_rfl))
          subst e7
          have e8 := (show v8 = .int .i64 (aget d6 2) from hf _ (List.mem_of_getElem? (i := 13) rfl) (by kernel_rfl))
          subst e8
          have e10 := (show v10 = .int .i64 x9 from hf _ (List.mem_of_getElem? (i := 15) rfl) (by kernel_rfl))
          subst e10
          show Option.isSome _ = true
          kernel_rfl
        · intro vs gq stq hl hf
          replace hl : vs.length = 12 := hl
          obtain ⟨v0, vs0, rfl, hl0⟩ := len_succ hl
          obtain ⟨v1, vs1, rfl, hl1⟩ := len_succ hl0
          obtain ⟨v2, vs2, rfl, hl2⟩ := len_succ hl1
          obtain ⟨v3, vs3, rfl, hl3⟩ := len_succ hl2
          obtain ⟨v4, vs4, rfl, hl4⟩ := len_succ hl3
          obtain ⟨v5, vs5, rfl, hl5⟩ := len_succ hl4
          obtain ⟨v6, vs6, rfl, hl6⟩ := len_succ hl5
          obtain ⟨v7, vs7, rfl, hl7⟩ := len_succ hl6
          obtain ⟨v8, vs8, rfl, hl8⟩ := len_succ hl7
          obtain ⟨v9, vs9, rfl, hl9⟩ := len_succ hl8
          obtain ⟨v10, vs10, rfl, hl10⟩ := len_succ hl9
          obtain ⟨v11, vs11, rfl, hl11⟩ := len_succ hl10
          obtain rfl := len_zero hl11
          have e5 := (show v5 = .bool false from hf _ (List.mem_of_getElem? (i := 10) rfl) (by kernel_rfl))
          subst e5
          have e6 := (show v6 = .int .i64 (aget d6 0) from hf _ (List.mem_of_getElem? (i := 11) rfl) (by kernel_rfl))
          subst e6
          have e7 := (show v7 = .int .i64 (aget d6 1) from hf _ (List.mem_of_getElem? (i := 12) rfl) (by kernel_rfl))
          subst e7
          have e8 := (show v8 = .int .i64 (aget d6 2) from hf _ (List.mem_of_getElem? (i := 13) rfl) (by kernel_rfl))
          subst e8
          have e10 := (show v10 = .int .i64 x9 from hf _ (List.mem_of_getElem? (i := 15) rfl) (by kernel_rfl))
          subst e10
          show Option.isSome _ = true
          kernel_rfl
        · intro vs gq stq hl hf
          replace hl : vs.length = 12 := hl
          obtain ⟨v0, vs0, rfl, hl0⟩ := len_succ hl
          obtain ⟨v1, vs1, rfl, hl1⟩ := len_succ hl0
          obtain ⟨v2, vs2, rfl, hl2⟩ := len_succ hl1
          obtain ⟨v3, vs3, rfl, hl3⟩ := len_succ hl2
          obtain ⟨v4, vs4, rfl, hl4⟩ := len_succ hl3
          obtain ⟨v5, vs5, rfl, hl5⟩ := len_succ hl4
          obtain ⟨v6, vs6, rfl, hl6⟩ := len_succ hl5
          obtain ⟨v7, vs7, rfl, hl7⟩ := len_succ hl6
          obtain ⟨v8, vs8, rfl, hl8⟩ := len_succ hl7
          obtain ⟨v9, vs9, rfl, hl9⟩ := len_succ hl8
          obtain ⟨v10, vs10, rfl, hl10⟩ := len_succ hl9
          obtain ⟨v11, vs11, rfl, hl11⟩ := len_succ hl10
          obtain rfl := len_zero hl11
          have e11 := (show v11 = .bool true from hf _ (List.mem_of_getElem? (i := 17) rfl) (by kernel_rfl))
          subst e11
          show Option.isSome _ = true
          kernel_rfl
        · intro vs gq stq hl hf
          replace hl : vs.length = 12 := hl
          obtain ⟨v0, vs0, rfl, hl0⟩ := len_succ hl
          obtain ⟨v1, vs1, rfl, hl1⟩ := len_succ hl0
          obtain ⟨v2, vs2, rfl, hl2⟩ := len_succ hl1
          obtain ⟨v3, vs3, rfl, hl3⟩ := len_succ hl2
          obtain ⟨v4, vs4, rfl, hl4⟩ := len_succ hl3
          obtain ⟨v5, vs5, rfl, hl5⟩ := len_succ hl4
          obtain ⟨v6, vs6, rfl, hl6⟩ := len_succ hl5
          obtain ⟨v7, vs7, rfl, hl7⟩ := len_succ hl6
          obtain ⟨v8, vs8, rfl, hl8⟩ := len_succ hl7
          obtain ⟨v9, vs9, rfl, hl9⟩ := len_succ hl8
          obtain ⟨v10, vs10, rfl, hl10⟩ := len_succ hl9
          obtain ⟨v11, vs11, rfl, hl11⟩ := len_succ hl10
          obtain rfl := len_zero hl11
          have e11 := (show v11 = .bool true from hf _ (List.mem_of_getElem? (i := 17) rfl) (by kernel_rfl))
          subst e11
          show Option.isSome _ = true
          kernel_rfl
        · intro vs gq stq hl hf
          replace hl : vs.length = 12 := hl
          obtain ⟨v0, vs0, rfl, hl0⟩ := len_succ hl
          obtain ⟨v1, vs1, rfl, hl1⟩ := len_succ hl0
          obtain ⟨v2, vs2, rfl, hl2⟩ := len_succ hl1
          obtain ⟨v3, vs3, rfl, hl3⟩ := len_succ hl2
          obtain ⟨v4, vs4, rfl, hl4⟩ := len_succ hl3
          obtain ⟨v5, vs5, rfl, hl5⟩ := len_succ hl4
          obtain ⟨v6, vs6, rfl, hl6⟩ := len_succ hl5
          obtain ⟨v7, vs7, rfl, hl7⟩ := len_succ hl6
          obtain ⟨v8, vs8, rfl, hl8⟩ := len_succ hl7
          obtain ⟨v9, vs9, rfl, hl9⟩ := len_succ hl8
          obtain ⟨v10, vs10, rfl, hl10⟩ := len_succ hl9
          obtain ⟨v11, vs11, rfl, hl11⟩ := len_succ hl10
          obtain rfl := len_zero hl11
          have e11 := (show v11 = .bool true from hf _ (List.mem_of_getElem? (i := 17) rfl) (by kernel_rfl))
          subst e11
          show Option.isSome _ = true
          kernel_rfl
        · intro vs gq stq hl hf
          replace hl : vs.length = 12 := hl
          obtain ⟨v0, vs0, rfl, hl0⟩ := len_succ hl
          obtain ⟨v1, vs1, rfl, hl1⟩ := len_succ hl0
          obtain ⟨v2, vs2, rfl, hl2⟩ := len_succ hl1
          obtain ⟨v3, vs3, rfl, hl3⟩ := len_succ hl2
          obtain ⟨v4, vs4, rfl, hl4⟩ := len_succ hl3
          obtain ⟨v5, vs5, rfl, hl5⟩ := len_succ hl4
          obtain ⟨v6, vs6, rfl, hl6⟩ := len_succ hl5
          obtain ⟨v7, vs7, rfl, hl7⟩ := len_succ hl6
          obtain ⟨v8, vs8, rfl, hl8⟩ := len_succ hl7
          obtain ⟨v9, vs9, rfl, hl9⟩ := len_succ hl8
          obtain ⟨v10, vs10, rfl, hl10⟩ := len_succ hl9
          obtain ⟨v11, vs11, rfl, hl11⟩ := len_succ hl10
          obtain rfl := len_zero hl11
          have e11 := (show v11 = .bool true from hf _ (List.mem_of_getElem? (i := 17) rfl) (by kernel_rfl))
          subst e11
          show Option.isSome _ = true
          kernel_rfl
        · intro vs gq stq hl hf
          replace hl : vs.length = 12 := hl
          obtain ⟨v0, vs0, rfl, hl0⟩ := len_succ hl
          obtain ⟨v1, vs1, rfl, hl1⟩ := len_succ hl0
          obtain ⟨v2, vs2, rfl, hl2⟩ := len_succ hl1
          obtain ⟨v3, vs3, rfl, hl3⟩ := len_succ hl2
          obtain ⟨v4, vs4, rfl, hl4⟩ := len_succ hl3
          obtain ⟨v5, vs5, rfl, hl5⟩ := len_succ hl4
          obtain ⟨v6, vs6, rfl, hl6⟩ := len_succ hl5
          obtain ⟨v7, vs7, rfl, hl7⟩ := len_succ hl6
          obtain ⟨v8, vs8, rfl, hl8⟩ := len_succ hl7
          obtain ⟨v9, vs9, rfl, hl9⟩ := len_succ hl8
          obtain ⟨v10, vs10, rfl, hl10⟩ := len_succ hl9
          obtain ⟨v11, vs11, rfl, hl11⟩ := len_succ hl10
          obtain rfl := len_zero hl11
          have e11 := (show v11 = .bool true from hf _ (List.mem_of_getElem? (i := 17) rfl) (by kernel_rfl))
          subst e11
          show Option.isSome _ = true
          kernel_rfl
        · intro vs gq stq hl hf
          replace hl : vs.length = 12 := hl
          obtain ⟨v0, vs0, rfl, hl0⟩ := len_succ hl
          obtain ⟨v1, vs1, rfl, hl1⟩ := len_succ hl0
          obtain ⟨v2, vs2, rfl, hl2⟩ := len_succ hl1
          obtain ⟨v3, vs3, rfl, hl3⟩ := len_succ hl2
          obtain ⟨v4, vs4, rfl, hl4⟩ := len_succ hl3
          obtain ⟨v5, vs5, rfl, hl5⟩ := len_succ hl4
          obtain ⟨v6, vs6, rfl, hl6⟩ := len_succ hl5
          obtain ⟨v7, vs7, rfl, hl7⟩ := len_succ hl6
          obtain ⟨v8, vs8, rfl, hl8⟩ := len_succ hl7
          obtain ⟨v9, vs9, rfl, hl9⟩ := len_succ hl8
          obtain ⟨v10, vs10, rfl, hl10⟩ := len_succ hl9
          obtain ⟨v11, vs11, rfl, hl11⟩ := len_succ hl10
          obtain rfl := len_zero hl11
          have e11 := (show v11 = .bool true from hf _ (List.mem_of_getElem? (i := 17) rfl) (by kernel_rfl))
          subst e11
          show Option.isSome _ = true
          kernel_rfl
        · intro vs gq stq hl hf
          replace hl : vs.length = 12 := hl
          obtain ⟨v0, vs0, rfl, hl0⟩ := len_succ hl
          obtain ⟨v1, vs1, rfl, hl1⟩ := len_succ hl0
          obtain ⟨v2, vs2, rfl, hl2⟩ := len_succ hl1
          obtain ⟨v3, vs3, rfl, hl3⟩ := len_succ hl2
          obtain ⟨v4, vs4, rfl, hl4⟩ := len_succ hl3
          obtain ⟨v5, vs5, rfl, hl5⟩ := len_succ hl4
          obtain ⟨v6, vs6, rfl, hl6⟩ := len_succ hl5
          obtain ⟨v7, vs7, rfl, hl7⟩ := len_succ hl6
          obtain ⟨v8, vs8, rfl, hl8⟩ := len_succ hl7
          obtain ⟨v9, vs9, rfl, hl9⟩ := len_succ hl8
          obtain ⟨v10, vs10, rfl, hl10⟩ := len_succ hl9
          obtain ⟨v11, vs11, rfl, hl11⟩ := len_succ hl10
          obtain rfl := len_zero hl11
          have e11 := (show v11 = .bool true from hf _ (List.mem_of_getElem? (i := 17) rfl) (by kernel_rfl))
          subst e11
          show Option.isSome _ = true
          kernel_rfl
        · intro vs gq stq hl hf
          replace hl : vs.length = 12 := hl
          obtain ⟨v0, vs0, rfl, hl0⟩ := len_succ hl
          obtain ⟨v1, vs1, rfl, hl1⟩ := len_succ hl0
          obtain ⟨v2, vs2, rfl, hl2⟩ := len_succ hl1
          obtain ⟨v3, vs3, rfl, hl3⟩ := len_succ hl2
          obtain ⟨v4, vs4, rfl, hl4⟩ := len_succ hl3
          obtain ⟨v5, vs5, rfl, hl5⟩ := len_succ hl4
          obtain ⟨v6, vs6, rfl, hl6⟩ := len_succ hl5
          obtain ⟨v7, vs7, rfl, hl7⟩ := len_succ hl6
          obtain ⟨v8, vs8, rfl, hl8⟩ := len_succ hl7
          obtain ⟨v9, vs9, rfl, hl9⟩ := len_succ hl8
          obtain ⟨v10, vs10, rfl, hl10⟩ := len_succ hl9
          obtain ⟨v11, vs11, rfl, hl11⟩ := len_succ hl10
          obtain rfl := len_zero hl11
          have e11 := (show v11 = .bool true from hf _ (List.mem_of_getElem? (i := 17) rfl) (by kernel_rfl))
          subst e11
          show Option.isSome _ = true
          kernel_rfl
        · intro vs gq stq hl hf
          replace hl : vs.length = 12 := hl
          obtain ⟨v0, vs0, rfl, hl0⟩ := len_succ hl
          obtain ⟨v1, vs1, rfl, hl1⟩ := len_succ hl0
          obtain ⟨v2, vs2, rfl, hl2⟩ := len_succ hl1
          obtain ⟨v3, vs3, rfl, hl3⟩ := len_succ hl2
          obtain ⟨v4, vs4, rfl, hl4⟩ := len_succ hl3
          obtain ⟨v5, vs5, rfl, hl5⟩ := len_succ hl4
          obtain ⟨v6, vs6, rfl, hl6⟩ := len_succ hl5
          obtain ⟨v7, vs7, rfl, hl7⟩ := len_succ hl6
          obtain ⟨v8, vs8, rfl, hl8⟩ := len_succ hl7
          obtain ⟨v9, vs9, rfl, hl9⟩ := len_succ hl8
          obtain ⟨v10, vs10, rfl, hl10⟩ := len_succ hl9
          obtain ⟨v11, vs11, rfl, hl11⟩ := len_succ hl10
          obtain rfl := len_zero hl11
          have e11 := (show v11 = .bool true from hf _ (List.mem_of_getElem? (i := 17) rfl) (by kernel_rfl))
          subst e11
          show Option.isSome _ = true
          kernel_rfl
        · intro vs gq stq hl hf
          replace hl : vs.length = 12 := hl
          obtain ⟨v0, vs0, rfl, hl0⟩ := len_succ hl
          obtain ⟨v1, vs1, rfl, hl1⟩ := len_succ hl0
          obtain ⟨v2, vs2, rfl, hl2⟩ := len_succ hl1
          obtain ⟨v3, vs3, rfl, hl3⟩ := len_succ hl2
          obtain ⟨v4, vs4, rfl, hl4⟩ := len_succ hl3
          obtain ⟨v5, vs5, rfl, hl5⟩ := len_succ hl4
          obtain ⟨v6, vs6, rfl, hl6⟩ := len_succ hl5
          obtain ⟨v7, vs7, rfl, hl7⟩ := len_succ hl6
          obtain ⟨v8, vs8, rfl, hl8⟩ := len_succ hl7
          obtain ⟨v9, vs9, rfl, hl9⟩ := len_succ hl8
          obtain ⟨v10, vs10, rfl, hl10⟩ := len_succ hl9
          obtain ⟨v11, vs11, rfl, hl11⟩ := len_succ hl10
          obtain rfl := len_zero hl11
          have e11 := (show v11 = .bool true from hf _ (List.mem_of_getElem? (i := 17) rfl) (by kernel_rfl))
          subst e11
          show Option.isSome _ = true
          kernel_rfl
        · intro vs gq stq hl hf
          replace hl : vs.length = 12 := hl
          obtain ⟨v0, vs0, rfl, hl0⟩ := len_succ hl
          obtain ⟨v1, vs1, rfl, hl1⟩ := len_succ hl0
          obtain ⟨v2, vs2, rfl, hl2⟩ := len_succ hl1
          obtain ⟨v3, vs3, rfl, hl3⟩ := len_succ hl2
          obtain ⟨v4, vs4, rfl, hl4⟩ := len_succ hl3
          obtain ⟨v5, vs5, rfl, hl5⟩ := len_succ hl4
          obtain ⟨v6, vs6, rfl, hl6⟩ := len_succ hl5
          obtain ⟨v7, vs7, rfl, hl7⟩ := len_succ hl6
          obtain ⟨v8, vs8, rfl, hl8⟩ := len_succ hl7
          obtain ⟨v9, vs9, rfl, hl9⟩ := len_succ hl8
          obtain ⟨v10, vs10, rfl, hl10⟩ := len_succ hl9
          obtain ⟨v11, vs11, rfl, hl11⟩ := len_succ hl10
          obtain rfl := len_zero hl11
          have e11 := (show v11 = .bool true from hf _ (List.mem_of_getElem? (i := 17) rfl) (by kernel_rfl))
          subst e11
          show Option.isSome _ = true
          kernel_rfl
        · intro vs gq stq hl hf
          replace hl : vs.length = 12 := hl
          obtain ⟨v0, vs0, rfl, hl0⟩ := len_succ hl
          obtain ⟨v1, vs1, rfl, hl1⟩ := len_succ hl0
          obtain ⟨v2, vs2, rfl, hl2⟩ := len_succ hl1
          obtain ⟨v3, vs3, rfl, hl3⟩ := len_succ hl2
          obtain ⟨v4, vs4, rfl, hl4⟩ := len_succ hl3
          obtain ⟨v5, vs5, rfl, hl5⟩ := len_succ hl4
          obtain ⟨v6, vs6, rfl, hl6⟩ := len_succ hl5
          obtain ⟨v7, vs7, rfl, hl7⟩ := len_succ hl6
          obtain ⟨v8, vs8, rfl, hl8⟩ := len_succ hl7
          obtain ⟨v9, vs9, rfl, hl9⟩ := len_succ hl8
          obtain ⟨v10, vs10, rfl, hl10⟩ := len_succ hl9
          obtain ⟨v11, vs11, rfl, hl11⟩ := len_succ hl10
          obtain rfl := len_zero hl11
          have e11 := (show v11 = .bool true from hf _ (List.mem_of_getElem? (i := 17) rfl) (by kernel_rfl))
          subst e11
          show Option.isSome _ = true
          kernel_rfl
        · intro vs gq stq hl hf
          replace hl : vs.length = 12 := hl
          obtain ⟨v0, vs0, rfl, hl0⟩ := len_succ hl
          obtain ⟨v1, vs1, rfl, hl1⟩ := len_succ hl0
          obtain ⟨v2, vs2, rfl, hl2⟩ := len_succ hl1
          obtain ⟨v3, vs3, rfl, hl3⟩ := len_succ hl2
          obtain ⟨v4, vs4, rfl, hl4⟩ := len_succ hl3
          obtain ⟨v5, vs5, rfl, hl5⟩ := len_succ hl4
          obtain ⟨v6, vs6, rfl, hl6⟩ := len_succ hl5
          obtain ⟨v7, vs7, rfl, hl7⟩ := len_succ hl6
          obtain ⟨v8, vs8, rfl, hl8⟩ := len_succ hl7
          obtain ⟨v9, vs9, rfl, hl9⟩ := len_succ hl8
          obtain ⟨v10, vs10, rfl, hl10⟩ := len_succ hl9
          obtain ⟨v11, vs11, rfl, hl11⟩ := len_succ hl10
          obtain rfl := len_zero hl11
          have e11 := (show v11 = .bool true from hf _ (List.mem_of_getElem? (i := 17) rfl) (by kernel_rfl))
          subst e11
          show Option.isSome _ = true
          kernel_rfl
        · intro vs gq stq hl hf
          replace hl : vs.length = 12 := hl
          obtain ⟨v0, vs0, rfl, hl0⟩ := len_succ hl
          obtain ⟨v1, vs1, rfl, hl1⟩ := len_succ hl0
          obtain ⟨v2, vs2, rfl, hl2⟩ := len_succ hl1
          obtain ⟨v3, vs3, rfl, hl3⟩ := len_succ hl2
          obtain ⟨v4, vs4, rfl, hl4⟩ := len_succ hl3
          obtain ⟨v5, vs5, rfl, hl5⟩ := len_succ hl4
          obtain ⟨v6, vs6, rfl, hl6⟩ := len_succ hl5
          obtain ⟨v7, vs7, rfl, hl7⟩ := len_succ hl6
          obtain ⟨v8, vs8, rfl, hl8⟩ := len_succ hl7
          obtain ⟨v9, vs9, rfl, hl9⟩ := len_succ hl8
          obtain ⟨v10, vs10, rfl, hl10⟩ := len_succ hl9
          obtain ⟨v11, vs11, rfl, hl11⟩ := len_succ hl10
          obtain rfl := len_zero hl11
          have e11 := (show v11 = .bool true from hf _ (List.mem_of_getElem? (i := 17) rfl) (by kernel_rfl))
          subst e11
          show Option.isSome _ = true
          kernel_rfl
      · intro j hj
        have hq : j = 0 ∨ j = 1 ∨ j = 2 ∨ j = 3 ∨ j = 4 ∨ j = 5 ∨ j = 6 ∨ j = 7 ∨ j = 8 ∨ j = 9 ∨ j = 10 ∨ j = 11 := by have h : j < 12 := hj; omega
        rcases hq with rfl | rfl | rfl | rfl | rfl | rfl | rfl | rfl | rfl | rfl | rfl | rfl
        · intro vs gq stq hl hf
          replace hl : vs.length = 12 := hl
          obtain ⟨v0, vs0, rfl, hl0⟩ := len_succ hl
          obtain ⟨v1, vs1, rfl, hl1⟩ := len_succ hl0
          obtain ⟨v2, vs2, rfl, hl2⟩ := len_succ hl1
          obtain ⟨v3, vs3, rfl, hl3⟩ := len_succ hl2
          obtain ⟨v4, vs4, rfl, hl4⟩ := len_succ hl3
          obtain ⟨v5, vs5, rfl, hl5⟩ := len_succ hl4
          obtain ⟨v6, vs6, rfl, hl6⟩ := len_succ hl5
          obtain ⟨v7, vs7, rfl, hl7⟩ := len_succ hl6
          obtain ⟨v8, vs8, rfl, hl8⟩ := len_succ hl7
          obtain ⟨v9, vs9, rfl, hl9⟩ := len_succ hl8
          obtain ⟨v10, vs10, rfl, hl10⟩ := len_succ hl9
          obtain ⟨v11, vs11, rfl, hl11⟩ := len_succ hl10
          obtain rfl := len_zero hl11
          have hB4 := (show Box gq (t + 4) b3 34 [encA .i64 d5] [3] from hf _ (List.mem_of_getElem? (i := 2) rfl) (by kernel_rfl))
          refine WP.loadE (ty := 3) (o := 0) (m := 3) (k := .i64) (d := d5) (i := 0) hB4 (by kernel_rfl) (by decide) (by kernel_rfl) (by kernel_rfl) ?_
          refine WP.done (by kernel_rfl) (Shown.ok (v := .int .i64 (aget d5 0)) (by kernel_rfl) (Step.refl _ _) ?_)
          exact ⟨trivial, trivial, trivial, trivial, rfl, trivial, trivial, trivial, trivial, trivial, trivial, trivial, trivial, trivial, trivial, trivial, trivial, trivial, trivial⟩
        · intro vs gq stq hl hf
          replace hl : vs.length = 12 := hl
          obtain ⟨v0, vs0, rfl, hl0⟩ := len_succ hl
          obtain ⟨v1, vs1, rfl, hl1⟩ := len_succ hl0
          obtain ⟨v2, vs2, rfl, hl2⟩ := len_succ hl1
          obtain ⟨v3, vs3, rfl, hl3⟩ := len_succ hl2
          obtain ⟨v4, vs4, rfl, hl4⟩ := len_succ hl3
          obtain ⟨v5, vs5, rfl, hl5⟩ := len_succ hl4
          obtain ⟨v6, vs6, rfl, hl6⟩ := len_succ hl5
          obtain ⟨v7, vs7, rfl, hl7⟩ := len_succ hl6
          obtain ⟨v8, vs8, rfl, hl8⟩ := len_succ hl7
          obtain ⟨v9, vs9, rfl, hl9⟩ := len_succ hl8
          obtain ⟨v10, vs10, rfl, hl10⟩ := len_succ hl9
          obtain ⟨v11, vs11, rfl, hl11⟩ := len_succ hl10
          obtain rfl := len_zero hl11
          have hB4 := (show Box gq (t + 4) b3 34 [encA .i64 d5] [3] from hf _ (List.mem_of_getElem? (i := 2) rfl) (by kernel_rfl))
          refine WP.loadE (ty := 3) (o := 0) (m := 3) (k := .i64) (d := d5) (i := 1) hB4 (by kernel_rfl) (by decide) (by kernel_rfl) (by kernel_rfl) ?_
          refine WP.done (by kernel_rfl) (Shown.ok (v := .int .i64 (aget d5 1)) (by kernel_rfl) (Step.refl _ _) ?_)
          exact ⟨trivial, trivial, trivial, trivial, trivial, rfl, trivial, trivial, trivial, trivial, trivial, trivial, trivial, trivial, trivial, trivial, trivial, trivial, trivial⟩
        · intro vs gq stq hl hf
          replace hl : vs.length = 12 := hl
          obtain ⟨v0, vs0, rfl, hl0⟩ := len_succ hl
          obtain ⟨v1, vs1, rfl, hl1⟩ := len_succ hl0
          obtain ⟨v2, vs2, rfl, hl2⟩ := len_succ hl1
          obtain ⟨v3, vs3, rfl, hl3⟩ := len_succ hl2
          obtain ⟨v4, vs4, rfl, hl4⟩ := len_succ hl3
          obtain ⟨v5, vs5, rfl, hl5⟩ := len_succ hl4
          obtain ⟨v6, vs6, rfl, hl6⟩ := len_succ hl5
          obtain ⟨v7, vs7, rfl, hl7⟩ := len_succ hl6
          obtain ⟨v8, vs8, rfl, hl8⟩ := len_succ hl7
          obtain ⟨v9, vs9, rfl, hl9⟩ := len_succ hl8
          obtain ⟨v10, vs10, rfl, hl10⟩ := len_succ hl9
          obtain ⟨v11, vs11, rfl, hl11⟩ := len_succ hl10
          obtain rfl := len_zero hl11
          have hB4 := (show Box gq (t + 4) b3 34 [encA .i64 d5] [3] from hf _ (List.mem_of_getElem? (i := 2) rfl) (by kernel_rfl))
          refine WP.loadE (ty := 3) (o := 0) (m := 3) (k := .i64) (d := d5) (i := 2) hB4 (by kernel_rfl) (by decide) (by kernel_rfl) (by kernel_rfl) ?_
          refine WP.done (by kernel_rfl) (Shown.ok (v := .int .i64 (aget d5 2)) (by kernel_rfl) (Step.refl _ _) ?_)
          exact ⟨trivial, trivial, trivial, trivial, trivial, trivial, rfl, trivial, trivial, trivial, trivial, trivial, trivial, trivial, trivial, trivial, trivial, trivial, trivial⟩
        · intro vs gq stq hl hf
          replace hl : vs.length = 12 := hl
          obtain ⟨v0, vs0, rfl, hl0⟩ := len_succ hl
          obtain ⟨v1, vs1, rfl, hl1⟩ := len_succ hl0
          obtain ⟨v2, vs2, rfl, hl2⟩ := len_succ hl1
          obtain ⟨v3, vs3, rfl, hl3⟩ := len_succ hl2
          obtain ⟨v4, vs4, rfl, hl4⟩ := len_succ hl3
          obtain ⟨v5, vs5, rfl, hl5⟩ := len_succ hl4
          obtain ⟨v6, vs6, rfl, hl6⟩ := len_succ hl5
          obtain ⟨v7, vs7, rfl, hl7⟩ := len_succ hl6
          obtain ⟨v8, vs8, rfl, hl8⟩ := len_succ hl7
          obtain ⟨v9, vs9, rfl, hl9⟩ := len_succ hl8
          obtain ⟨v10, vs10, rfl, hl10⟩ := len_succ hl9
          obtain ⟨v11, vs11, rfl, hl11⟩ := len_succ hl10
          obtain rfl := len_zero hl11
          have hB2 := (show Box gq (t + 3) b2 32 [encA .u8 d3, [.int .i64 x4], encA .i64 d4, [.slice a2 n2 c2]] [8, 1, 2, 1] from hf _ (List.mem_of_getElem? (i := 0) rfl) (by kernel_rfl))
          refine WP.loadB (v := AG [encA .u8 d3, [.int .i64 x4], encA .i64 d4, [.slice a2 n2 c2]]) hB2 (by kernel_rfl) (by kernel_rfl) ?_
          refine WP.done (by kernel_rfl) (Shown.ok (v := AG [encA .u8 d3, [.int .i64 x4], encA .i64 d4, [.slice a2 n2 c2]]) (by kernel_rfl) (Step.refl _ _) ?_)
          exact ⟨trivial, trivial, trivial, trivial, trivial, trivial, trivial, rfl, trivial, trivial, trivial, trivial, trivial, trivial, trivial, trivial, trivial, trivial, trivial⟩
        · intro vs gq stq hl hf
          replace hl : vs.length = 12 := hl
          obtain ⟨v0, vs0, rfl, hl0⟩ := len_succ hl
          obtain ⟨v1, vs1, rfl, hl1⟩ := len_succ hl0
          obtain ⟨v2, vs2, rfl, hl2⟩ := len_succ hl1
          obtain ⟨v3, vs3, rfl, hl3⟩ := len_succ hl2
          obtain ⟨v4, vs4, rfl, hl4⟩ := len_succ hl3
          obtain ⟨v5, vs5, rfl, hl5⟩ := len_succ hl4
          obtain ⟨v6, vs6, rfl, hl6⟩ := len_succ hl5
          obtain ⟨v7, vs7, rfl, hl7⟩ := len_succ hl6
          obtain ⟨v8, vs8, rfl, hl8⟩ := len_succ hl7
          obtain ⟨v9, vs9, rfl, hl9⟩ := len_succ hl8
          obtain ⟨v10, vs10, rfl, hl10⟩ := len_succ hl9
          obtain ⟨v11, vs11, rfl, hl11⟩ := len_succ hl10
          obtain rfl := len_zero hl11
          have hR2 := (show OwnS k_S_purse_Held gq (t + 2) 56 a2 n2 c2 l2 from hf _ (List.mem_of_getElem? (i := 1) rfl) (by kernel_rfl))
          have e3 := (show v3 = AG [encA .u8 d3, [.int .i64 x4], encA .i64 d4, [.slice a2 n2 c2]] from hf _ (List.mem_of_getElem? (i := 7) rfl) (by kernel_rfl))
          subst e3
          have hS7 : 0 ∉ ([(t + 2)] : List Nat) := by simp <;> omega
          have stl7 := GW.lend_step gq [(t + 2)]
          have hRl7 := hR2.lendTo hS7 (by simp)
          refine WP.regw (g' := GW.lend gq [(t + 2)]) rfl ?_
          have hcal12 := P.purse_Purse_Total (GW.lend gq [(t + 2)]) d3 x4 d4 l2 a2 n2 c2 hRl7 x8 hk12
          refine WP.callC hcal12 (by kernel_rfl) ?_
          rintro _ g28 st28 rfl
          have st29 := (GW.back_step st28).lentS
          have hO7 := hR2.backTo hS7 (by simp) st28 (fun x => x)
          refine WP.regw (g' := GW.back gq g28 [(t + 2)]) rfl ?_
          generalize GW.back gq g28 [(t + 2)] = g29 at *
          refine WP.done (by kernel_rfl) (Shown.ok (v := .int .i64 x8) (by kernel_rfl) st29 ?_)
          exact ⟨trivial, trivial, trivial, trivial, trivial, trivial, trivial, trivial, rfl, hO7, trivial, trivial, trivial, trivial, trivial, trivial, trivial, trivial, trivial⟩
        · intro vs gq stq hl hf
          replace hl : vs.length = 12 := hl
          obtain ⟨v0, vs0, rfl, hl0⟩ := len_succ hl
          obtain ⟨v1, vs1, rfl, hl1⟩ := len_succ hl0
          obtain ⟨v2, vs2, rfl, hl2⟩ := len_succ hl1
          obtain ⟨v3, vs3, rfl, hl3⟩ := len_succ hl2
          obtain ⟨v4, vs4, rfl, hl4⟩ := len_succ hl3
          obtain ⟨v5, vs5, rfl, hl5⟩ := len_succ hl4
          obtain ⟨v6, vs6, rfl, hl6⟩ := len_succ hl5
          obtain ⟨v7, vs7, rfl, hl7⟩ := len_succ hl6
          obtain ⟨v8, vs8, rfl, hl8⟩ := len_succ hl7
          obtain ⟨v9, vs9, rfl, hl9⟩ := len_succ hl8
          obtain ⟨v10, vs10, rfl, hl10⟩ := len_succ hl9
          obtain ⟨v11, vs11, rfl, hl11⟩ := len_succ hl10
          obtain rfl := len_zero hl11
          have e0 := (show v0 = .int .i64 (aget d5 0) from hf _ (List.mem_of_getElem? (i := 4) rfl) (by kernel_rfl))
          subst e0
          have e1 := (show v1 = .int .i64 (aget d5 1) from hf _ (List.mem_of_getElem? (i := 5) rfl) (by kernel_rfl))
          subst e1
          have e2 := (show v2 = .int .i64 (aget d5 2) from hf _ (List.mem_of_getElem? (i := 6) rfl) (by kernel_rfl))
          subst e2
          have e4 := (show v4 = .int .i64 x8 from hf _ (List.mem_of_getElem? (i := 8) rfl) (by kernel_rfl))
          subst e4
          refine WP.still 1 (by kernel_rfl) ?_
          refine WP.done (by kernel_rfl) (Shown.ok (v := .bool ((IntKind.i64.wrap ((IntKind.i64.wrap ((aget d5 0) + (aget d5 1))) + (aget d5 2))) != x8)) (by kernel_rfl) (Step.refl _ _) ?_)
          exact ⟨trivial, trivial, trivial, trivial, trivial, trivial, trivial, trivial, trivial, trivial, congrArg Value.bool h13, trivial, trivial, trivial, trivial, trivial, trivial, trivial, trivial⟩
        · intro vs gq stq hl hf
          replace hl : vs.length = 12 := hl
          obtain ⟨v0, vs0, rfl, hl0⟩ := len_succ hl
          obtain ⟨v1, vs1, rfl, hl1⟩ := len_succ hl0
          obtain ⟨v2, vs2, rfl, hl2⟩ := len_succ hl1
          obtain ⟨v3, vs3, rfl, hl3⟩ := len_succ hl2
          obtain ⟨v4, vs4, rfl, hl4⟩ := len_succ hl3
          obtain ⟨v5, vs5, rfl, hl5⟩ := len_succ hl4
          obtain ⟨v6, vs6, rfl, hl6⟩ := len_succ hl5
          obtain ⟨v7, vs7, rfl, hl7⟩ := len_succ hl6
          obtain ⟨v8, vs8, rfl, hl8⟩ := len_succ hl7
          obtain ⟨v9, vs9, rfl, hl9⟩ := len_succ hl8
          obtain ⟨v10, vs10, rfl, hl10⟩ := len_succ hl9
          obtain ⟨v11, vs11, rfl, hl11⟩ := len_succ hl10
          obtain rfl := len_zero hl11
          have hB5 := (show Box gq (t + 5) b4 34 [encA .i64 d6] [3] from hf _ (List.mem_of_getElem? (i := 3) rfl) (by kernel_rfl))
          have e5 := (show v5 = .bool false from hf _ (List.mem_of_getElem? (i := 10) rfl) (by kernel_rfl))
          subst e5
          refine WP.loadE (ty := 3) (o := 0) (m := 3) (k := .i64) (d := d6) (i := 0) hB5 (by kernel_rfl) (by decide) (by kernel_rfl) (by kernel_rfl) ?_
          refine WP.done (by kernel_rfl) (Shown.ok (v := .int .i64 (aget d6 0)) (by kernel_rfl) (Step.refl _ _) ?_)
          exact ⟨trivial, trivial, trivial, trivial, trivial, trivial, trivial, trivial, trivial, trivial, trivial, rfl, trivial, trivial, trivial, trivial, trivial, trivial, trivial⟩
        · intro vs gq stq hl hf
          replace hl : vs.length = 12 := hl
          obtain ⟨v0, vs0, rfl, hl0⟩ := len_succ hl
          obtain ⟨v1, vs1, rfl, hl1⟩ := len_succ hl0
          obtain ⟨v2, vs2, rfl, hl2⟩ := len_succ hl1
          obtain ⟨v3, vs3, rfl, hl3⟩ := len_succ hl2
          obtain ⟨v4, vs4, rfl, hl4⟩ := len_succ hl3
          obtain ⟨v5, vs5, rfl, hl5⟩ := len_succ hl4
          obtain ⟨v6, vs6, rfl, hl6⟩ := len_succ hl5
          obtain ⟨v7, vs7, rfl, hl7⟩ := len_succ hl6
          obtain ⟨v8, vs8, rfl, hl8⟩ := len_succ hl7
          obtain ⟨v9, vs9, rfl, hl9⟩ := len_succ hl8
          obtain ⟨v10, vs10, rfl, hl10⟩ := len_succ hl9
          obtain ⟨v11, vs11, rfl, hl11⟩ := len_succ hl10
          obtain rfl := len_zero hl11
          have hB5 := (show Box gq (t + 5) b4 34 [encA .i64 d6] [3] from hf _ (List.mem_of_getElem? (i := 3) rfl) (by kernel_rfl))
          have e5 := (show v5 = .bool false from hf _ (List.mem_of_getElem? (i := 10) rfl) (by kernel_rfl))
          subst e5
          refine WP.loadE (ty := 3) (o := 0) (m := 3) (k := .i64) (d := d6) (i := 1) hB5 (by kernel_rfl) (by decide) (by kernel_rfl) (by kernel_rfl) ?_
          refine WP.done (by kernel_rfl) (Shown.ok (v := .int .i64 (aget d6 1)) (by kernel_rfl) (Step.refl _ _) ?_)
          exact ⟨trivial, trivial, trivial, trivial, trivial, trivial, trivial, trivial, trivial, trivial, trivial, trivial, rfl, trivial, trivial, trivial, trivial, trivial, trivial⟩
        · intro vs gq stq hl hf
          replace hl : vs.length = 12 := hl
          obtain ⟨v0, vs0, rfl, hl0⟩ := len_succ hl
          obtain ⟨v1, vs1, rfl, hl1⟩ := len_succ hl0
          obtain ⟨v2, vs2, rfl, hl2⟩ := len_succ hl1
          obtain ⟨v3, vs3, rfl, hl3⟩ := len_succ hl2
          obtain ⟨v4, vs4, rfl, hl4⟩ := len_succ hl3
          obtain ⟨v5, vs5, rfl, hl5⟩ := len_succ hl4
          obtain ⟨v6, vs6, rfl, hl6⟩ := len_succ hl5
          obtain ⟨v7, vs7, rfl, hl7⟩ := len_succ hl6
          obtain ⟨v8, vs8, rfl, hl8⟩ := len_succ hl7
          obtain ⟨v9, vs9, rfl, hl9⟩ := len_succ hl8
          obtain ⟨v10, vs10, rfl, hl10⟩ := len_succ hl9
          obtain ⟨v11, vs11, rfl, hl11⟩ := len_succ hl10
          obtain rfl := len_zero hl11
          have hB5 := (show Box gq (t + 5) b4 34 [encA .i64 d6] [3] from hf _ (List.mem_of_getElem? (i := 3) rfl) (by kernel_rfl))
          have e5 := (show v5 = .bool false from hf _ (List.mem_of_getElem? (i := 10) rfl) (by kernel_rfl))
          subst e5
          refine WP.loadE (ty := 3) (o := 0) (m := 3) (k := .i64) (d := d6) (i := 2) hB5 (by kernel_rfl) (by decide) (by kernel_rfl) (by kernel_rfl) ?_
          refine WP.done (by kernel_rfl) (Shown.ok (v := .int .i64 (aget d6 2)) (by kernel_rfl) (Step.refl _ _) ?_)
          exact ⟨trivial, trivial, trivial, trivial, trivial, trivial, trivial, trivial, trivial, trivial, trivial, trivial, trivial, rfl, trivial, trivial, trivial, trivial, trivial⟩
        · intro vs gq stq hl hf
          replace hl : vs.length = 12 := hl
          obtain ⟨v0, vs0, rfl, hl0⟩ := len_succ hl
          obtain ⟨v1, vs1, rfl, hl1⟩ := len_succ hl0
          obtain ⟨v2, vs2, rfl, hl2⟩ := len_succ hl1
          obtain ⟨v3, vs3, rfl, hl3⟩ := len_succ hl2
          obtain ⟨v4, vs4, rfl, hl4⟩ := len_succ hl3
          obtain ⟨v5, vs5, rfl, hl5⟩ := len_succ hl4
          obtain ⟨v6, vs6, rfl, hl6⟩ := len_succ hl5
          obtain ⟨v7, vs7, rfl, hl7⟩ := len_succ hl6
          obtain ⟨v8, vs8, rfl, hl8⟩ := len_succ hl7
          obtain ⟨v9, vs9, rfl, hl9⟩ := len_succ hl8
          obtain ⟨v10, vs10, rfl, hl10⟩ := len_succ hl9
          obtain ⟨v11, vs11, rfl, hl11⟩ := len_succ hl10
          obtain rfl := len_zero hl11
          have hB2 := (show Box gq (t + 3) b2 32 [encA .u8 d3, [.int .i64 x4], encA .i64 d4, [.slice a2 n2 c2]] [8, 1, 2, 1] from hf _ (List.mem_of_getElem? (i := 0) rfl) (by kernel_rfl))
          have e5 := (show v5 = .bool false from hf _ (List.mem_of_getElem? (i := 10) rfl) (by kernel_rfl))
          subst e5
          refine WP.loadB (v := AG [encA .u8 d3, [.int .i64 x4], encA .i64 d4, [.slice a2 n2 c2]]) hB2 (by kernel_rfl) (by kernel_rfl) ?_
          refine WP.done (by kernel_rfl) (Shown.ok (v := AG [encA .u8 d3, [.int .i64 x4], encA .i64 d4, [.slice a2 n2 c2]]) (by kernel_rfl) (Step.refl _ _) ?_)
          exact ⟨trivial, trivial, trivial, trivial, trivial, trivial, trivial, trivial, trivial, trivial, trivial, trivial, trivial, trivial, rfl, trivial, trivial, trivial, trivial⟩
        · intro vs gq stq hl hf
          replace hl : vs.length = 12 := hl
          obtain ⟨v0, vs0, rfl, hl0⟩ := len_succ hl
          obtain ⟨v1, vs1, rfl, hl1⟩ := len_succ hl0
          obtain ⟨v2, vs2, rfl, hl2⟩ := len_succ hl1
          obtain ⟨v3, vs3, rfl, hl3⟩ := len_succ hl2
          obtain ⟨v4, vs4, rfl, hl4⟩ := len_succ hl3
          obtain ⟨v5, vs5, rfl, hl5⟩ := len_succ hl4
          obtain ⟨v6, vs6, rfl, hl6⟩ := len_succ hl5
          obtain ⟨v7, vs7, rfl, hl7⟩ := len_succ hl6
          obtain ⟨v8, vs8, rfl, hl8⟩ := len_succ hl7
          obtain ⟨v9, vs9, rfl, hl9⟩ := len_succ hl8
          obtain ⟨v10, vs10, rfl, hl10⟩ := len_succ hl9
          obtain ⟨v11, vs11, rfl, hl11⟩ := len_succ hl10
          obtain rfl := len_zero hl11
          have hR2 := (show OwnS k_S_purse_Held gq (t + 2) 56 a2 n2 c2 l2 from hf _ (List.mem_of_getElem? (i := 9) rfl) (by kernel_rfl))
          have e5 := (show v5 = .bool false from hf _ (List.mem_of_getElem? (i := 10) rfl) (by kernel_rfl))
          subst e5
          have e9 := (show v9 = AG [encA .u8 d3, [.int .i64 x4], encA .i64 d4, [.slice a2 n2 c2]] from hf _ (List.mem_of_getElem? (i := 14) rfl) (by kernel_rfl))
          subst e9
          have hS8 : 0 ∉ ([(t + 2)] : List Nat) := by simp <;> omega
          have stl8 := GW.lend_step gq [(t + 2)]
          have hRl8 := hR2.lendTo hS8 (by simp)
          refine WP.regw (g' := GW.lend gq [(t + 2)]) rfl ?_
          have hcal13 := P.purse_Purse_Total (GW.lend gq [(t + 2)]) d3 x4 d4 l2 a2 n2 c2 hRl8 x9 hk13
          refine WP.callC hcal13 (by kernel_rfl) ?_
          rintro _ g31 st31 rfl
          have st32 := (GW.back_step st31).lentS
          have hO8 := hR2.backTo hS8 (by simp) st31 (fun x => x)
          refine WP.regw (g' := GW.back gq g31 [(t + 2)]) rfl ?_
          generalize GW.back gq g31 [(t + 2)] = g32 at *
          refine WP.done (by kernel_rfl) (Shown.ok (v := .int .i64 x9) (by kernel_rfl) st32 ?_)
          exact ⟨trivial, trivial, trivial, trivial, trivial, trivial, trivial, trivial, trivial, trivial, trivial, trivial, trivial, trivial, trivial, rfl, hO8, trivial, trivial⟩
        · intro vs gq stq hl hf
          replace hl : vs.length = 12 := hl
          obtain ⟨v0, vs0, rfl, hl0⟩ := len_succ hl
          obtain ⟨v1, vs1, rfl, hl1⟩ := len_succ hl0
          obtain ⟨v2, vs2, rfl, hl2⟩ := len_succ hl1
          obtain ⟨v3, vs3, rfl, hl3⟩ := len_succ hl2
          obtain ⟨v4, vs4, rfl, hl4⟩ := len_succ hl3
          obtain ⟨v5, vs5, rfl, hl5⟩ := len_succ hl4
          obtain ⟨v6, vs6, rfl, hl6⟩ := len_succ hl5
          obtain ⟨v7, vs7, rfl, hl7⟩ := len_succ hl6
          obtain ⟨v8, vs8, rfl, hl8⟩ := len_succ hl7
          obtain ⟨v9, vs9, rfl, hl9⟩ := len_succ hl8
          obtain ⟨v10, vs10, rfl, hl10⟩ := len_succ hl9
          obtain ⟨v11, vs11, rfl, hl11⟩ := len_succ hl10
          obtain rfl := len_zero hl11
          have e5 := (show v5 = .bool false from hf _ (List.mem_of_getElem? (i := 10) rfl) (by kernel_rfl))
          subst e5
          have e6 := (show v6 = .int .i64 (aget d6 0) from hf _ (List.mem_of_getElem? (i := 11) rfl) (by kernel_rfl))
          subst e6
          have e7 := (show v7 = .int .i64 (aget d6 1) from hf _ (List.mem_of_getElem? (i := 12) rfl) (by kernel_rfl))
          subst e7
          have e8 := (show v8 = .int .i64 (aget d6 2) from hf _ (List.mem_of_getElem? (i := 13) rfl) (by kernel_rfl))
          subst e8
          have e10 := (show v10 = .int .i64 x9 from hf _ (List.mem_of_getElem? (i := 15) rfl) (by kernel_rfl))
          subst e10
          refine WP.still 1 (by kernel_rfl) ?_
          refine WP.done (by kernel_rfl) (Shown.ok (v := .bool ((IntKind.i64.wrap ((IntKind.i64.wrap ((aget d6 0) + (aget d6 1))) + (aget d6 2))) != x9)) (by kernel_rfl) (Step.refl _ _) ?_)
          exact ⟨trivial, trivial, trivial, trivial, trivial, trivial, trivial, trivial, trivial, trivial, trivial, trivial, trivial, trivial, trivial, trivial, trivial, congrArg Value.bool h14, trivial⟩
      intro vs g33 st33 hl hf
      replace hl : vs.length = 12 := hl
      obtain ⟨v0, vs0, rfl, hl0⟩ := len_succ hl
      obtain ⟨v1, vs1, rfl, hl1⟩ := len_succ hl0
      obtain ⟨v2, vs2, rfl, hl2⟩ := len_succ hl1
      obtain ⟨v3, vs3, rfl, hl3⟩ := len_succ hl2
      obtain ⟨v4, vs4, rfl, hl4⟩ := len_succ hl3
      obtain ⟨v5, vs5, rfl, hl5⟩ := len_succ hl4
      obtain ⟨v6, vs6, rfl, hl6⟩ := len_succ hl5
      obtain ⟨v7, vs7, rfl, hl7⟩ := len_succ hl6
      obtain ⟨v8, vs8, rfl, hl8⟩ := len_succ hl7
      obtain ⟨v9, vs9, rfl, hl9⟩ := len_succ hl8
      obtain ⟨v10, vs10, rfl, hl10⟩ := len_succ hl9
      obtain ⟨v11, vs11, rfl, hl11⟩ := len_succ hl10
      obtain rfl := len_zero hl11
      have e11 := (show v11 = .bool true from hf _ (List.mem_of_getElem? (i := 17) rfl) (by kernel_rfl))
      subst e11
      replace hB4 := hB4.mono st33 (WL.no1 (by omega))
      replace hB5 := hB5.mono st33 (WL.no1 (by omega))
      replace tot := tot.trans (st33.up1 (.inr (by omega)))
      refine NX.post ?_
      exact ⟨true, ⟨by kernel_rfl, by kernel_rfl⟩, tot, hB4, hB5, hs⟩
    replace hs := of_if_f hs h14
    replace hs := Option.bind_eq_some_iff.1 hs
    obtain ⟨x10, hk14, hs⟩ := hs
    refine bool_split (b := ((IntKind.i64.wrap ((aget d7 0) + (aget d7 1))) != x10)) (fun h15 => ?_) (fun h15 => ?_)
    · replace hs := of_if_t hs h15
      refine CP.drawL (by kernel_rfl) [1, 3, 6, 8, 9, 11, 13, 15, 18, 20, 21, 24, 26, 28, 30, 31, 34] N.baizelaw47_PursePays_1 [⟨none, [], [], fun l g => Box g (t + 3) b2 32 [encA .u8 d3, [.int .i64 x4], encA .i64 d4, [.slice a2 n2 c2]] [8, 1, 2, 1]⟩, ⟨none, [0], [], fun l g => OwnS k_S_purse_Held g (t + 2) 56 a2 n2 c2 l2⟩, ⟨none, [], [], fun l g => Box g (t + 4) b3 34 [encA .i64 d5] [3]⟩, ⟨none, [], [], fun l g => Box g (t + 5) b4 34 [encA .i64 d6] [3]⟩, ⟨none, [], [], fun l g => Box g (t + 6) b5 34 [encA .i64 d7] [3]⟩, ⟨some 0, [], [0], fun l g => l.getD 0 undef = .int .i64 (aget d5 0)⟩, ⟨some 1, [], [1], fun l g => l.getD 0 undef = .int .i64 (aget d5 1)⟩, ⟨some 2, [], [2], fun l g => l.getD 0 undef = .int .i64 (aget d5 2)⟩, ⟨some 3, [], [3], fun l g => l.getD 0 undef = AG [encA .u8 d3, [.int .i64 x4], encA .i64 d4, [.slice a2 n2 c2]]⟩, ⟨some 4, [], [4], fun l g => l.getD 0 undef = .int .i64 x8⟩, ⟨some 4, [0], [], fun l g => OwnS k_S_purse_Held g (t + 2) 56 a2 n2 c2 l2⟩, ⟨some 5, [], [5], fun l g => l.getD 0 undef = .bool false⟩, ⟨some 6, [], [6], fun l g => l.getD 0 undef = .int .i64 (aget d6 0)⟩, ⟨some 7, [], [7], fun l g => l.getD 0 undef = .int .i64 (aget d6 1)⟩, ⟨some 8, [], [8], fun l g => l.getD 0 undef = .int .i64 (aget d6 2)⟩, ⟨some 9, [], [9], fun l g => l.getD 0 undef = AG [encA .u8 d3, [.int .i64 x4], encA .i64 d4, [.slice a2 n2 c2]]⟩, ⟨some 10, [], [10], fun l g => l.getD 0 undef = .int .i64 x9⟩, ⟨some 10, [0], [], fun l g => OwnS k_S_purse_Held g (t + 2) 56 a2 n2 c2 l2⟩, ⟨some 11, [], [11], fun l g => l.getD 0 undef = .bool false⟩, ⟨some 12, [], [12], fun l g => l.getD 0 undef = .int .i64 (aget d7 0)⟩, ⟨some 13, [], [13], fun l g => l.getD 0 undef = .int .i64 (aget d7 1)⟩, ⟨some 14, [], [14], fun l g => l.getD 0 undef = AG [encA .u8 d3, [.int .i64 x4], encA .i64 d4, [.slice a2 n2 c2]]⟩, ⟨some 15, [], [15], fun l g => l.getD 0 undef = .int .i64 x10⟩, ⟨some 15, [0], [], fun l g => OwnS k_S_purse_Held g (t + 2) 56 a2 n2 c2 l2⟩, ⟨some 16, [], [16], fun l g => l.getD 0 undef = .bool true⟩] [[], [], [], [], [0], [], [], [], [], [], [0], [], [], [], [], [0], []] [(t + 2)] [0, 2, 5] [4, 7, 10, 12, 14, 16, 17, 19, 22, 23, 25, 27, 29, 32, 33, 35, 36, 37, 38] (by kernel_rfl) (by simp <;> omega) (by simp) ⟨fun _ _ _ _ st h0 hl hj hB2 => (hB2.mono st (fun h => absurd (hl _ h) (by simp <;> omega))), fun _ _ _ _ st h0 hl hj hR2 => (hR2.mono st h0 (hj 0 (by simp) _ rfl)), fun _ _ _ _ st h0 hl hj hB4 => (hB4.mono st (fun h => absurd (hl _ h) (by simp <;> omega))), fun _ _ _ _ st h0 hl hj hB5 => (hB5.mono st (fun h => absurd (hl _ h) (by simp <;> omega))), fun _ _ _ _ st h0 hl hj hB6 => (hB6.mono st (fun h => absurd (hl _ h) (by simp <;> omega))), fun _ _ _ _ st h0 hl hj e0 => e0, fun _ _ _ _ st h0 hl hj e1 => e1, fun _ _ _ _ st h0 hl hj e2 => e2, fun _ _ _ _ st h0 hl hj e3 => e3, fun _ _ _ _ st h0 hl hj e4 => e4, fun _ _ _ _ st h0 hl hj hR2 => (hR2.mono st h0 (hj 0 (by simp) _ rfl)), fun _ _ _ _ st h0 hl hj e5 => e5, fun _ _ _ _ st h0 hl hj e6 => e6, fun _ _ _ _ st h0 hl hj e7 => e7, fun _ _ _ _ st h0 hl hj e8 => e8, fun _ _ _ _ st h0 hl hj e9 => e9, fun _ _ _ _ st h0 hl hj e10 => e10, fun _ _ _ _ st h0 hl hj hR2 => (hR2.mono st h0 (hj 0 (by simp) _ rfl)), fun _ _ _ _ st h0 hl hj e11 => e11, fun _ _ _ _ st h0 hl hj e12 => e12, fun _ _ _ _ st h0 hl hj e13 => e13, fun _ _ _ _ st h0 hl hj e14 => e14, fun _ _ _ _ st h0 hl hj e15 => e15, fun _ _ _ _ st h0 hl hj hR2 => (hR2.mono st h0 (hj 0 (by simp) _ rfl)), fun _ _ _ _ st h0 hl hj e16 => e16, trivial⟩ ⟨hB2, hR2, hB4, hB5, hB6, trivial, trivial, trivial, trivial, trivial, trivial, trivial, trivial, trivial, trivial, trivial, trivial, trivial, trivial, trivial, trivial, trivial, trivial, trivial, trivial, trivial⟩ (by kernel_rfl) (fun vs => by kernel_rfl) ?_ ?_ ?_
      · intro j hj
        have hq : j = 0 ∨ j = 1 ∨ j = 2 ∨ j = 3 ∨ j = 4 ∨ j = 5 ∨ j = 6 ∨ j = 7 ∨ j = 8 ∨ j = 9 ∨ j = 10 ∨ j = 11 ∨ j = 12 ∨ j = 13 ∨ j = 14 ∨ j = 15 ∨ j = 16 ∨ j = 17 ∨ j = 18 := by have h : j < 19 := hj; omega
        rcases hq with rfl | rfl | rfl | rfl | rfl | rfl | rfl | rfl | rfl | rfl | rfl | rfl | rfl | rfl | rfl | rfl | rfl | rfl | rfl
        · intro vs gq stq hl hf
          replace hl : vs.length = 17 := hl
          obtain ⟨v0, vs0, rfl, hl0⟩ := len_succ hl
          obtain ⟨v1, vs1, rfl, hl1⟩ := len_succ hl0
          obtain ⟨v2, vs2, rfl, hl2⟩ := len_succ hl1
          obtain ⟨v3, vs3, rfl, hl3⟩ := len_succ hl2
          obtain ⟨v4, vs4, rfl, hl4⟩ := len_succ hl3
          obtain ⟨v5, vs5, rfl, hl5⟩ := len_succ hl4
          obtain ⟨v6, vs6, rfl, hl6⟩ := len_succ hl5
          obtain ⟨v7, vs7, rfl, hl7⟩ := len_succ hl6
          obtain ⟨v8, vs8, rfl, hl8⟩ := len_succ hl7
          obtain ⟨v9, vs9, rfl, hl9⟩ := len_succ hl8
          obtain ⟨v10, vs10, rfl, hl10⟩ := len_succ hl9
          obtain ⟨v11, vs11, rfl, hl11⟩ := len_succ hl10
          obtain ⟨v12, vs12, rfl, hl12⟩ := len_succ hl11
          obtain ⟨v13, vs13, rfl, hl13⟩ := len_succ hl12
          obtain ⟨v14, vs14, rfl, hl14⟩ := len_succ hl13
          obtain ⟨v15, vs15, rfl, hl15⟩ := len_succ hl14
          obtain ⟨v16, vs16, rfl, hl16⟩ := len_succ hl15
          obtain rfl := len_zero hl16
          have e0 := (show v0 = .int .i64 (aget d5 0) from hf _ (List.mem_of_getElem? (i := 5) rfl) (by kernel_rfl))
          subst e0
          have e1 := (show v1 = .int .i64 (aget d5 1) from hf _ (List.mem_of_getElem? (i := 6) rfl) (by kernel_rfl))
          subst e1
          show Option.isSome _ = true
          kernel_rfl
        · intro vs gq stq hl hf
          replace hl : vs.length = 17 := hl
          obtain ⟨v0, vs0, rfl, hl0⟩ := len_succ hl
          obtain ⟨v1, vs1, rfl, hl1⟩ := len_succ hl0
          obtain ⟨v2, vs2, rfl, hl2⟩ := len_succ hl1
          obtain ⟨v3, vs3, rfl, hl3⟩ := len_succ hl2
          obtain ⟨v4, vs4, rfl, hl4⟩ := len_succ hl3
          obtain ⟨v5, vs5, rfl, hl5⟩ := len_succ hl4
          obtain ⟨v6, vs6, rfl, hl6⟩ := len_succ hl5
          obtain ⟨v7, vs7, rfl, hl7⟩ := len_succ hl6
          obtain ⟨v8, vs8, rfl, hl8⟩ := len_succ hl7
          obtain ⟨v9, vs9, rfl, hl9⟩ := len_succ hl8
          obtain ⟨v10, vs10, rfl, hl10⟩ := len_succ hl9
          obtain ⟨v11, vs11, rfl, hl11⟩ := len_succ hl10
          obtain ⟨v12, vs12, rfl, hl12⟩ := len_succ hl11
          obtain ⟨v13, vs13, rfl, hl13⟩ := len_succ hl12
          obtain ⟨v14, vs14, rfl, hl14⟩ := len_succ hl13
          obtain ⟨v15, vs15, rfl, hl15⟩ := len_succ hl14
          obtain ⟨v16, vs16, rfl, hl16⟩ := len_succ hl15
          obtain rfl := len_zero hl16
          have e0 := (show v0 = .int .i64 (aget d5 0) from hf _ (List.mem_of_getElem? (i := 5) rfl) (by kernel_rfl))
          subst e0
          have e1 := (show v1 = .int .i64 (aget d5 1) from hf _ (List.mem_of_getElem? (i := 6) rfl) (by kernel_rfl))
          subst e1
          have e2 := (show v2 = .int .i64 (aget d5 2) from hf _ (List.mem_of_getElem? (i := 7) rfl) (by kernel_rfl))
          subst e2
          show Option.isSome _ = true
          kernel_rfl
        · intro vs gq stq hl hf
          replace hl : vs.length = 17 := hl
          obtain ⟨v0, vs0, rfl, hl0⟩ := len_succ hl
          obtain ⟨v1, vs1, rfl, hl1⟩ := len_succ hl0
          obtain ⟨v2, vs2, rfl, hl2⟩ := len_succ hl1
          obtain ⟨v3, vs3, rfl, hl3⟩ := len_succ hl2
          obtain ⟨v4, vs4, rfl, hl4⟩ := len_succ hl3
          obtain ⟨v5, vs5, rfl, hl5⟩ := len_succ hl4
          obtain ⟨v6, vs6, rfl, hl6⟩ := len_succ hl5
          obtain ⟨v7, vs7, rfl, hl7⟩ := len_succ hl6
          obtain ⟨v8, vs8, rfl, hl8⟩ := len_succ hl7
          obtain ⟨v9, vs9, rfl, hl9⟩ := len_succ hl8
          obtain ⟨v10, vs10, rfl, hl10⟩ := len_succ hl9
          obtain ⟨v11, vs11, rfl, hl11⟩ := len_succ hl10
          obtain ⟨v12, vs12, rfl, hl12⟩ := len_succ hl11
          obtain ⟨v13, vs13, rfl, hl13⟩ := len_succ hl12
          obtain ⟨v14, vs14, rfl, hl14⟩ := len_succ hl13
          obtain ⟨v15, vs15, rfl, hl15⟩ := len_succ hl14
          obtain ⟨v16, vs16, rfl, hl16⟩ := len_succ hl15
          obtain rfl := len_zero hl16
          have e0 := (show v0 = .int .i64 (aget d5 0) from hf _ (List.mem_of_getElem? (i := 5) rfl) (by kernel_rfl))
          subst e0
          have e1 := (show v1 = .int .i64 (aget d5 1) from hf _ (List.mem_of_getElem? (i := 6) rfl) (by kernel_rfl))
          subst e1
          have e2 := (show v2 = .int .i64 (aget d5 2) from hf _ (List.mem_of_getElem? (i := 7) rfl) (by kernel_rfl))
          subst e2
          have e4 := (show v4 = .int .i64 x8 from hf _ (List.mem_of_getElem? (i := 9) rfl) (by kernel_rfl))
          subst e4
          show Option.isSome _ = true
          kernel_rfl
        · intro vs gq stq hl hf
          replace hl : vs.length = 17 := hl
          obtain ⟨v0, vs0, rfl, hl0⟩ := len_succ hl
          obtain ⟨v1, vs1, rfl, hl1⟩ := len_succ hl0
          obtain ⟨v2, vs2, rfl, hl2⟩ := len_succ hl1
          obtain ⟨v3, vs3, rfl, hl3⟩ := len_succ hl2
          obtain ⟨v4, vs4, rfl, hl4⟩ := len_succ hl3
          obtain ⟨v5, vs5, rfl, hl5⟩ := len_succ hl4
          obtain ⟨v6, vs6, rfl, hl6⟩ := len_succ hl5
          obtain ⟨v7, vs7, rfl, hl7⟩ := len_succ hl6
          obtain ⟨v8, vs8, rfl, hl8⟩ := len_succ hl7
          obtain ⟨v9, vs9, rfl, hl9⟩ := len_succ hl8
          obtain ⟨v10, vs10, rfl, hl10⟩ := len_succ hl9
          obtain ⟨v11, vs11, rfl, hl11⟩ := len_succ hl10
          obtain ⟨v12, vs12, rfl, hl12⟩ := len_succ hl11
          obtain ⟨v13, vs13, rfl, hl13⟩ := len_succ hl12
          obtain ⟨v14, vs14, rfl, hl14⟩ := len_succ hl13
          obtain ⟨v15, vs15, rfl, hl15⟩ := len_succ hl14
          obtain ⟨v16, vs16, rfl, hl16⟩ := len_succ hl15
          obtain rfl := len_zero hl16
          have e5 := (show v5 = .bool false from hf _ (List.mem_of_getElem? (i := 11) rfl) (by kernel_rfl))
          subst e5
          show Option.isSome _ = true
          kernel_rfl
        · intro vs gq stq hl hf
          replace hl : vs.length = 17 := hl
          obtain ⟨v0, vs0, rfl, hl0⟩ := len_succ hl
          obtain ⟨v1, vs1, rfl, hl1⟩ := len_succ hl0
          obtain ⟨v2, vs2, rfl, hl2⟩ := len_succ hl1
          obtain ⟨v3, vs3, rfl, hl3⟩ := len_succ hl2
          obtain ⟨v4, vs4, rfl, hl4⟩ := len_succ hl3
          obtain ⟨v5, vs5, rfl, hl5⟩ := len_succ hl4
          obtain ⟨v6, vs6, rfl, hl6⟩ := len_succ hl5
          obtain ⟨v7, vs7, rfl, hl7⟩ := len_succ hl6
          obtain ⟨v8, vs8, rfl, hl8⟩ := len_succ hl7
          obtain ⟨v9, vs9, rfl, hl9⟩ := len_succ hl8
          obtain ⟨v10, vs10, rfl, hl10⟩ := len_succ hl9
          obtain ⟨v11, vs11, rfl, hl11⟩ := len_succ hl10
          obtain ⟨v12, vs12, rfl, hl12⟩ := len_succ hl11
          obtain ⟨v13, vs13, rfl, hl13⟩ := len_succ hl12
          obtain ⟨v14, vs14, rfl, hl14⟩ := len_succ hl13
          obtain ⟨v15, vs15, rfl, hl15⟩ := len_succ hl14
          obtain ⟨v16, vs16, rfl, hl16⟩ := len_succ hl15
          obtain rfl := len_zero hl16
          have e5 := (show v5 = .bool false from hf _ (List.mem_of_getElem? (i := 11) rfl) (by kernel_rfl))
          subst e5
          show Option.isSome _ = true
          kernel_rfl
        · intro vs gq stq hl hf
          replace hl : vs.length = 17 := hl
          obtain ⟨v0, vs0, rfl, hl0⟩ := len_succ hl
          obtain ⟨v1, vs1, rfl, hl1⟩ := len_succ hl0
          obtain ⟨v2, vs2, rfl, hl2⟩ := len_succ hl1
          obtain ⟨v3, vs3, rfl, hl3⟩ := len_succ hl2
          obtain ⟨v4, vs4, rfl, hl4⟩ := len_succ hl3
          obtain ⟨v5, vs5, rfl, hl5⟩ := len_succ hl4
          obtain ⟨v6, vs6, rfl, hl6⟩ := len_succ hl5
          obtain ⟨v7, vs7, rfl, hl7⟩ := len_succ hl6
          obtain ⟨v8, vs8, rfl, hl8⟩ := len_succ hl7
          obtain ⟨v9, vs9, rfl, hl9⟩ := len_succ hl8
          obtain ⟨v10, vs10, rfl, hl10⟩ := len_succ hl9
          obtain ⟨v11, vs11, rfl, hl11⟩ := len_succ hl10
          obtain ⟨v12, vs12, rfl, hl12⟩ := len_succ hl11
          obtain ⟨v13, vs13, rfl, hl13⟩ := len_succ hl12
          obtain ⟨v14, vs14, rfl, hl14⟩ := len_succ hl13
          obtain ⟨v15, vs15, rfl, hl15⟩ := len_succ hl14
          obtain ⟨v16, vs16, rfl, hl16⟩ := len_succ hl15
          obtain rfl := len_zero hl16
          have e5 := (show v5 = .bool false from hf _ (List.mem_of_getElem? (i := 11) rfl) (by kernel_rfl))
          subst e5
          have e6 := (show v6 = .int .i64 (aget d6 0) from hf _ (List.mem_of_getElem? (i := 12) rfl) (by kernel_rfl))
          subst e6
          have e7 := (show v7 = .int .i64 (aget d6 1) from hf _ (List.mem_of_getElem? (i := 13) rfl) (by kernel_rfl))
          subst e7
          show Option.isSome _ = true
          kernel_rfl
        · intro vs gq stq hl hf
          replace hl : vs.length = 17 := hl
          obtain ⟨v0, vs0, rfl, hl0⟩ := len_succ hl
          obtain ⟨v1, vs1, rfl, hl1⟩ := len_succ hl0
          obtain ⟨v2, vs2, rfl, hl2⟩ := len_succ hl1
          obtain ⟨v3, vs3, rfl, hl3⟩ := len_succ hl2
          obtain ⟨v4, vs4, rfl, hl4⟩ := len_succ hl3
          obtain ⟨v5, vs5, rfl, hl5⟩ := len_succ hl4
          obtain ⟨v6, vs6, rfl, hl6⟩ := len_succ hl5
          obtain ⟨v7, vs7, rfl, hl7⟩ := len_succ hl6
          obtain ⟨v8, vs8, rfl, hl8⟩ := len_succ hl7
          obtain ⟨v9, vs9, rfl, hl9⟩ := len_succ hl8
          obtain ⟨v10, vs10, rfl, hl10⟩ := len_succ hl9
          obtain ⟨v11, vs11, rfl, hl11⟩ := len_succ hl10
          obtain ⟨v12, vs12, rfl, hl12⟩ := len_succ hl11
          obtain ⟨v13, vs13, rfl, hl13⟩ := len_succ hl12
          obtain ⟨v14, vs14, rfl, hl14⟩ := len_succ hl13
          obtain ⟨v15, vs15, rfl, hl15⟩ := len_succ hl14
          obtain ⟨v16, vs16, rfl, hl16⟩ := len_succ hl15
          obtain rfl := len_zero hl16
          have e5 := (show v5 = .bool false from hf _ (List.mem_of_getElem? (i := 11) rfl) (by kernel_rfl))
          subst e5
          show Option.isSome _ = true
          kernel_rfl
        · intro vs gq stq hl hf
          replace hl : vs.length = 17 := hl
          obtain ⟨v0, vs0, rfl, hl0⟩ := len_succ hl
          obtain ⟨v1, vs1, rfl, hl1⟩ := len_succ hl0
          obtain ⟨v2, vs2, rfl, hl2⟩ := len_succ hl1
          obtain ⟨v3, vs3, rfl, hl3⟩ := len_succ hl2
          obtain ⟨v4, vs4, rfl, hl4⟩ := len_succ hl3
          obtain ⟨v5, vs5, rfl, hl5⟩ := len_succ hl4
          obtain ⟨v6, vs6, rfl, hl6⟩ := len_succ hl5
          obtain ⟨v7, vs7, rfl, hl7⟩ := len_succ hl6
          obtain ⟨v8, vs8, rfl, hl8⟩ := len_succ hl7
          obtain ⟨v9, vs9, rfl, hl9⟩ := len_succ hl8
          obtain ⟨v10, vs10, rfl, hl10⟩ := len_succ hl9
          obtain ⟨v11, vs11, rfl, hl11⟩ := len_succ hl10
          obtain ⟨v12, vs12, rfl, hl12⟩ := len_succ hl11
          obtain ⟨v13, vs13, rfl, hl13⟩ := len_succ hl12
          obtain ⟨v14, vs14, rfl, hl14⟩ := len_succ hl13
          obtain ⟨v15, vs15, rfl, hl15⟩ := len_succ hl14
          obtain ⟨v16, vs16, rfl, hl16⟩ := len_succ hl15
          obtain rfl := len_zero hl16
          have e5 := (show v5 = .bool false from hf _ (List.mem_of_getElem? (i := 11) rfl) (by kernel_rfl))
          subst e5
          have e6 := (show v6 = .int .i64 (aget d6 0) from hf _ (List.mem_of_getElem? (i := 12) rfl) (by kernel_rfl))
          subst e6
          have e7 := (show v7 = .int .i64 (aget d6 1) from hf _ (List.mem_of_getElem? (i := 13) rfl) (by kernel_rfl))
          subst e7
          have e8 := (show v8 = .int .i64 (aget d6 2) from hf _ (List.mem_of_getElem? (i := 14) rfl) (by kernel_rfl))
          subst e8
          show Option.isSome _ = true
          kernel_rfl
        · intro vs gq stq hl hf
          replace hl : vs.length = 17 := hl
          obtain ⟨v0, vs0, rfl, hl0⟩ := len_succ hl
          obtain ⟨v1, vs1, rfl, hl1⟩ := len_succ hl0
          obtain ⟨v2, vs2, rfl, hl2⟩ := len_succ hl1
          obtain ⟨v3, vs3, rfl, hl3⟩ := len_succ hl2
          obtain ⟨v4, vs4, rfl, hl4⟩ := len_succ hl3
          obtain ⟨v5, vs5, rfl, hl5⟩ := len_succ hl4
          obtain ⟨v6, vs6, rfl, hl6⟩ := len_succ hl5
          obtain ⟨v7, vs7, rfl, hl7⟩ := len_succ hl6
          obtain ⟨v8, vs8, rfl, hl8⟩ := len_succ hl7
          obtain ⟨v9, vs9, rfl, hl9⟩ := len_succ hl8
          obtain ⟨v10, vs10, rfl, hl10⟩ := len_succ hl9
          obtain ⟨v11, vs11, rfl, hl11⟩ := len_succ hl10
          obtain ⟨v12, vs12, rfl, hl12⟩ := len_succ hl11
          obtain ⟨v13, vs13, rfl, hl13⟩ := len_succ hl12
          obtain ⟨v14, vs14, rfl, hl14⟩ := len_succ hl13
          obtain ⟨v15, vs15, rfl, hl15⟩ := len_succ hl14
          obtain ⟨v16, vs16, rfl, hl16⟩ := len_succ hl15
          obtain rfl := len_zero hl16
          have e5 := (show v5 = .bool false from hf _ (List.mem_of_getElem? (i := 11) rfl) (by kernel_rfl))
          subst e5
          have e6 := (show v6 = .int .i64 (aget d6 0) from hf _ (List.mem_of_getElem? (i := 12) rfl) (by kernel_rfl))
          subst e6
          have e7 := (show v7 = .int .i64 (aget d6 1) from hf _ (List.mem_of_getElem? (i := 13) rfl) (by kernel_rfl))
          subst e7
          have e8 := (show v8 = .int .i64 (aget d6 2) from hf _ (List.mem_of_getElem? (i := 14) rfl) (by kernel_rfl))
          subst e8
          have e10 := (show v10 = .int .i64 x9 from hf _ (List.mem_of_getElem? (i := 16) rfl) (by kernel_rfl))
          subst e10
          show Option.isSome _ = true
          kernel_rfl
        · intro vs gq stq hl hf
          replace hl : vs.length = 17 := hl
          obtain ⟨v0, vs0, rfl, hl0⟩ := len_succ hl
          obtain ⟨v1, vs1, rfl, hl1⟩ := len_succ hl0
          obtain ⟨v2, vs2, rfl, hl2⟩ := len_succ hl1
          obtain ⟨v3, vs3, rfl, hl3⟩ := len_succ hl2
          obtain ⟨v4, vs4, rfl, hl4⟩ := len_succ hl3
          obtain ⟨v5, vs5, rfl, hl5⟩ := len_succ hl4
          obtain ⟨v6, vs6, rfl, hl6⟩ := len_succ hl5
          obtain ⟨v7, vs7, rfl, hl7⟩ := len_succ hl6
          obtain ⟨v8, vs8, rfl, hl8⟩ := len_succ hl7
          obtain ⟨v9, vs9, rfl, hl9⟩ := len_succ hl8
          obtain ⟨v10, vs10, rfl, hl10⟩ := len_succ hl9
          obtain ⟨v11, vs11, rfl, hl11⟩ := len_succ hl10
          obtain ⟨v12, vs12, rfl, hl12⟩ := len_succ hl11
          obtain ⟨v13, vs13, rfl, hl13⟩ := len_succ hl12
          obtain ⟨v14, vs14, rfl, hl14⟩ := len_succ hl13
          obtain ⟨v15, vs15, rfl, hl15⟩ := len_succ hl14
          obtain ⟨v16, vs16, rfl, hl16⟩ := len_succ hl15
          obtain rfl := len_zero hl16
          have e5 := (show v5 = .bool false from hf _ (List.mem_of_getElem? (i := 11) rfl) (by kernel_rfl))
          subst e5
          have e6 := (show v6 = .int .i64 (aget d6 0) from hf _ (List.mem_of_getElem? (i := 12) rfl) (by kernel_rfl))
          subst e6
          have e7 := (show v7 = .int .i64 (aget d6 1) from hf _ (List.mem_of_getElem? (i := 13) rfl) (by kernel_rfl))
          subst e7
          have e8 := (show v8 = .int .i64 (aget d6 2) from hf _ (List.mem_of_getElem? (i := 14) rfl) (by kernel_rfl))
          subst e8
          have e10 := (show v10 = .int .i64 x9 from hf _ (List.mem_of_getElem? (i := 16) rfl) (by kernel_rfl))
          subst e10
          show Option.isSome _ = true
          kernel_rfl
        · intro vs gq stq hl hf
          replace hl : vs.length = 17 := hl
          obtain ⟨v0, vs0, rfl, hl0⟩ := len_succ hl
          obtain ⟨v1, vs1, rfl, hl1⟩ := len_succ hl0
          obtain ⟨v2, vs2, rfl, hl2⟩ := len_succ hl1
          obtain ⟨v3, vs3, rfl, hl3⟩ := len_succ hl2
          obtain ⟨v4, vs4, rfl, hl4⟩ := len_succ hl3
          obtain ⟨v5, vs5, rfl, hl5⟩ := len_succ hl4
          obtain ⟨v6, vs6, rfl, hl6⟩ := len_succ hl5
          obtain ⟨v7, vs7, rfl, hl7⟩ := len_succ hl6
          obtain ⟨v8, vs8, rfl, hl8⟩ := len_succ hl7
          obtain ⟨v9, vs9, rfl, hl9⟩ := len_succ hl8
          obtain ⟨v10, vs10, rfl, hl10⟩ := len_succ hl9
          obtain ⟨v11, vs11, rfl, hl11⟩ := len_succ hl10
          obtain ⟨v12, vs12, rfl, hl12⟩ := len_succ hl11
          obtain ⟨v13, vs13, rfl, hl13⟩ := len_succ hl12
          obtain ⟨v14, vs14, rfl, hl14⟩ := len_succ hl13
          obtain ⟨v15, vs15, rfl, hl15⟩ := len_succ hl14
          obtain ⟨v16, vs16, rfl, hl16⟩ := len_succ hl15
          obtain rfl := len_zero hl16
          have e11 := (show v11 = .bool false from hf _ (List.mem_of_getElem? (i := 18) rfl) (by kernel_rfl))
          subst e11
          show Option.isSome _ = true
          kernel_rfl
        · intro vs gq stq hl hf
          replace hl : vs.length = 17 := hl
          obtain ⟨v0, vs0, rfl, hl0⟩ := len_succ hl
          obtain ⟨v1, vs1, rfl, hl1⟩ := len_succ hl0
          obtain ⟨v2, vs2, rfl, hl2⟩ := len_succ hl1
          obtain ⟨v3, vs3, rfl, hl3⟩ := len_succ hl2
          obtain ⟨v4, vs4, rfl, hl4⟩ := len_succ hl3
          obtain ⟨v5, vs5, rfl, hl5⟩ := len_succ hl4
          obtain ⟨v6, vs6, rfl, hl6⟩ := len_succ hl5
          obtain ⟨v7, vs7, rfl, hl7⟩ := len_succ hl6
          obtain ⟨v8, vs8, rfl, hl8⟩ := len_succ hl7
          obtain ⟨v9, vs9, rfl, hl9⟩ := len_succ hl8
          obtain ⟨v10, vs10, rfl, hl10⟩ := len_succ hl9
          obtain ⟨v11, vs11, rfl, hl11⟩ := len_succ hl10
          obtain ⟨v12, vs12, rfl, hl12⟩ := len_succ hl11
          obtain ⟨v13, vs13, rfl, hl13⟩ := len_succ hl12
          obtain ⟨v14, vs14, rfl, hl14⟩ := len_succ hl13
          obtain ⟨v15, vs15, rfl, hl15⟩ := len_succ hl14
          obtain ⟨v16, vs16, rfl, hl16⟩ := len_succ hl15
          obtain rfl := len_zero hl16
          have e11 := (show v11 = .bool false from hf _ (List.mem_of_getElem? (i := 18) rfl) (by kernel_rfl))
          subst e11
          show Option.isSome _ = true
          kernel_rfl
        · intro vs gq stq hl hf
          replace hl : vs.length = 17 := hl
          obtain ⟨v0, vs0, rfl, hl0⟩ := len_succ hl
          obtain ⟨v1, vs1, rfl, hl1⟩ := len_succ hl0
          obtain ⟨v2, vs2, rfl, hl2⟩ := len_succ hl1
          obtain ⟨v3, vs3, rfl, hl3⟩ := len_succ hl2
          obtain ⟨v4, vs4, rfl, hl4⟩ := len_succ hl3
          obtain ⟨v5, vs5, rfl, hl5⟩ := len_succ hl4
          obtain ⟨v6, vs6, rfl, hl6⟩ := len_succ hl5
          obtain ⟨v7, vs7, rfl, hl7⟩ := len_succ hl6
          obtain ⟨v8, vs8, rfl, hl8⟩ := len_succ hl7
          obtain ⟨v9, vs9, rfl, hl9⟩ := len_succ hl8
          obtain ⟨v10, vs10, rfl, hl10⟩ := len_succ hl9
          obtain ⟨v11, vs11, rfl, hl11⟩ := len_succ hl10
          obtain ⟨v12, vs12, rfl, hl12⟩ := len_succ hl11
          obtain ⟨v13, vs13, rfl, hl13⟩ := len_succ hl12
          obtain ⟨v14, vs14, rfl, hl14⟩ := len_succ hl13
          obtain ⟨v15, vs15, rfl, hl15⟩ := len_succ hl14
          obtain ⟨v16, vs16, rfl, hl16⟩ := len_succ hl15
          obtain rfl := len_zero hl16
          have e11 := (show v11 = .bool false from hf _ (List.mem_of_getElem? (i := 18) rfl) (by kernel_rfl))
          subst e11
          have e12 := (show v12 = .int .i64 (aget d7 0) from hf _ (List.mem_of_getElem? (i := 19) rfl) (by kernel_rfl))
          subst e12
          have e13 := (show v13 = .int .i64 (aget d7 1) from hf _ (List.mem_of_getElem? (i := 20) rfl) (by kernel_rfl))
          subst e13
          show Option.isSome _ = true
          kernel_rfl
        · intro vs gq stq hl hf
          replace hl : vs.length = 17 := hl
          obtain ⟨v0, vs0, rfl, hl0⟩ := len_succ hl
          obtain ⟨v1, vs1, rfl, hl1⟩ := len_succ hl0
          obtain ⟨v2, vs2, rfl, hl2⟩ := len_succ hl1
          obtain ⟨v3, vs3, rfl, hl3⟩ := len_succ hl2
          obtain ⟨v4, vs4, rfl, hl4⟩ := len_succ hl3
          obtain ⟨v5, vs5, rfl, hl5⟩ := len_succ hl4
          obtain ⟨v6, vs6, rfl, hl6⟩ := len_succ hl5
          obtain ⟨v7, vs7, rfl, hl7⟩ := len_succ hl6
          obtain ⟨v8, vs8, rfl, hl8⟩ := len_succ hl7
          obtain ⟨v9, vs9, rfl, hl9⟩ := len_succ hl8
          obtain ⟨v10, vs10, rfl, hl10⟩ := len_succ hl9
          obtain ⟨v11, vs11, rfl, hl11⟩ := len_succ hl10
          obtain ⟨v12, vs12, rfl, hl12⟩ := len_succ hl11
          obtain ⟨v13, vs13, rfl, hl13⟩ := len_succ hl12
          obtain ⟨v14, vs14, rfl, hl14⟩ := len_succ hl13
          obtain ⟨v15, vs15, rfl, hl15⟩ := len_succ hl14
          obtain ⟨v16, vs16, rfl, hl16⟩ := len_succ hl15
          obtain rfl := len_zero hl16
          have e11 := (show v11 = .bool false from hf _ (List.mem_of_getElem? (i := 18) rfl) (by kernel_rfl))
          subst e11
          have e12 := (show v12 = .int .i64 (aget d7 0) from hf _ (List.mem_of_getElem? (i := 19) rfl) (by kernel_rfl))
          subst e12
          have e13 := (show v13 = .int .i64 (aget d7 1) from hf _ (List.mem_of_getElem? (i := 20) rfl) (by kernel_rfl))
          subst e13
          have e15 := (show v15 = .int .i64 x10 from hf _ (List.mem_of_getElem? (i := 22) rfl) (by kernel_rfl))
          subst e15
          show Option.isSome _ = true
          kernel_rfl
        · intro vs gq stq hl hf
          replace hl : vs.length = 17 := hl
          obtain ⟨v0, vs0, rfl, hl0⟩ := len_succ hl
          obtain ⟨v1, vs1, rfl, hl1⟩ := len_succ hl0
          obtain ⟨v2, vs2, rfl, hl2⟩ := len_succ hl1
          obtain ⟨v3, vs3, rfl, hl3⟩ := len_succ hl2
          obtain ⟨v4, vs4, rfl, hl4⟩ := len_succ hl3
          obtain ⟨v5, vs5, rfl, hl5⟩ := len_succ hl4
          obtain ⟨v6, vs6, rfl, hl6⟩ := len_succ hl5
          obtain ⟨v7, vs7, rfl, hl7⟩ := len_succ hl6
          obtain ⟨v8, vs8, rfl, hl8⟩ := len_succ hl7
          obtain ⟨v9, vs9, rfl, hl9⟩ := len_succ hl8
          obtain ⟨v10, vs10, rfl, hl10⟩ := len_succ hl9
          obtain ⟨v11, vs11, rfl, hl11⟩ := len_succ hl10
          obtain ⟨v12, vs12, rfl, hl12⟩ := len_succ hl11
          obtain ⟨v13, vs13, rfl, hl13⟩ := len_succ hl12
          obtain ⟨v14, vs14, rfl, hl14⟩ := len_succ hl13
          obtain ⟨v15, vs15, rfl, hl15⟩ := len_succ hl14
          obtain ⟨v16, vs16, rfl, hl16⟩ := len_succ hl15
          obtain rfl := len_zero hl16
          have e11 := (show v11 = .bool false from hf _ (List.mem_of_getElem? (i := 18) rfl) (by kernel_rfl))
          subst e11
          have e12 := (show v12 = .int .i64 (aget d7 0) from hf _ (List.mem_of_getElem? (i := 19) rfl) (by kernel_rfl))
          subst e12
          have e13 := (show v13 = .int .i64 (aget d7 1) from hf _ (List.mem_of_getElem? (i := 20) rfl) (by kernel_rfl))
          subst e13
          have e15 := (show v15 = .int .i64 x10 from hf _ (List.mem_of_getElem? (i := 22) rfl) (by kernel_rfl))
          subst e15
          show Option.isSome _ = true
          kernel_rfl
        · intro vs gq stq hl hf
          replace hl : vs.length = 17 := hl
          obtain ⟨v0, vs0, rfl, hl0⟩ := len_succ hl
          obtain ⟨v1, vs1, rfl, hl1⟩ := len_succ hl0
          obtain ⟨v2, vs2, rfl, hl2⟩ := len_succ hl1
          obtain ⟨v3, vs3, rfl, hl3⟩ := len_succ hl2
          obtain ⟨v4, vs4, rfl, hl4⟩ := len_succ hl3
          obtain ⟨v5, vs5, rfl, hl5⟩ := len_succ hl4
          obtain ⟨v6, vs6, rfl, hl6⟩ := len_succ hl5
          obtain ⟨v7, vs7, rfl, hl7⟩ := len_succ hl6
          obtain ⟨v8, vs8, rfl, hl8⟩ := len_succ hl7
          obtain ⟨v9, vs9, rfl, hl9⟩ := len_succ hl8
          obtain ⟨v10, vs10, rfl, hl10⟩ := len_succ hl9
          obtain ⟨v11, vs11, rfl, hl11⟩ := len_succ hl10
          obtain ⟨v12, vs12, rfl, hl12⟩ := len_succ hl11
          obtain ⟨v13, vs13, rfl, hl13⟩ := len_succ hl12
          obtain ⟨v14, vs14, rfl, hl14⟩ := len_succ hl13
          obtain ⟨v15, vs15, rfl, hl15⟩ := len_succ hl14
          obtain ⟨v16, vs16, rfl, hl16⟩ := len_succ hl15
          obtain rfl := len_zero hl16
          have e16 := (show v16 = .bool true from hf _ (List.mem_of_getElem? (i := 24) rfl) (by kernel_rfl))
          subst e16
          show Option.isSome _ = true
          kernel_rfl
        · intro vs gq stq hl hf
          replace hl : vs.length = 17 := hl
          obtain ⟨v0, vs0, rfl, hl0⟩ := len_succ hl
          obtain ⟨v1, vs1, rfl, hl1⟩ := len_succ hl0
          obtain ⟨v2, vs2, rfl, hl2⟩ := len_succ hl1
          obtain ⟨v3, vs3, rfl, hl3⟩ := len_succ hl2
          obtain ⟨v4, vs4, rfl, hl4⟩ := len_succ hl3
          obtain ⟨v5, vs5, rfl, hl5⟩ := len_succ hl4
          obtain ⟨v6, vs6, rfl, hl6⟩ := len_succ hl5
          obtain ⟨v7, vs7, rfl, hl7⟩ := len_succ hl6
          obtain ⟨v8, vs8, rfl, hl8⟩ := len_succ hl7
          obtain ⟨v9, vs9, rfl, hl9⟩ := len_succ hl8
          obtain ⟨v10, vs10, rfl, hl10⟩ := len_succ hl9
          obtain ⟨v11, vs11, rfl, hl11⟩ := len_succ hl10
          obtain ⟨v12, vs12, rfl, hl12⟩ := len_succ hl11
          obtain ⟨v13, vs13, rfl, hl13⟩ := len_succ hl12
          obtain ⟨v14, vs14, rfl, hl14⟩ := len_succ hl13
          obtain ⟨v15, vs15, rfl, hl15⟩ := len_succ hl14
          obtain ⟨v16, vs16, rfl, hl16⟩ := len_succ hl15
          obtain rfl := len_zero hl16
          have e16 := (show v16 = .bool true from hf _ (List.mem_of_getElem? (i := 24) rfl) (by kernel_rfl))
          subst e16
          show Option.isSome _ = true
          kernel_rfl
        · intro vs gq stq hl hf
          replace hl : vs.length = 17 := hl
          obtain ⟨v0, vs0, rfl, hl0⟩ := len_succ hl
          obtain ⟨v1, vs1, rfl, hl1⟩ := len_succ hl0
          obtain ⟨v2, vs2, rfl, hl2⟩ := len_succ hl1
          obtain ⟨v3, vs3, rfl, hl3⟩ := len_succ hl2
          obtain ⟨v4, vs4, rfl, hl4⟩ := len_succ hl3
          obtain ⟨v5, vs5, rfl, hl5⟩ := len_succ hl4
          obtain ⟨v6, vs6, rfl, hl6⟩ := len_succ hl5
          obtain ⟨v7, vs7, rfl, hl7⟩ := len_succ hl6
          obtain ⟨v8, vs8, rfl, hl8⟩ := len_succ hl7
          obtain ⟨v9, vs9, rfl, hl9⟩ := len_succ hl8
          obtain ⟨v10, vs10, rfl, hl10⟩ := len_succ hl9
          obtain ⟨v11, vs11, rfl, hl11⟩ := len_succ hl10
          obtain ⟨v12, vs12, rfl, hl12⟩ := len_succ hl11
          obtain ⟨v13, vs13, rfl, hl13⟩ := len_succ hl12
          obtain ⟨v14, vs14, rfl, hl14⟩ := len_succ hl13
          obtain ⟨v15, vs15, rfl, hl15⟩ := len_succ hl14
          obtain ⟨v16, vs16, rfl, hl16⟩ := len_succ hl15
          obtain rfl := len_zero hl16
          have e16 := (show v16 = .bool true from hf _ (List.mem_of_getElem? (i := 24) rfl) (by kernel_rfl))
          subst e16
          show Option.isSome _ = true
          kernel_rfl
        · intro vs gq stq hl hf
          replace hl : vs.length = 17 := hl
          obtain ⟨v0, vs0, rfl, hl0⟩ := len_succ hl
          obtain ⟨v1, vs1, rfl, hl1⟩ := len_succ hl0
          obtain ⟨v2, vs2, rfl, hl2⟩ := len_succ hl1
          obtain ⟨v3, vs3, rfl, hl3⟩ := len_succ hl2
          obtain ⟨v4, vs4, rfl, hl4⟩ := len_succ hl3
          obtain ⟨v5, vs5, rfl, hl5⟩ := len_succ hl4
          obtain ⟨v6, vs6, rfl, hl6⟩ := len_succ hl5
          obtain ⟨v7, vs7, rfl, hl7⟩ := len_succ hl6
          obtain ⟨v8, vs8, rfl, hl8⟩ := len_succ hl7
          obtain ⟨v9, vs9, rfl, hl9⟩ := len_succ hl8
          obtain ⟨v10, vs10, rfl, hl10⟩ := len_succ hl9
          obtain ⟨v11, vs11, rfl, hl11⟩ := len_succ hl10
          obtain ⟨v12, vs12, rfl, hl12⟩ := len_succ hl11
          obtain ⟨v13, vs13, rfl, hl13⟩ := len_succ hl12
          obtain ⟨v14, vs14, rfl, hl14⟩ := len_succ hl13
          obtain ⟨v15, vs15, rfl, hl15⟩ := len_succ hl14
          obtain ⟨v16, vs16, rfl, hl16⟩ := len_succ hl15
          obtain rfl := len_zero hl16
          have e16 := (show v16 = .bool true from hf _ (List.mem_of_getElem? (i := 24) rfl) (by kernel_rfl))
          subst e16
          show Option.isSome _ = true
          kernel_rfl
      · intro j hj
        have hq : j = 0 ∨ j = 1 ∨ j = 2 ∨ j = 3 ∨ j = 4 ∨ j = 5 ∨ j = 6 ∨ j = 7 ∨ j = 8 ∨ j = 9 ∨ j = 10 ∨ j = 11 ∨ j = 12 ∨ j = 13 ∨ j = 14 ∨ j = 15 ∨ j = 16 := by have h : j < 17 := hj; omega
        rcases hq with rfl | rfl | rfl | rfl | rfl | rfl | rfl | rfl | rfl | rfl | rfl | rfl | rfl | rfl | rfl | rfl | rfl
        · intro vs gq stq hl hf
          replace hl : vs.length = 17 := hl
          obtain ⟨v0, vs0, rfl, hl0⟩ := len_succ hl
          obtain ⟨v1, vs1, rfl, hl1⟩ := len_succ hl0
          obtain ⟨v2, vs2, rfl, hl2⟩ := len_succ hl1
          obtain ⟨v3, vs3, rfl, hl3⟩ := len_succ hl2
          obtain ⟨v4, vs4, rfl, hl4⟩ := len_succ hl3
          obtain ⟨v5, vs5, rfl, hl5⟩ := len_succ hl4
          obtain ⟨v6, vs6, rfl, hl6⟩ := len_succ hl5
          obtain ⟨v7, vs7, rfl, hl7⟩ := len_succ hl6
          obtain ⟨v8, vs8, rfl, hl8⟩ := len_succ hl7
          obtain ⟨v9, vs9, rfl, hl9⟩ := len_succ hl8
          obtain ⟨v10, vs10, rfl, hl10⟩ := len_succ hl9
          obtain ⟨v11, vs11, rfl, hl11⟩ := len_succ hl10
          obtain ⟨v12, vs12, rfl, hl12⟩ := len_succ hl11
          obtain ⟨v13, vs13, rfl, hl13⟩ := len_succ hl12
          obtain ⟨v14, vs14, rfl, hl14⟩ := len_succ hl13
          obtain ⟨v15, vs15, rfl, hl15⟩ := len_succ hl14
          obtain ⟨v16, vs16, rfl, hl16⟩ := len_succ hl15
          obtain rfl := len_zero hl16
          have hB4 := (show Box gq (t + 4) b3 34 [encA .i64 d5] [3] from hf _ (List.mem_of_getElem? (i := 2) rfl) (by kernel_rfl))
          refine WP.loadE (ty := 3) (o := 0) (m := 3) (k := .i64) (d := d5) (i := 0) hB4 (by kernel_rfl) (by decide) (by kernel_rfl) (by kernel_rfl) ?_
          refine WP.done (by kernel_rfl) (Shown.ok (v := .int .i64 (aget d5 0)) (by kernel_rfl) (Step.refl _ _) ?_)
          exact ⟨trivial, trivial, trivial, trivial, trivial, rfl, trivial, trivial, trivial, trivial, trivial, trivial, trivial, trivial, trivial, trivial, trivial, trivial, trivial, trivial, trivial, trivial, trivial, trivial, trivial, trivial⟩
        · intro vs gq stq hl hf
          replace hl : vs.length = 17 := hl
          obtain ⟨v0, vs0, rfl, hl0⟩ := len_succ hl
          obtain ⟨v1, vs1, rfl, hl1⟩ := len_succ hl0
          obtain ⟨v2, vs2, rfl, hl2⟩ := len_succ hl1
          obtain ⟨v3, vs3, rfl, hl3⟩ := len_succ hl2
          obtain ⟨v4, vs4, rfl, hl4⟩ := len_succ hl3
          obtain ⟨v5, vs5, rfl, hl5⟩ := len_succ hl4
          obtain ⟨v6, vs6, rfl, hl6⟩ := len_succ hl5
          obtain ⟨v7, vs7, rfl, hl7⟩ := len_succ hl6
          obtain ⟨v8, vs8, rfl, hl8⟩ := len_succ hl7
          obtain ⟨v9, vs9, rfl, hl9⟩ := len_succ hl8
          obtain ⟨v10, vs10, rfl, hl10⟩ := len_succ hl9
          obtain ⟨v11, vs11, rfl, hl11⟩ := len_succ hl10
          obtain ⟨v12, vs12, rfl, hl12⟩ := len_succ hl11
          obtain ⟨v13, vs13, rfl, hl13⟩ := len_succ hl12
          obtain ⟨v14, vs14, rfl, hl14⟩ := len_succ hl13
          obtain ⟨v15, vs15, rfl, hl15⟩ := len_succ hl14
          obtain ⟨v16, vs16, rfl, hl16⟩ := len_succ hl15
          obtain rfl := len_zero hl16
          have hB4 := (show Box gq (t + 4) b3 34 [encA .i64 d5] [3] from hf _ (List.mem_of_getElem? (i := 2) rfl) (by kernel_rfl))
          refine WP.loadE (ty := 3) (o := 0) (m := 3) (k := .i64) (d := d5) (i := 1) hB4 (by kernel_rfl) (by decide) (by kernel_rfl) (by kernel_rfl) ?_
          refine WP.done (by kernel_rfl) (Shown.ok (v := .int .i64 (aget d5 1)) (by kernel_rfl) (Step.refl _ _) ?_)
          exact ⟨trivial, trivial, trivial, trivial, trivial, trivial, rfl, trivial, trivial, trivial, trivial, trivial, trivial, trivial, trivial, trivial, trivial, trivial, trivial, trivial, trivial, trivial, trivial, trivial, trivial, trivial⟩
        · intro vs gq stq hl hf
          replace hl : vs.length = 17 := hl
          obtain ⟨v0, vs0, rfl, hl0⟩ := len_succ hl
          obtain ⟨v1, vs1, rfl, hl1⟩ := len_succ hl0
          obtain ⟨v2, vs2, rfl, hl2⟩ := len_succ hl1
          obtain ⟨v3, vs3, rfl, hl3⟩ := len_succ hl2
          obtain ⟨v4, vs4, rfl, hl4⟩ := len_succ hl3
          obtain ⟨v5, vs5, rfl, hl5⟩ := len_succ hl4
          obtain ⟨v6, vs6, rfl, hl6⟩ := len_succ hl5
          obtain ⟨v7, vs7, rfl, hl7⟩ := len_succ hl6
          obtain ⟨v8, vs8, rfl, hl8⟩ := len_succ hl7
          obtain ⟨v9, vs9, rfl, hl9⟩ := len_succ hl8
          obtain ⟨v10, vs10, rfl, hl10⟩ := len_succ hl9
          obtain ⟨v11, vs11, rfl, hl11⟩ := len_succ hl10
          obtain ⟨v12, vs12, rfl, hl12⟩ := len_succ hl11
          obtain ⟨v13, vs13, rfl, hl13⟩ := len_succ hl12
          obtain ⟨v14, vs14, rfl, hl14⟩ := len_succ hl13
          obtain ⟨v15, vs15, rfl, hl15⟩ := len_succ hl14
          obtain ⟨v16, vs16, rfl, hl16⟩ := len_succ hl15
          obtain rfl := len_zero hl16
          have hB4 := (show Box gq (t + 4) b3 34 [encA .i64 d5] [3] from hf _ (List.mem_of_getElem? (i := 2) rfl) (by kernel_rfl))
          refine WP.loadE (ty := 3) (o := 0) (m := 3) (k := .i64) (d := d5) (i := 2) hB4 (by kernel_rfl) (by decide) (by kernel_rfl) (by kernel_rfl) ?_
          refine WP.done (by kernel_rfl) (Shown.ok (v := .int .i64 (aget d5 2)) (by kernel_rfl) (Step.refl _ _) ?_)
          exact ⟨trivial, trivial, trivial, trivial, trivial, trivial, trivial, rfl, trivial, trivial, trivial, trivial, trivial, trivial, trivial, trivial, trivial, trivial, trivial, trivial, trivial, trivial, trivial, trivial, trivial, trivial⟩
        · intro vs gq stq hl hf
          replace hl : vs.length = 17 := hl
          obtain ⟨v0, vs0, rfl, hl0⟩ := len_succ hl
          obtain ⟨v1, vs1, rfl, hl1⟩ := len_succ hl0
          obtain ⟨v2, vs2, rfl, hl2⟩ := len_succ hl1
          obtain ⟨v3, vs3, rfl, hl3⟩ := len_succ hl2
          obtain ⟨v4, vs4, rfl, hl4⟩ := len_succ hl3
          obtain ⟨v5, vs5, rfl, hl5⟩ := len_succ hl4
          obtain ⟨v6, vs6, rfl, hl6⟩ := len_succ hl5
          obtain ⟨v7, vs7, rfl, hl7⟩ := len_succ hl6
          obtain ⟨v8, vs8, rfl, hl8⟩ := len_succ hl7
          obtain ⟨v9, vs9, rfl, hl9⟩ := len_succ hl8
          obtain ⟨v10, vs10, rfl, hl10⟩ := len_succ hl9
          obtain ⟨v11, vs11, rfl, hl11⟩ := len_succ hl10
          obtain ⟨v12, vs12, rfl, hl12⟩ := len_succ hl11
          obtain ⟨v13, vs13, rfl, hl13⟩ := len_succ hl12
          obtain ⟨v14, vs14, rfl, hl14⟩ := len_succ hl13
          obtain ⟨v15, vs15, rfl, hl15⟩ := len_succ hl14
          obtain ⟨v16, vs16, rfl, hl16⟩ := len_succ hl15
          obtain rfl := len_zero hl16
          have hB2 := (show Box gq (t + 3) b2 32 [encA .u8 d3, [.int .i64 x4], encA .i64 d4, [.slice a2 n2 c2]] [8, 1, 2, 1] from hf _ (List.mem_of_getElem? (i := 0) rfl) (by kernel_rfl))
          refine WP.loadB (v := AG [encA .u8 d3, [.int .i64 x4], encA .i64 d4, [.slice a2 n2 c2]]) hB2 (by kernel_rfl) (by kernel_rfl) ?_
          refine WP.done (by kernel_rfl) (Shown.ok (v := AG [encA .u8 d3, [.int .i64 x4], encA .i64 d4, [.slice a2 n2 c2]]) (by kernel_rfl) (Step.refl _ _) ?_)
          exact ⟨trivial, trivial, trivial, trivial, trivial, trivial, trivial, trivial, rfl, trivial, trivial, trivial, trivial, trivial, trivial, trivial, trivial, trivial, trivial, trivial, trivial, trivial, trivial, trivial, trivial, trivial⟩
        · intro vs gq stq hl hf
          replace hl : vs.length = 17 := hl
          obtain ⟨v0, vs0, rfl, hl0⟩ := len_succ hl
          obtain ⟨v1, vs1, rfl, hl1⟩ := len_succ hl0
          obtain ⟨v2, vs2, rfl, hl2⟩ := len_succ hl1
          obtain ⟨v3, vs3, rfl, hl3⟩ := len_succ hl2
          obtain ⟨v4, vs4, rfl, hl4⟩ := len_succ hl3
          obtain ⟨v5, vs5, rfl, hl5⟩ := len_succ hl4
          obtain ⟨v6, vs6, rfl, hl6⟩ := len_succ hl5
          obtain ⟨v7, vs7, rfl, hl7⟩ := len_succ hl6
          obtain ⟨v8, vs8, rfl, hl8⟩ := len_succ hl7
          obtain ⟨v9, vs9, rfl, hl9⟩ := len_succ hl8
          obtain ⟨v10, vs10, rfl, hl10⟩ := len_succ hl9
          obtain ⟨v11, vs11, rfl, hl11⟩ := len_succ hl10
          obtain ⟨v12, vs12, rfl, hl12⟩ := len_succ hl11
          obtain ⟨v13, vs13, rfl, hl13⟩ := len_succ hl12
          obtain ⟨v14, vs14, rfl, hl14⟩ := len_succ hl13
          obtain ⟨v15, vs15, rfl, hl15⟩ := len_succ hl14
          obtain ⟨v16, vs16, rfl, hl16⟩ := len_succ hl15
          obtain rfl := len_zero hl16
          have hR2 := (show OwnS k_S_purse_Held gq (t + 2) 56 a2 n2 c2 l2 from hf _ (List.mem_of_getElem? (i := 1) rfl) (by kernel_rfl))
          have e3 := (show v3 = AG [encA .u8 d3, [.int .i64 x4], encA .i64 d4, [.slice a2 n2 c2]] from hf _ (List.mem_of_getElem? (i := 8) rfl) (by kernel_rfl))
          subst e3
          have hS7 : 0 ∉ ([(t + 2)] : List Nat) := by simp <;> omega
          have stl7 := GW.lend_step gq [(t + 2)]
          have hRl7 := hR2.lendTo hS7 (by simp)
          refine WP.regw (g' := GW.lend gq [(t + 2)]) rfl ?_
          have hcal12 := P.purse_Purse_Total (GW.lend gq [(t + 2)]) d3 x4 d4 l2 a2 n2 c2 hRl7 x8 hk12
          refine WP.callC hcal12 (by kernel_rfl) ?_
          rintro _ g28 st28 rfl
          have st29 := (GW.back_step st28).lentS
          have hO7 := hR2.backTo hS7 (by simp) st28 (fun x => x)
          refine WP.regw (g' := GW.back gq g28 [(t + 2)]) rfl ?_
          generalize GW.back gq g28 [(t + 2)] = g29 at *
          refine WP.done (by kernel_rfl) (Shown.ok (v := .int .i64 x8) (by kernel_rfl) st29 ?_)
          exact ⟨trivial, trivial, trivial, trivial, trivial, trivial, trivial, trivial, trivial, rfl, hO7, trivial, trivial, trivial, trivial, trivial, trivial, trivial, trivial, trivial, trivial, trivial, trivial, trivial, trivial, trivial⟩
        · intro vs gq stq hl hf
          replace hl : vs.length = 17 := hl
          obtain ⟨v0, vs0, rfl, hl0⟩ := len_succ hl
          obtain ⟨v1, vs1, rfl, hl1⟩ := len_succ hl0
          obtain ⟨v2, vs2, rfl, hl2⟩ := len_succ hl1
          obtain ⟨v3, vs3, rfl, hl3⟩ := len_succ hl2
          obtain ⟨v4, vs4, rfl, hl4⟩ := len_succ hl3
          obtain ⟨v5, vs5, rfl, hl5⟩ := len_succ hl4
          obtain ⟨v6, vs6, rfl, hl6⟩ := len_succ hl5
          obtain ⟨v7, vs7, rfl, hl7⟩ := len_succ hl6
          obtain ⟨v8, vs8, rfl, hl8⟩ := len_succ hl7
          obtain ⟨v9, vs9, rfl, hl9⟩ := len_succ hl8
          obtain ⟨v10, vs10, rfl, hl10⟩ := len_succ hl9
          obtain ⟨v11, vs11, rfl, hl11⟩ := len_succ hl10
          obtain ⟨v12, vs12, rfl, hl12⟩ := len_succ hl11
          obtain ⟨v13, vs13, rfl, hl13⟩ := len_succ hl12
          obtain ⟨v14, vs14, rfl, hl14⟩ := len_succ hl13
          obtain ⟨v15, vs15, rfl, hl15⟩ := len_succ hl14
          obtain ⟨v16, vs16, rfl, hl16⟩ := len_succ hl15
          obtain rfl := len_zero hl16
          have e0 := (show v0 = .int .i64 (aget d5 0) from hf _ (List.mem_of_getElem? (i := 5) rfl) (by kernel_rfl))
          subst e0
          have e1 := (show v1 = .int .i64 (aget d5 1) from hf _ (List.mem_of_getElem? (i := 6) rfl) (by kernel_rfl))
          subst e1
          have e2 := (show v2 = .int .i64 (aget d5 2) from hf _ (List.mem_of_getElem? (i := 7) rfl) (by kernel_rfl))
          subst e2
          have e4 := (show v4 = .int .i64 x8 from hf _ (List.mem_of_getElem? (i := 9) rfl) (by kernel_rfl))
          subst e4
          refine WP.still 1 (by kernel_rfl) ?_
          refine WP.done (by kernel_rfl) (Shown.ok (v := .bool ((IntKind.i64.wrap ((IntKind.i64.wrap ((aget d5 0) + (aget d5 1))) + (aget d5 2))) != x8)) (by kernel_rfl) (Step.refl _ _) ?_)
          exact ⟨trivial, trivial, trivial, trivial, trivial, trivial, trivial, trivial, trivial, trivial, trivial, congrArg Value.bool h13, trivial, trivial, trivial, trivial, trivial, trivial, trivial, trivial, trivial, trivial, trivial, trivial, trivial, trivial⟩
        · intro vs gq stq hl hf
          replace hl : vs.length = 17 := hl
          obtain ⟨v0, vs0, rfl, hl0⟩ := len_succ hl
          obtain ⟨v1, vs1, rfl, hl1⟩ := len_succ hl0
          obtain ⟨v2, vs2, rfl, hl2⟩ := len_succ hl1
          obtain ⟨v3, vs3, rfl, hl3⟩ := len_succ hl2
          obtain ⟨v4, vs4, rfl, hl4⟩ := len_succ hl3
          obtain ⟨v5, vs5, rfl, hl5⟩ := len_succ hl4
          obtain ⟨v6, vs6, rfl, hl6⟩ := len_succ hl5
          obtain ⟨v7, vs7, rfl, hl7⟩ := len_succ hl6
          obtain ⟨v8, vs8, rfl, hl8⟩ := len_succ hl7
          obtain ⟨v9, vs9, rfl, hl9⟩ := len_succ hl8
          obtain ⟨v10, vs10, rfl, hl10⟩ := len_succ hl9
          obtain ⟨v11, vs11, rfl, hl11⟩ := len_succ hl10
          obtain ⟨v12, vs12, rfl, hl12⟩ := len_succ hl11
          obtain ⟨v13, vs13, rfl, hl13⟩ := len_succ hl12
          obtain ⟨v14, vs14, rfl, hl14⟩ := len_succ hl13
          obtain ⟨v15, vs15, rfl, hl15⟩ := len_succ hl14
          obtain ⟨v16, vs16, rfl, hl16⟩ := len_succ hl15
          obtain rfl := len_zero hl16
          have hB5 := (show Box gq (t + 5) b4 34 [encA .i64 d6] [3] from hf _ (List.mem_of_getElem? (i := 3) rfl) (by kernel_rfl))
          have e5 := (show v5 = .bool false from hf _ (List.mem_of_getElem? (i := 11) rfl) (by kernel_rfl))
          subst e5
          refine WP.loadE (ty := 3) (o := 0) (m := 3) (k := .i64) (d := d6) (i := 0) hB5 (by kernel_rfl) (by decide) (by kernel_rfl) (by kernel_rfl) ?_
          refine WP.done (by kernel_rfl) (Shown.ok (v := .int .i64 (aget d6 0)) (by kernel_rfl) (Step.refl _ _) ?_)
          exact ⟨trivial, trivial, trivial, trivial, trivial, trivial, trivial, trivial, trivial, trivial, trivial, trivial, rfl, trivial, trivial, trivial, trivial, trivial, trivial, trivial, trivial, trivial, trivial, trivial, trivial, trivial⟩
        · intro vs gq stq hl hf
          replace hl : vs.length = 17 := hl
          obtain ⟨v0, vs0, rfl, hl0⟩ := len_succ hl
          obtain ⟨v1, vs1, rfl, hl1⟩ := len_succ hl0
          obtain ⟨v2, vs2, rfl, hl2⟩ := len_succ hl1
          obtain ⟨v3, vs3, rfl, hl3⟩ := len_succ hl2
          obtain ⟨v4, vs4, rfl, hl4⟩ := len_succ hl3
          obtain ⟨v5, vs5, rfl, hl5⟩ := len_succ hl4
          obtain ⟨v6, vs6, rfl, hl6⟩ := len_succ hl5
          obtain ⟨v7, vs7, rfl, hl7⟩ := len_succ hl6
          obtain ⟨v8, vs8, rfl, hl8⟩ := len_succ hl7
          obtain ⟨v9, vs9, rfl, hl9⟩ := len_succ hl8
          obtain ⟨v10, vs10, rfl, hl10⟩ := len_succ hl9
          obtain ⟨v11, vs11, rfl, hl11⟩ := len_succ hl10
          obtain ⟨v12, vs12, rfl, hl12⟩ := len_succ hl11
          obtain ⟨v13, vs13, rfl, hl13⟩ := len_succ hl12
          obtain ⟨v14, vs14, rfl, hl14⟩ := len_succ hl13
          obtain ⟨v15, vs15, rfl, hl15⟩ := len_succ hl14
          obtain ⟨v16, vs16, rfl, hl16⟩ := len_succ hl15
          obtain rfl := len_zero hl16
          have hB5 := (show Box gq (t + 5) b4 34 [encA .i64 d6] [3] from hf _ (List.mem_of_getElem? (i := 3) rfl) (by kernel_rfl))
          have e5 := (show v5 = .bool false from hf _ (List.mem_of_getElem? (i := 11) rfl) (by kernel_rfl))
          subst e5
          refine WP.loadE (ty := 3) (o := 0) (m := 3) (k := .i64) (d := d6) (i := 1) hB5 (by kernel_rfl) (by decide) (by kernel_rfl) (by kernel_rfl) ?_
          refine WP.done (by kernel_rfl) (Shown.ok (v := .int .i64 (aget d6 1)) (by kernel_rfl) (Step.refl _ _) ?_)
          exact ⟨trivial, trivial, trivial, trivial, trivial, trivial, trivial, trivial, trivial, trivial, trivial, trivial, trivial, rfl, trivial, trivial, trivial, trivial, trivial, trivial, trivial, trivial, trivial, trivial, trivial, trivial⟩
        · intro vs gq stq hl hf
          replace hl : vs.length = 17 := hl
          obtain ⟨v0, vs0, rfl, hl0⟩ := len_succ hl
          obtain ⟨v1, vs1, rfl, hl1⟩ := len_succ hl0
          obtain ⟨v2, vs2, rfl, hl2⟩ := len_succ hl1
          obtain ⟨v3, vs3, rfl, hl3⟩ := len_succ hl2
          obtain ⟨v4, vs4, rfl, hl4⟩ := len_succ hl3
          obtain ⟨v5, vs5, rfl, hl5⟩ := len_succ hl4
          obtain ⟨v6, vs6, rfl, hl6⟩ := len_succ hl5
          obtain ⟨v7, vs7, rfl, hl7⟩ := len_succ hl6
          obtain ⟨v8, vs8, rfl, hl8⟩ := len_succ hl7
          obtain ⟨v9, vs9, rfl, hl9⟩ := len_succ hl8
          obtain ⟨v10, vs10, rfl, hl10⟩ := len_succ hl9
          obtain ⟨v11, vs11, rfl, hl11⟩ := len_succ hl10
          obtain ⟨v12, vs12, rfl, hl12⟩ := len_succ hl11
          obtain ⟨v13, vs13, rfl, hl13⟩ := len_succ hl12
          obtain ⟨v14, vs14, rfl, hl14⟩ := len_succ hl13
          obtain ⟨v15, vs15, rfl, hl15⟩ := len_succ hl14
          obtain ⟨v16, vs16, rfl, hl16⟩ := len_succ hl15
          obtain rfl := len_zero hl16
          have hB5 := (show Box gq (t + 5) b4 34 [encA .i64 d6] [3] from hf _ (List.mem_of_getElem? (i := 3) rfl) (by kernel_rfl))
          have e5 := (show v5 = .bool false from hf _ (List.mem_of_getElem? (i := 11) rfl) (by kernel_rfl))
          subst e5
          refine WP.loadE (ty := 3) (o := 0) (m := 3) (k := .i64) (d := d6) (i := 2) hB5 (by kernel_rfl) (by decide) (by kernel_rfl) (by kernel_rfl) ?_
          refine WP.done (by kernel_rfl) (Shown.ok (v := .int .i64 (aget d6 2)) (by kernel_rfl) (Step.refl _ _) ?_)
          exact ⟨trivial, trivial, trivial, trivial, trivial, trivial, trivial, trivial, trivial, trivial, trivial, trivial, trivial, trivial, rfl, trivial, trivial, trivial, trivial, trivial, trivial, trivial, trivial, trivial, trivial, trivial⟩
        · intro vs gq stq hl hf
          replace hl : vs.length = 17 := hl
          obtain ⟨v0, vs0, rfl, hl0⟩ := len_succ hl
          obtain ⟨v1, vs1, rfl, hl1⟩ := len_succ hl0
          obtain ⟨v2, vs2, rfl, hl2⟩ := len_succ hl1
          obtain ⟨v3, vs3, rfl, hl3⟩ := len_succ hl2
          obtain ⟨v4, vs4, rfl, hl4⟩ := len_succ hl3
          obtain ⟨v5, vs5, rfl, hl5⟩ := len_succ hl4
          obtain ⟨v6, vs6, rfl, hl6⟩ := len_succ hl5
          obtain ⟨v7, vs7, rfl, hl7⟩ := len_succ hl6
          obtain ⟨v8, vs8, rfl, hl8⟩ := len_succ hl7
          obtain ⟨v9, vs9, rfl, hl9⟩ := len_succ hl8
          obtain ⟨v10, vs10, rfl, hl10⟩ := len_succ hl9
          obtain ⟨v11, vs11, rfl, hl11⟩ := len_succ hl10
          obtain ⟨v12, vs12, rfl, hl12⟩ := len_succ hl11
          obtain ⟨v13, vs13, rfl, hl13⟩ := len_succ hl12
          obtain ⟨v14, vs14, rfl, hl14⟩ := len_succ hl13
          obtain ⟨v15, vs15, rfl, hl15⟩ := len_succ hl14
          obtain ⟨v16, vs16, rfl, hl16⟩ := len_succ hl15
          obtain rfl := len_zero hl16
          have hB2 := (show Box gq (t + 3) b2 32 [encA .u8 d3, [.int .i64 x4], encA .i64 d4, [.slice a2 n2 c2]] [8, 1, 2, 1] from hf _ (List.mem_of_getElem? (i := 0) rfl) (by kernel_rfl))
          have e5 := (show v5 = .bool false from hf _ (List.mem_of_getElem? (i := 11) rfl) (by kernel_rfl))
          subst e5
          refine WP.loadB (v := AG [encA .u8 d3, [.int .i64 x4], encA .i64 d4, [.slice a2 n2 c2]]) hB2 (by kernel_rfl) (by kernel_rfl) ?_
          refine WP.done (by kernel_rfl) (Shown.ok (v := AG [encA .u8 d3, [.int .i64 x4], encA .i64 d4, [.slice a2 n2 c2]]) (by kernel_rfl) (Step.refl _ _) ?_)
          exact ⟨trivial, trivial, trivial, trivial, trivial, trivial, trivial, trivial, trivial, trivial, trivial, trivial, trivial, trivial, trivial, rfl, trivial, trivial, trivial, trivial, trivial, trivial, trivial, trivial, trivial, trivial⟩
        · intro vs gq stq hl hf
          replace hl : vs.length = 17 := hl
          obtain ⟨v0, vs0, rfl, hl0⟩ := len_succ hl
          obtain ⟨v1, vs1, rfl, hl1⟩ := len_succ hl0
          obtain ⟨v2, vs2, rfl, hl2⟩ := len_succ hl1
          obtain ⟨v3, vs3, rfl, hl3⟩ := len_succ hl2
          obtain ⟨v4, vs4, rfl, hl4⟩ := len_succ hl3
          obtain ⟨v5, vs5, rfl, hl5⟩ := len_succ hl4
          obtain ⟨v6, vs6, rfl, hl6⟩ := len_succ hl5
          obtain ⟨v7, vs7, rfl, hl7⟩ := len_succ hl6
          obtain ⟨v8, vs8, rfl, hl8⟩ := len_succ hl7
          obtain ⟨v9, vs9, rfl, hl9⟩ := len_succ hl8
          obtain ⟨v10, vs10, rfl, hl10⟩ := len_succ hl9
          obtain ⟨v11, vs11, rfl, hl11⟩ := len_succ hl10
          obtain ⟨v12, vs12, rfl, hl12⟩ := len_succ hl11
          obtain ⟨v13, vs13, rfl, hl13⟩ := len_succ hl12
          obtain ⟨v14, vs14, rfl, hl14⟩ := len_succ hl13
          obtain ⟨v15, vs15, rfl, hl15⟩ := len_succ hl14
          obtain ⟨v16, vs16, rfl, hl16⟩ := len_succ hl15
          obtain rfl := len_zero hl16
          have hR2 := (show OwnS k_S_purse_Held gq (t + 2) 56 a2 n2 c2 l2 from hf _ (List.mem_of_getElem? (i := 10) rfl) (by kernel_rfl))
          have e5 := (show v5 = .bool false from hf _ (List.mem_of_getElem? (i := 11) rfl) (by kernel_rfl))
          subst e5
          have e9 := (show v9 = AG [encA .u8 d3, [.int .i64 x4], encA .i64 d4, [.slice a2 n2 c2]] from hf _ (List.mem_of_getElem? (i := 15) rfl) (by kernel_rfl))
          subst e9
          have hS8 : 0 ∉ ([(t + 2)] : List Nat) := by simp <;> omega
          have stl8 := GW.lend_step gq [(t + 2)]
          have hRl8 := hR2.lendTo hS8 (by simp)
          refine WP.regw (g' := GW.lend gq [(t + 2)]) rfl ?_
          have hcal13 := P.purse_Purse_Total (GW.lend gq [(t + 2)]) d3 x4 d4 l2 a2 n2 c2 hRl8 x9 hk13
          refine WP.callC hcal13 (by kernel_rfl) ?_
          rintro _ g31 st31 rfl
          have st32 := (GW.back_step st31).lentS
          have hO8 := hR2.backTo hS8 (by simp) st31 (fun x => x)
          refine WP.regw (g' := GW.back gq g31 [(t + 2)]) rfl ?_
          generalize GW.back gq g31 [(t + 2)] = g32 at *
          refine WP.done (by kernel_rfl) (Shown.ok (v := .int .i64 x9) (by kernel_rfl) st32 ?_)
          exact ⟨trivial, trivial, trivial, trivial, trivial, trivial, trivial, trivial, trivial, trivial, trivial, trivial, trivial, trivial, trivial, trivial, rfl, hO8, trivial, trivial, trivial, trivial, trivial, trivial, trivial, trivial⟩
        · intro vs gq stq hl hf
          replace hl : vs.length = 17 := hl
          obtain ⟨v0, vs0, rfl, hl0⟩ := len_succ hl
          obtain ⟨v1, vs1, rfl, hl1⟩ := len_succ hl0
          obtain ⟨v2, vs2, rfl, hl2⟩ := len_succ hl1
          obtain ⟨v3, vs3, rfl, hl3⟩ := len_succ hl2
          obtain ⟨v4, vs4, rfl, hl4⟩ := len_succ hl3
          obtain ⟨v5, vs5, rfl, hl5⟩ := len_succ hl4
          obtain ⟨v6, vs6, rfl, hl6⟩ := len_succ hl5
          obtain ⟨v7, vs7, rfl, hl7⟩ := len_succ hl6
          obtain ⟨v8, vs8, rfl, hl8⟩ := len_succ hl7
          obtain ⟨v9, vs9, rfl, hl9⟩ := len_succ hl8
          obtain ⟨v10, vs10, rfl, hl10⟩ := len_succ hl9
          obtain ⟨v11, vs11, rfl, hl11⟩ := len_succ hl10
          obtain ⟨v12, vs12, rfl, hl12⟩ := len_succ hl11
          obtain ⟨v13, vs13, rfl, hl13⟩ := len_succ hl12
          obtain ⟨v14, vs14, rfl, hl14⟩ := len_succ hl13
          obtain ⟨v15, vs15, rfl, hl15⟩ := len_succ hl14
          obtain ⟨v16, vs16, rfl, hl16⟩ := len_succ hl15
          obtain rfl := len_zero hl16
          have e5 := (show v5 = .bool false from hf _ (List.mem_of_getElem? (i := 11) rfl) (by kernel_rfl))
          subst e5
          have e6 := (show v6 = .int .i64 (aget d6 0) from hf _ (List.mem_of_getElem? (i := 12) rfl) (by kernel_rfl))
          subst e6
          have e7 := (show v7 = .int .i64 (aget d6 1) from hf _ (List.mem_of_getElem? (i := 13) rfl) (by kernel_rfl))
          subst e7
          have e8 := (show v8 = .int .i64 (aget d6 2) from hf _ (List.mem_of_getElem? (i := 14) rfl) (by kernel_rfl))
          subst e8
          have e10 := (show v10 = .int .i64 x9 from hf _ (List.mem_of_getElem? (i := 16) rfl) (by kernel_rfl))
          subst e10
          refine WP.still 1 (by kernel_rfl) ?_
          refine WP.done (by kernel_rfl) (Shown.ok (v := .bool ((IntKind.i64.wrap ((IntKind.i64.wrap ((aget d6 0) + (aget d6 1))) + (aget d6 2))) != x9)) (by kernel_rfl) (Step.refl _ _) ?_)
          exact ⟨trivial, trivial, trivial, trivial, trivial, trivial, trivial, trivial, trivial, trivial, trivial, trivial, trivial, trivial, trivial, trivial, trivial, trivial, congrArg Value.bool h14, trivial, trivial, trivial, trivial, trivial, trivial, trivial⟩
        · intro vs gq stq hl hf
          replace hl : vs.length = 17 := hl
          obtain ⟨v0, vs0, rfl, hl0⟩ := len_succ hl
          obtain ⟨v1, vs1, rfl, hl1⟩ := len_succ hl0
          obtain ⟨v2, vs2, rfl, hl2⟩ := len_succ hl1
          obtain ⟨v3, vs3, rfl, hl3⟩ := len_succ hl2
          obtain ⟨v4, vs4, rfl, hl4⟩ := len_succ hl3
          obtain ⟨v5, vs5, rfl, hl5⟩ := len_succ hl4
          obtain ⟨v6, vs6, rfl, hl6⟩ := len_succ hl5
          obtain ⟨v7, vs7, rfl, hl7⟩ := len_succ hl6
          obtain ⟨v8, vs8, rfl, hl8⟩ := len_succ hl7
          obtain ⟨v9, vs9, rfl, hl9⟩ := len_succ hl8
          obtain ⟨v10, vs10, rfl, hl10⟩ := len_succ hl9
          obtain ⟨v11, vs11, rfl, hl11⟩ := len_succ hl10
          obtain ⟨v12, vs12, rfl, hl12⟩ := len_succ hl11
          obtain ⟨v13, vs13, rfl, hl13⟩ := len_succ hl12
          obtain ⟨v14, vs14, rfl, hl14⟩ := len_succ hl13
          obtain ⟨v15, vs15, rfl, hl15⟩ := len_succ hl14
          obtain ⟨v16, vs16, rfl, hl16⟩ := len_succ hl15
          obtain rfl := len_zero hl16
          have hB6 := (show Box gq (t + 6) b5 34 [encA .i64 d7] [3] from hf _ (List.mem_of_getElem? (i := 4) rfl) (by kernel_rfl))
          have e11 := (show v11 = .bool false from hf _ (List.mem_of_getElem? (i := 18) rfl) (by kernel_rfl))
          subst e11
          refine WP.loadE (ty := 3) (o := 0) (m := 3) (k := .i64) (d := d7) (i := 0) hB6 (by kernel_rfl) (by decide) (by kernel_rfl) (by kernel_rfl) ?_
          refine WP.done (by kernel_rfl) (Shown.ok (v := .int .i64 (aget d7 0)) (by kernel_rfl) (Step.refl _ _) ?_)
          exact ⟨trivial, trivial, trivial, trivial, trivial, trivial, trivial, trivial, trivial, trivial, trivial, trivial, trivial, trivial, trivial, trivial, trivial, trivial, trivial, rfl, trivial, trivial, trivial, trivial, trivial, trivial⟩
        · intro vs gq stq hl hf
          replace hl : vs.length = 17 := hl
          obtain ⟨v0, vs0, rfl, hl0⟩ := len_succ hl
          obtain ⟨v1, vs1, rfl, hl1⟩ := len_succ hl0
          obtain ⟨v2, vs2, rfl, hl2⟩ := len_succ hl1
          obtain ⟨v3, vs3, rfl, hl3⟩ := len_succ hl2
          obtain ⟨v4, vs4, rfl, hl4⟩ := len_succ hl3
          obtain ⟨v5, vs5, rfl, hl5⟩ := len_succ hl4
          obtain ⟨v6, vs6, rfl, hl6⟩ := len_succ hl5
          obtain ⟨v7, vs7, rfl, hl7⟩ := len_succ hl6
          obtain ⟨v8, vs8, rfl, hl8⟩ := len_succ hl7
          obtain ⟨v9, vs9, rfl, hl9⟩ := len_succ hl8
          obtain ⟨v10, vs10, rfl, hl10⟩ := len_succ hl9
          obtain ⟨v11, vs11, rfl, hl11⟩ := len_succ hl10
          obtain ⟨v12, vs12, rfl, hl12⟩ := len_succ hl11
          obtain ⟨v13, vs13, rfl, hl13⟩ := len_succ hl12
          obtain ⟨v14, vs14, rfl, hl14⟩ := len_succ hl13
          obtain ⟨v15, vs15, rfl, hl15⟩ := len_succ hl14
          obtain ⟨v16, vs16, rfl, hl16⟩ := len_succ hl15
          obtain rfl := len_zero hl16
          have hB6 := (show Box gq (t + 6) b5 34 [encA .i64 d7] [3] from hf _ (List.mem_of_getElem? (i := 4) rfl) (by kernel_rfl))
          have e11 := (show v11 = .bool false from hf _ (List.mem_of_getElem? (i := 18) rfl) (by kernel_rfl))
          subst e11
          refine WP.loadE (ty := 3) (o := 0) (m := 3) (k := .i64) (d := d7) (i := 1) hB6 (by kernel_rfl) (by decide) (by kernel_rfl) (by kernel_rfl) ?_
          refine WP.done (by kernel_rfl) (Shown.ok (v := .int .i64 (aget d7 1)) (by kernel_rfl) (Step.refl _ _) ?_)
          exact ⟨trivial, trivial, trivial, trivial, trivial, trivial, trivial, trivial, trivial, trivial, trivial, trivial, trivial, trivial, trivial, trivial, trivial, trivial, trivial, trivial, rfl, trivial, trivial, trivial, trivial, trivial⟩
        · intro vs gq stq hl hf
          replace hl : vs.length = 17 := hl
          obtain ⟨v0, vs0, rfl, hl0⟩ := len_succ hl
          obtain ⟨v1, vs1, rfl, hl1⟩ := len_succ hl0
          obtain ⟨v2, vs2, rfl, hl2⟩ := len_succ hl1
          obtain ⟨v3, vs3, rfl, hl3⟩ := len_succ hl2
          obtain ⟨v4, vs4, rfl, hl4⟩ := len_succ hl3
          obtain ⟨v5, vs5, rfl, hl5⟩ := len_succ hl4
          obtain ⟨v6, vs6, rfl, hl6⟩ := len_succ hl5
          obtain ⟨v7, vs7, rfl, hl7⟩ := len_succ hl6
          obtain ⟨v8, vs8, rfl, hl8⟩ := len_succ hl7
          obtain ⟨v9, vs9, rfl, hl9⟩ := len_succ hl8
          obtain ⟨v10, vs10, rfl, hl10⟩ := len_succ hl9
          obtain ⟨v11, vs11, rfl, hl11⟩ := len_succ hl10
          obtain ⟨v12, vs12, rfl, hl12⟩ := len_succ hl11
          obtain ⟨v13, vs13, rfl, hl13⟩ := len_succ hl12
          obtain ⟨v14, vs14, rfl, hl14⟩ := len_succ hl13
          obtain ⟨v15, vs15, rfl, hl15⟩ := len_succ hl14
          obtain ⟨v16, vs16, rfl, hl16⟩ := len_succ hl15
          obtain rfl := len_zero hl16
          have hB2 := (show Box gq (t + 3) b2 32 [encA .u8 d3, [.int .i64 x4], encA .i64 d4, [.slice a2 n2 c2]] [8, 1, 2, 1] from hf _ (List.mem_of_getElem? (i := 0) rfl) (by kernel_rfl))
          have e11 := (show v11 = .bool false from hf _ (List.mem_of_getElem? (i := 18) rfl) (by kernel_rfl))
          subst e11
          refine WP.loadB (v := AG [encA .u8 d3, [.int .i64 x4], encA .i64 d4, [.slice a2 n2 c2]]) hB2 (by kernel_rfl) (by kernel_rfl) ?_
          refine WP.done (by kernel_rfl) (Shown.ok (v := AG [encA .u8 d3, [.int .i64 x4], encA .i64 d4, [.slice a2 n2 c2]]) (by kernel_rfl) (Step.refl _ _) ?_)
          exact ⟨trivial, trivial, trivial, trivial, trivial, trivial, trivial, trivial, trivial, trivial, trivial, trivial, trivial, trivial, trivial, trivial, trivial, trivial, trivial, trivial, trivial, rfl, trivial, trivial, trivial, trivial⟩
        · intro vs gq stq hl hf
          replace hl : vs.length = 17 := hl
          obtain ⟨v0, vs0, rfl, hl0⟩ := len_succ hl
          obtain ⟨v1, vs1, rfl, hl1⟩ := len_succ hl0
          obtain ⟨v2, vs2, rfl, hl2⟩ := len_succ hl1
          obtain ⟨v3, vs3, rfl, hl3⟩ := len_succ hl2
          obtain ⟨v4, vs4, rfl, hl4⟩ := len_succ hl3
          obtain ⟨v5, vs5, rfl, hl5⟩ := len_succ hl4
          obtain ⟨v6, vs6, rfl, hl6⟩ := len_succ hl5
          obtain ⟨v7, vs7, rfl, hl7⟩ := len_succ hl6
          obtain ⟨v8, vs8, rfl, hl8⟩ := len_succ hl7
          obtain ⟨v9, vs9, rfl, hl9⟩ := len_succ hl8
          obtain ⟨v10, vs10, rfl, hl10⟩ := len_succ hl9
          obtain ⟨v11, vs11, rfl, hl11⟩ := len_succ hl10
          obtain ⟨v12, vs12, rfl, hl12⟩ := len_succ hl11
          obtain ⟨v13, vs13, rfl, hl13⟩ := len_succ hl12
          obtain ⟨v14, vs14, rfl, hl14⟩ := len_succ hl13
          obtain ⟨v15, vs15, rfl, hl15⟩ := len_succ hl14
          obtain ⟨v16, vs16, rfl, hl16⟩ := len_succ hl15
          obtain rfl := len_zero hl16
          have hR2 := (show OwnS k_S_purse_Held gq (t + 2) 56 a2 n2 c2 l2 from hf _ (List.mem_of_getElem? (i := 17) rfl) (by kernel_rfl))
          have e11 := (show v11 = .bool false from hf _ (List.mem_of_getElem? (i := 18) rfl) (by kernel_rfl))
          subst e11
          have e14 := (show v14 = AG [encA .u8 d3, [.int .i64 x4], encA .i64 d4, [.slice a2 n2 c2]] from hf _ (List.mem_of_getElem? (i := 21) rfl) (by kernel_rfl))
          subst e14
          have hS9 : 0 ∉ ([(t + 2)] : List Nat) := by simp <;> omega
          have stl9 := GW.lend_step gq [(t + 2)]
          have hRl9 := hR2.lendTo hS9 (by simp)
          refine WP.regw (g' := GW.lend gq [(t + 2)]) rfl ?_
          have hcal14 := P.purse_Purse_Total (GW.lend gq [(t + 2)]) d3 x4 d4 l2 a2 n2 c2 hRl9 x10 hk14
          refine WP.callC hcal14 (by kernel_rfl) ?_
          rintro _ g34 st34 rfl
          have st35 := (GW.back_step st34).lentS
          have hO9 := hR2.backTo hS9 (by simp) st34 (fun x => x)
          refine WP.regw (g' := GW.back gq g34 [(t + 2)]) rfl ?_
          generalize GW.back gq g34 [(t + 2)] = g35 at *
          refine WP.done (by kernel_rfl) (Shown.ok (v := .int .i64 x10) (by kernel_rfl) st35 ?_)
          exact ⟨trivial, trivial, trivial, trivial, trivial, trivial, trivial, trivial, trivial, trivial, trivial, trivial, trivial, trivial, trivial, trivial, trivial, trivial, trivial, trivial, trivial, trivial, rfl, hO9, trivial, trivial⟩
        · intro vs gq stq hl hf
          replace hl : vs.length = 17 := hl
          obtain ⟨v0, vs0, rfl, hl0⟩ := len_succ hl
          obtain ⟨v1, vs1, rfl, hl1⟩ := len_succ hl0
          obtain ⟨v2, vs2, rfl, hl2⟩ := len_succ hl1
          obtain ⟨v3, vs3, rfl, hl3⟩ := len_succ hl2
          obtain ⟨v4, vs4, rfl, hl4⟩ := len_succ hl3
          obtain ⟨v5, vs5, rfl, hl5⟩ := len_succ hl4
          obtain ⟨v6, vs6, rfl, hl6⟩ := len_succ hl5
          obtain ⟨v7, vs7, rfl, hl7⟩ := len_succ hl6
          obtain ⟨v8, vs8, rfl, hl8⟩ := len_succ hl7
          obtain ⟨v9, vs9, rfl, hl9⟩ := len_succ hl8
          obtain ⟨v10, vs10, rfl, hl10⟩ := len_succ hl9
          obtain ⟨v11, vs11, rfl, hl11⟩ := len_succ hl10
          obtain ⟨v12, vs12, rfl, hl12⟩ := len_succ hl11
          obtain ⟨v13, vs13, rfl, hl13⟩ := len_succ hl12
          obtain ⟨v14, vs14, rfl, hl14⟩ := len_succ hl13
          obtain ⟨v15, vs15, rfl, hl15⟩ := len_succ hl14
          obtain ⟨v16, vs16, rfl, hl16⟩ := len_succ hl15
          obtain rfl := len_zero hl16
          have e11 := (show v11 = .bool false from hf _ (List.mem_of_getElem? (i := 18) rfl) (by kernel_rfl))
          subst e11
          have e12 := (show v12 = .int .i64 (aget d7 0) from hf _ (List.mem_of_getElem? (i := 19) rfl) (by kernel_rfl))
          subst e12
          have e13 := (show v13 = .int .i64 (aget d7 1) from hf _ (List.mem_of_getElem? (i := 20) rfl) (by kernel_rfl))
          subst e13
          have e15 := (show v15 = .int .i64 x10 from hf _ (List.mem_of_getElem? (i := 22) rfl) (by kernel_rfl))
          subst e15
          refine WP.still 1 (by kernel_rfl) ?_
          refine WP.done (by kernel_rfl) (Shown.ok (v := .bool ((IntKind.i64.wrap ((aget d7 0) + (aget d7 1))) != x10)) (by kernel_rfl) (Step.refl _ _) ?_)
          exact ⟨trivial, trivial, trivial, trivial, trivial, trivial, trivial, trivial, trivial, trivial, trivial, trivial, trivial, trivial, trivial, trivial, trivial, trivial, trivial, trivial, trivial, trivial, trivial, trivial, congrArg Value.bool h15, trivial⟩
      intro vs g36 st36 hl hf
      replace hl : vs.length = 17 := hl
      obtain ⟨v0, vs0, rfl, hl0⟩ := len_succ hl
      obtain ⟨v1, vs1, rfl, hl1⟩ := len_succ hl0
      obtain ⟨v2, vs2, rfl, hl2⟩ := len_succ hl1
      obtain ⟨v3, vs3, rfl, hl3⟩ := len_succ hl2
      obtain ⟨v4, vs4, rfl, hl4⟩ := len_succ hl3
      obtain ⟨v5, vs5, rfl, hl5⟩ := len_succ hl4
      obtain ⟨v6, vs6, rfl, hl6⟩ := len_succ hl5
      obtain ⟨v7, vs7, rfl, hl7⟩ := len_succ hl6
      obtain ⟨v8, vs8, rfl, hl8⟩ := len_succ hl7
      obtain ⟨v9, vs9, rfl, hl9⟩ := len_succ hl8
      obtain ⟨v10, vs10, rfl, hl10⟩ := len_succ hl9
      obtain ⟨v11, vs11, rfl, hl11⟩ := len_succ hl10
      obtain ⟨v12, vs12, rfl, hl12⟩ := len_succ hl11
      obtain ⟨v13, vs13, rfl, hl13⟩ := len_succ hl12
      obtain ⟨v14, vs14, rfl, hl14⟩ := len_succ hl13
      obtain ⟨v15, vs15, rfl, hl15⟩ := len_succ hl14
      obtain ⟨v16, vs16, rfl, hl16⟩ := len_succ hl15
      obtain rfl := len_zero hl16
      have e16 := (show v16 = .bool true from hf _ (List.mem_of_getElem? (i := 24) rfl) (by kernel_rfl))
      subst e16
      replace hB4 := hB4.mono st36 (WL.no1 (by omega))
      replace hB5 := hB5.mono st36 (WL.no1 (by omega))
      replace tot := tot.trans (st36.up1 (.inr (by omega)))
      refine NX.post ?_
      exact ⟨true, ⟨by kernel_rfl, by kernel_rfl⟩, tot, hB4, hB5, hs⟩
    replace hs := of_if_f hs h15
    refine CP.drawL (by kernel_rfl) [1, 3, 6, 8, 9, 11, 13, 15, 18, 20, 21, 24, 26, 28, 30, 31, 34, 36] N.baizelaw47_PursePays_1 [⟨none, [], [], fun l g => Box g (t + 3) b2 32 [encA .u8 d3, [.int .i64 x4], encA .i64 d4, [.slice a2 n2 c2]] [8, 1, 2, 1]⟩, ⟨none, [0], [], fun l g => OwnS k_S_purse_Held g (t + 2) 56 a2 n2 c2 l2⟩, ⟨none, [], [], fun l g => Box g (t + 4) b3 34 [encA .i64 d5] [3]⟩, ⟨none, [], [], fun l g => Box g (t + 5) b4 34 [encA .i64 d6] [3]⟩, ⟨none, [], [], fun l g => Box g (t + 6) b5 34 [encA .i64 d7] [3]⟩, ⟨some 0, [], [0], fun l g => l.getD 0 undef = .int .i64 (aget d5 0)⟩, ⟨some 1, [], [1], fun l g => l.getD 0 undef = .int .i64 (aget d5 1)⟩, ⟨some 2, [], [2], fun l g => l.getD 0 undef = .int .i64 (aget d5 2)⟩, ⟨some 3, [], [3], fun l g => l.getD 0 undef = AG [encA .u8 d3, [.int .i64 x4], encA .i64 d4, [.slice a2 n2 c2]]⟩, ⟨some 4, [], [4], fun l g => l.getD 0 undef = .int .i64 x8⟩, ⟨some 4, [0], [], fun l g => OwnS k_S_purse_Held g (t + 2) 56 a2 n2 c2 l2⟩, ⟨some 5, [], [5], fun l g => l.getD 0 undef = .bool false⟩, ⟨some 6, [], [6], fun l g => l.getD 0 undef = .int .i64 (aget d6 0)⟩, ⟨some 7, [], [7], fun l g => l.getD 0 undef = .int .i64 (aget d6 1)⟩, ⟨some 8, [], [8], fun l g => l.getD 0 undef = .int .i64 (aget d6 2)⟩, ⟨some 9, [], [9], fun l g => l.getD 0 undef = AG [encA .u8 d3, [.int .i64 x4], encA .i64 d4, [.slice a2 n2 c2]]⟩, ⟨some 10, [], [10], fun l g => l.getD 0 undef = .int .i64 x9⟩, ⟨some 10, [0], [], fun l g => OwnS k_S_purse_Held g (t + 2) 56 a2 n2 c2 l2⟩, ⟨some 11, [], [11], fun l g => l.getD 0 undef = .bool false⟩, ⟨some 12, [], [12], fun l g => l.getD 0 undef = .int .i64 (aget d7 0)⟩, ⟨some 13, [], [13], fun l g => l.getD 0 undef = .int .i64 (aget d7 1)⟩, ⟨some 14, [], [14], fun l g => l.getD 0 undef = AG [encA .u8 d3, [.int .i64 x4], encA .i64 d4, [.slice a2 n2 c2]]⟩, ⟨some 15, [], [15], fun l g => l.getD 0 undef = .int .i64 x10⟩, ⟨some 15, [0], [], fun l g => OwnS k_S_purse_Held g (t + 2) 56 a2 n2 c2 l2⟩, ⟨some 16, [], [16], fun l g => l.getD 0 undef = .bool false⟩, ⟨some 17, [], [17], fun l g => l.getD 0 undef = .int .i64 (aget d7 2)⟩] [[], [], [], [], [0], [], [], [], [], [], [0], [], [], [], [], [0], [], []] [(t + 2)] [0, 2, 5] [4, 7, 10, 12, 14, 16, 17, 19, 22, 23, 25, 27, 29, 32, 33, 35, 37, 38] (by kernel_rfl) (by simp <;> omega) (by simp) ⟨fun _ _ _ _ st h0 hl hj hB2 => (hB2.mono st (fun h => absurd (hl _ h) (by simp <;> omega))), fun _ _ _ _ st h0 hl hj hR2 => (hR2.mono st h0 (hj 0 (by simp) _ rfl)), fun _ _ _ _ st h0 hl hj hB4 => (hB4.mono st (fun h => absurd (hl _ h) (by simp <;> omega))), fun _ _ _ _ st h0 hl hj hB5 => (hB5.mono st (fun h => absurd (hl _ h) (by simp <;> omega))), fun _ _ _ _ st h0 hl hj hB6 => (hB6.mono st (fun h => absurd (hl _ h) (by simp <;> omega))), fun _ _ _ _ st h0 hl hj e0 => e0, fun _ _ _ _ st h0 hl hj e1 => e1, fun _ _ _ _ st h0 hl hj e2 => e2, fun _ _ _ _ st h0 hl hj e3 => e3, fun _ _ _ _ st h0 hl hj e4 => e4, fun _ _ _ _ st h0 hl hj hR2 => (hR2.mono st h0 (hj 0 (by simp) _ rfl)), fun _ _ _ _ st h0 hl hj e5 => e5, fun _ _ _ _ st h0 hl hj e6 => e6, fun _ _ _ _ st h0 hl hj e7 => e7, fun _ _ _ _ st h0 hl hj e8 => e8, fun _ _ _ _ st h0 hl hj e9 => e9, fun _ _ _ _ st h0 hl hj e10 => e10, fun _ _ _ _ st h0 hl hj hR2 => (hR2.mono st h0 (hj 0 (by simp) _ rfl)), fun _ _ _ _ st h0 hl hj e11 => e11, fun _ _ _ _ st h0 hl hj e12 => e12, fun _ _ _ _ st h0 hl hj e13 => e13, fun _ _ _ _ st h0 hl hj e14 => e14, fun _ _ _ _ st h0 hl hj e15 => e15, fun _ _ _ _ st h0 hl hj hR2 => (hR2.mono st h0 (hj 0 (by simp) _ rfl)), fun _ _ _ _ st h0 hl hj e16 => e16, fun _ _ _ _ st h0 hl hj e17 => e17, trivial⟩ ⟨hB2, hR2, hB4, hB5, hB6, trivial, trivial, trivial, trivial, trivial, trivial, trivial, trivial, trivial, trivial, trivial, trivial, trivial, trivial, trivial, trivial, trivial, trivial, trivial, trivial, trivial, trivial⟩ (by kernel_rfl) (fun vs => by kernel_rfl) ?_ ?_ ?_
    · intro j hj
      have hq : j = 0 ∨ j = 1 ∨ j = 2 ∨ j = 3 ∨ j = 4 ∨ j = 5 ∨ j = 6 ∨ j = 7 ∨ j = 8 ∨ j = 9 ∨ j = 10 ∨ j = 11 ∨ j = 12 ∨ j = 13 ∨ j = 14 ∨ j = 15 ∨ j = 16 ∨ j = 17 := by have h : j < 18 := hj; omega
      rcases hq with rfl | rfl | rfl | rfl | rfl | rfl | rfl | rfl | rfl | rfl | rfl | rfl | rfl | rfl | rfl | rfl | rfl | rfl
      · intro vs gq stq hl hf
        replace hl : vs.length = 18 := hl
        obtain ⟨v0, vs0, rfl, hl0⟩ := len_succ hl
        obtain ⟨v1, vs1, rfl, hl1⟩ := len_succ hl0
        obtain ⟨v2, vs2, rfl, hl2⟩ := len_succ hl1
        obtain ⟨v3, vs3, rfl, hl3⟩ := len_succ hl2
        obtain ⟨v4, vs4, rfl, hl4⟩ := len_succ hl3
        obtain ⟨v5, vs5, rfl, hl5⟩ := len_succ hl4
        obtain ⟨v6, vs6, rfl, hl6⟩ := len_succ hl5
        obtain ⟨v7, vs7, rfl, hl7⟩ := len_succ hl6
        obtain ⟨v8, vs8, rfl, hl8⟩ := len_succ hl7
        obtain ⟨v9, vs9, rfl, hl9⟩ := len_succ hl8
        obtain ⟨v10, vs10, rfl, hl10⟩ := len_succ hl9
        obtain ⟨v11, vs11, rfl, hl11⟩ := len_succ hl10
        obtain ⟨v12, vs12, rfl, hl12⟩ := len_succ hl11
        obtain ⟨v13, vs13, rfl, hl13⟩ := len_succ hl12
        obtain ⟨v14, vs14, rfl, hl14⟩ := len_succ hl13
        obtain ⟨v15, vs15, rfl, hl15⟩ := len_succ hl14
        obtain ⟨v16, vs16, rfl, hl16⟩ := len_succ hl15
        obtain ⟨v17, vs17, rfl, hl17⟩ := len_succ hl16
        obtain rfl := len_zero hl17
        have e0 := (show v0 = .int .i64 (aget d5 0) from hf _ (List.mem_of_getElem? (i := 5) rfl) (by kernel_rfl))
        subst e0
        have e1 := (show v1 = .int .i64 (aget d5 1) from hf _ (List.mem_of_getElem? (i := 6) rfl) (by kernel_rfl))
        subst e1
        show Option.isSome _ = true
        kernel_rfl
      · intro vs gq stq hl hf
        replace hl : vs.length = 18 := hl
        obtain ⟨v0, vs0, rfl, hl0⟩ := len_succ hl
        obtain ⟨v1, vs1, rfl, hl1⟩ := len_succ hl0
        obtain ⟨v2, vs2, rfl, hl2⟩ := len_succ hl1
        obtain ⟨v3, vs3, rfl, hl3⟩ := len_succ hl2
        obtain ⟨v4, vs4, rfl, hl4⟩ := len_succ hl3
        obtain ⟨v5, vs5, rfl, hl5⟩ := len_succ hl4
        obtain ⟨v6, vs6, rfl, hl6⟩ := len_succ hl5
        obtain ⟨v7, vs7, rfl, hl7⟩ := len_succ hl6
        obtain ⟨v8, vs8, rfl, hl8⟩ := len_succ hl7
        obtain ⟨v9, vs9, rfl, hl9⟩ := len_succ hl8
        obtain ⟨v10, vs10, rfl, hl10⟩ := len_succ hl9
        obtain ⟨v11, vs11, rfl, hl11⟩ := len_succ hl10
        obtain ⟨v12, vs12, rfl, hl12⟩ := len_succ hl11
        obtain ⟨v13, vs13, rfl, hl13⟩ := len_succ hl12
        obtain ⟨v14, vs14, rfl, hl14⟩ := len_succ hl13
        obtain ⟨v15, vs15, rfl, hl15⟩ := len_succ hl14
        obtain ⟨v16, vs16, rfl, hl16⟩ := len_succ hl15
        obtain ⟨v17, vs17, rfl, hl17⟩ := len_succ hl16
        obtain rfl := len_zero hl17
        have e0 := (show v0 = .int .i64 (aget d5 0) from hf _ (List.mem_of_getElem? (i := 5) rfl) (by kernel_rfl))
        subst e0
        have e1 := (show v1 = .int .i64 (aget d5 1) from hf _ (List.mem_of_getElem? (i := 6) rfl) (by kernel_rfl))
        subst e1
        have e2 := (show v2 = .int .i64 (aget d5 2) from hf _ (List.mem_of_getElem? (i := 7) rfl) (by kernel_rfl))
        subst e2
        show Option.isSome _ = true
        kernel_rfl
      · intro vs gq stq hl hf
        replace hl : vs.length = 18 := hl
        obtain ⟨v0, vs0, rfl, hl0⟩ := len_succ hl
        obtain ⟨v1, vs1, rfl, hl1⟩ := len_succ hl0
        obtain ⟨v2, vs2, rfl, hl2⟩ := len_succ hl1
        obtain ⟨v3, vs3, rfl, hl3⟩ := len_succ hl2
        obtain ⟨v4, vs4, rfl, hl4⟩ := len_succ hl3
        obtain ⟨v5, vs5, rfl, hl5⟩ := len_succ hl4
        obtain ⟨v6, vs6, rfl, hl6⟩ := len_succ hl5
        obtain ⟨v7, vs7, rfl, hl7⟩ := len_succ hl6
        obtain ⟨v8, vs8, rfl, hl8⟩ := len_succ hl7
        obtain ⟨v9, vs9, rfl, hl9⟩ := len_succ hl8
        obtain ⟨v10, vs10, rfl, hl10⟩ := len_succ hl9
        obtain ⟨v11, vs11, rfl, hl11⟩ := len_succ hl10
        obtain ⟨v12, vs12, rfl, hl12⟩ := len_succ hl11
        obtain ⟨v13, vs13, rfl, hl13⟩ := len_succ hl12
        obtain ⟨v14, vs14, rfl, hl14⟩ := len_succ hl13
        obtain ⟨v15, vs15, rfl, hl15⟩ := len_succ hl14
        obtain ⟨v16, vs16, rfl, hl16⟩ := len_succ hl15
        obtain ⟨v17, vs17, rfl, hl17⟩ := len_succ hl16
        obtain rfl := len_zero hl17
        have e0 := (show v0 = .int .i64 (aget d5 0) from hf _ (List.mem_of_getElem? (i := 5) rfl) (by kernel_rfl))
        subst e0
        have e1 := (show v1 = .int .i64 (aget d5 1) from hf _ (List.mem_of_getElem? (i := 6) rfl) (by kernel_rfl))
        subst e1
        have e2 := (show v2 = .int .i64 (aget d5 2) from hf _ (List.mem_of_getElem? (i := 7) rfl) (by kernel_rfl))
        subst e2
        have e4 := (show v4 = .int .i64 x8 from hf _ (List.mem_of_getElem? (i := 9) rfl) (by kernel_rfl))
        subst e4
        show Option.isSome _ = true
        kernel_rfl
      · intro vs gq stq hl hf
        replace hl : vs.length = 18 := hl
        obtain ⟨v0, vs0, rfl, hl0⟩ := len_succ hl
        obtain ⟨v1, vs1, rfl, hl1⟩ := len_succ hl0
        obtain ⟨v2, vs2, rfl, hl2⟩ := len_succ hl1
        obtain ⟨v3, vs3, rfl, hl3⟩ := len_succ hl2
        obtain ⟨v4, vs4, rfl, hl4⟩ := len_succ hl3
        obtain ⟨v5, vs5, rfl, hl5⟩ := len_succ hl4
        obtain ⟨v6, vs6, rfl, hl6⟩ := len_succ hl5
        obtain ⟨v7, vs7, rfl, hl7⟩ := len_succ hl6
        obtain ⟨v8, vs8, rfl, hl8⟩ := len_succ hl7
        obtain ⟨v9, vs9, rfl, hl9⟩ := len_succ hl8
        obtain ⟨v10, vs10, rfl, hl10⟩ := len_succ hl9
        obtain ⟨v11, vs11, rfl, hl11⟩ := len_succ hl10
        obtain ⟨v12, vs12, rfl, hl12⟩ := len_succ hl11
        obtain ⟨v13, vs13, rfl, hl13⟩ := len_succ hl12
        obtain ⟨v14, vs14, rfl, hl14⟩ := len_succ hl13
        obtain ⟨v15, vs15, rfl, hl15⟩ := len_succ hl14
        obtain ⟨v16, vs16, rfl, hl16⟩ := len_succ hl15
        obtain ⟨v17, vs17, rfl, hl17⟩ := len_succ hl16
        obtain rfl := len_zero hl17
        have e5 := (show v5 = .bool false from hf _ (List.mem_of_getElem? (i := 11) rfl) (by kernel_rfl))
        subst e5
        show Option.isSome _ = true
        kernel_rfl
      · intro vs gq stq hl hf
        replace hl : vs.length = 18 := hl
        obtain ⟨v0, vs0, rfl, hl0⟩ := len_succ hl
        obtain ⟨v1, vs1, rfl, hl1⟩ := len_succ hl0
        obtain ⟨v2, vs2, rfl, hl2⟩ := len_succ hl1
        obtain ⟨v3, vs3, rfl, hl3⟩ := len_succ hl2
        obtain ⟨v4, vs4, rfl, hl4⟩ := len_succ hl3
        obtain ⟨v5, vs5, rfl, hl5⟩ := len_succ hl4
        obtain ⟨v6, vs6, rfl, hl6⟩ := len_succ hl5
        obtain ⟨v7, vs7, rfl, hl7⟩ := len_succ hl6
        obtain ⟨v8, vs8, rfl, hl8⟩ := len_succ hl7
        obtain ⟨v9, vs9, rfl, hl9⟩ := len_succ hl8
        obtain ⟨v10, vs10, rfl, hl10⟩ := len_succ hl9
        obtain ⟨v11, vs11, rfl, hl11⟩ := len_succ hl10
        obtain ⟨v12, vs12, rfl, hl12⟩ := len_succ hl11
        obtain ⟨v13, vs13, rfl, hl13⟩ := len_succ hl12
        obtain ⟨v14, vs14, rfl, hl14⟩ := len_succ hl13
        obtain ⟨v15, vs15, rfl, hl15⟩ := len_succ hl14
        obtain ⟨v16, vs16, rfl, hl16⟩ := len_succ hl15
        obtain ⟨v17, vs17, rfl, hl17⟩ := len_succ hl16
        obtain rfl := len_zero hl17
        have e5 := (show v5 = .bool false from hf _ (List.mem_of_getElem? (i := 11) rfl) (by kernel_rfl))
        subst e5
        show Option.isSome _ = true
        kernel_rfl
      · intro vs gq stq hl hf
        replace hl : vs.length = 18 := hl
        obtain ⟨v0, vs0, rfl, hl0⟩ := len_succ hl
        obtain ⟨v1, vs1, rfl, hl1⟩ := len_succ hl0
        obtain ⟨v2, vs2, rfl, hl2⟩ := len_succ hl1
        obtain ⟨v3, vs3, rfl, hl3⟩ := len_succ hl2
        obtain ⟨v4, vs4, rfl, hl4⟩ := len_succ hl3
        obtain ⟨v5, vs5, rfl, hl5⟩ := len_succ hl4
        obtain ⟨v6, vs6, rfl, hl6⟩ := len_succ hl5
        obtain ⟨v7, vs7, rfl, hl7⟩ := len_succ hl6
        obtain ⟨v8, vs8, rfl, hl8⟩ := len_succ hl7
        obtain ⟨v9, vs9, rfl, hl9⟩ := len_succ hl8
        obtain ⟨v10, vs10, rfl, hl10⟩ := len_succ hl9
        obtain ⟨v11, vs11, rfl, hl11⟩ := len_succ hl10
        obtain ⟨v12, vs12, rfl, hl12⟩ := len_succ hl11
        obtain ⟨v13, vs13, rfl, hl13⟩ := len_succ hl12
        obtain ⟨v14, vs14, rfl, hl14⟩ := len_succ hl13
        obtain ⟨v15, vs15, rfl, hl15⟩ := len_succ hl14
        obtain ⟨v16, vs16, rfl, hl16⟩ := len_succ hl15
        obtain ⟨v17, vs17, rfl, hl17⟩ := len_succ hl16
        obtain rfl := len_zero hl17
        have e5 := (show v5 = .bool false from hf _ (List.mem_of_getElem? (i := 11) rfl) (by kernel_rfl))
        subst e5
        have e6 := (show v6 = .int .i64 (aget d6 0) from hf _ (List.mem_of_getElem? (i := 12) rfl) (by kernel_rfl))
        subst e6
        have e7 := (show v7 = .int .i64 (aget d6 1) from hf _ (List.mem_of_getElem? (i := 13) rfl) (by kernel_rfl))
        subst e7
        show Option.isSome _ = true
        kernel_rfl
      · intro vs gq stq hl hf
        replace hl : vs.length = 18 := hl
        obtain ⟨v0, vs0, rfl, hl0⟩ := len_succ hl
        obtain ⟨v1, vs1, rfl, hl1⟩ := len_succ hl0
        obtain ⟨v2, vs2, rfl, hl2⟩ := len_succ hl1
        obtain ⟨v3, vs3, rfl, hl3⟩ := len_succ hl2
        obtain ⟨v4, vs4, rfl, hl4⟩ := len_succ hl3
        obtain ⟨v5, vs5, rfl, hl5⟩ := len_succ hl4
        obtain ⟨v6, vs6, rfl, hl6⟩ := len_succ hl5
        obtain ⟨v7, vs7, rfl, hl7⟩ := len_succ hl6
        obtain ⟨v8, vs8, rfl, hl8⟩ := len_succ hl7
        obtain ⟨v9, vs9, rfl, hl9⟩ := len_succ hl8
        obtain ⟨v10, vs10, rfl, hl10⟩ := len_succ hl9
        obtain ⟨v11, vs11, rfl, hl11⟩ := len_succ hl10
        obtain ⟨v12, vs12, rfl, hl12⟩ := len_succ hl11
        obtain ⟨v13, vs13, rfl, hl13⟩ := len_succ hl12
        obtain ⟨v14, vs14, rfl, hl14⟩ := len_succ hl13
        obtain ⟨v15, vs15, rfl, hl15⟩ := len_succ hl14
        obtain ⟨v16, vs16, rfl, hl16⟩ := len_succ hl15
        obtain ⟨v17, vs17, rfl, hl17⟩ := len_succ hl16
        obtain rfl := len_zero hl17
        have e5 := (show v5 = .bool false from hf _ (List.mem_of_getElem? (i := 11) rfl) (by kernel_rfl))
        subst e5
        show Option.isSome _ = true
        kernel_rfl
      · intro vs gq stq hl hf
        replace hl : vs.length = 18 := hl
        obtain ⟨v0, vs0, rfl, hl0⟩ := len_succ hl
        obtain ⟨v1, vs1, rfl, hl1⟩ := len_succ hl0
        obtain ⟨v2, vs2, rfl, hl2⟩ := len_succ hl1
        obtain ⟨v3, vs3, rfl, hl3⟩ := len_succ hl2
        obtain ⟨v4, vs4, rfl, hl4⟩ := len_succ hl3
        obtain ⟨v5, vs5, rfl, hl5⟩ := len_succ hl4
        obtain ⟨v6, vs6, rfl, hl6⟩ := len_succ hl5
        obtain ⟨v7, vs7, rfl, hl7⟩ := len_succ hl6
        obtain ⟨v8, vs8, rfl, hl8⟩ := len_succ hl7
        obtain ⟨v9, vs9, rfl, hl9⟩ := len_succ hl8
        obtain ⟨v10, vs10, rfl, hl10⟩ := len_succ hl9
        obtain ⟨v11, vs11, rfl, hl11⟩ := len_succ hl10
        obtain ⟨v12, vs12, rfl, hl12⟩ := len_succ hl11
        obtain ⟨v13, vs13, rfl, hl13⟩ := len_succ hl12
        obtain ⟨v14, vs14, rfl, hl14⟩ := len_succ hl13
        obtain ⟨v15, vs15, rfl, hl15⟩ := len_succ hl14
        obtain ⟨v16, vs16, rfl, hl16⟩ := len_succ hl15
        obtain ⟨v17, vs17, rfl, hl17⟩ := len_succ hl16
        obtain rfl := len_zero hl17
        have e5 := (show v5 = .bool false from hf _ (List.mem_of_getElem? (i := 11) rfl) (by kernel_rfl))
        subst e5
        have e6 := (show v6 = .int .i64 (aget d6 0) from hf _ (List.mem_of_getElem? (i := 12) rfl) (by kernel_rfl))
        subst e6
        have e7 := (show v7 = .int .i64 (aget d6 1) from hf _ (List.mem_of_getElem? (i := 13) rfl) (by kernel_rfl))
        subst e7
        have e8 := (show v8 = .int .i64 (aget d6 2) from hf _ (List.mem_of_getElem? (i := 14) rfl) (by kernel_rfl))
        subst e8
        show Option.isSome _ = true
        kernel_rfl
      · intro vs gq stq hl hf
        replace hl : vs.length = 18 := hl
        obtain ⟨v0, vs0, rfl, hl0⟩ := len_succ hl
        obtain ⟨v1, vs1, rfl, hl1⟩ := len_succ hl0
        obtain ⟨v2, vs2, rfl, hl2⟩ := len_succ hl1
        obtain ⟨v3, vs3, rfl, hl3⟩ := len_succ hl2
        obtain ⟨v4, vs4, rfl, hl4⟩ := len_succ hl3
        obtain ⟨v5, vs5, rfl, hl5⟩ := len_succ hl4
        obtain ⟨v6, vs6, rfl, hl6⟩ := len_succ hl5
        obtain ⟨v7, vs7, rfl, hl7⟩ := len_succ hl6
        obtain ⟨v8, vs8, rfl, hl8⟩ := len_succ hl7
        obtain ⟨v9, vs9, rfl, hl9⟩ := len_succ hl8
        obtain ⟨v10, vs10, rfl, hl10⟩ := len_succ hl9
        obtain ⟨v11, vs11, rfl, hl11⟩ := len_succ hl10
        obtain ⟨v12, vs12, rfl, hl12⟩ := len_succ hl11
        obtain ⟨v13, vs13, rfl, hl13⟩ := len_succ hl12
        obtain ⟨v14, vs14, rfl, hl14⟩ := len_succ hl13
        obtain ⟨v15, vs15, rfl, hl15⟩ := len_succ hl14
        obtain ⟨v16, vs16, rfl, hl16⟩ := len_succ hl15
        obtain ⟨v17, vs17, rfl, hl17⟩ := len_succ hl16
        obtain rfl := len_zero hl17
        have e5 := (show v5 = .bool false from hf _ (List.mem_of_getElem? (i := 11) rfl) (by kernel_rfl))
        subst e5
        have e6 := (show v6 = .int .i64 (aget d6 0) from hf _ (List.mem_of_getElem? (i := 12) rfl) (by kernel_rfl))
        subst e6
        have e7 := (show v7 = .int .i64 (aget d6 1) from hf _ (List.mem_of_getElem? (i := 13) rfl) (by kernel_rfl))
        subst e7
        have e8 := (show v8 = .int .i64 (aget d6 2) from hf _ (List.mem_of_getElem? (i := 14) rfl) (by kernel_rfl))
        subst e8
        have e10 := (show v10 = .int .i64 x9 from hf _ (List.mem_of_getElem? (i := 16) rfl) (by kernel_rfl))
        subst e10
        show Option.isSome _ = true
        kernel_rfl
      · intro vs gq stq hl hf
        replace hl : vs.length = 18 := hl
        obtain ⟨v0, vs0, rfl, hl0⟩ := len_succ hl
        obtain ⟨v1, vs1, rfl, hl1⟩ := len_succ hl0
        obtain ⟨v2, vs2, rfl, hl2⟩ := len_succ hl1
        obtain ⟨v3, vs3, rfl, hl3⟩ := len_succ hl2
        obtain ⟨v4, vs4, rfl, hl4⟩ := len_succ hl3
        obtain ⟨v5, vs5, rfl, hl5⟩ := len_succ hl4
        obtain ⟨v6, vs6, rfl, hl6⟩ := len_succ hl5
        obtain ⟨v7, vs7, rfl, hl7⟩ := len_succ hl6
        obtain ⟨v8, vs8, rfl, hl8⟩ := len_succ hl7
        obtain ⟨v9, vs9, rfl, hl9⟩ := len_succ hl8
        obtain ⟨v10, vs10, rfl, hl10⟩ := len_succ hl9
        obtain ⟨v11, vs11, rfl, hl11⟩ := len_succ hl10
        obtain ⟨v12, vs12, rfl, hl12⟩ := len_succ hl11
        obtain ⟨v13, vs13, rfl, hl13⟩ := len_succ hl12
        obtain ⟨v14, vs14, rfl, hl14⟩ := len_succ hl13
        obtain ⟨v15, vs15, rfl, hl15⟩ := len_succ hl14
        obtain ⟨v16, vs16, rfl, hl16⟩ := len_succ hl15
        obtain ⟨v17, vs17, rfl, hl17⟩ := len_succ hl16
        obtain rfl := len_zero hl17
        have e5 := (show v5 = .bool false from hf _ (List.mem_of_getElem? (i := 11) rfl) (by kernel_rfl))
        subst e5
        have e6 := (show v6 = .int .i64 (aget d6 0) from hf _ (List.mem_of_getElem? (i := 12) rfl) (by kernel_rfl))
        subst e6
        have e7 := (show v7 = .int .i64 (aget d6 1) from hf _ (List.mem_of_getElem? (i := 13) rfl) (by kernel_rfl))
        subst e7
        have e8 := (show v8 = .int .i64 (aget d6 2) from hf _ (List.mem_of_getElem? (i := 14) rfl) (by kernel_rfl))
        subst e8
        have e10 := (show v10 = .int .i64 x9 from hf _ (List.mem_of_getElem? (i := 16) rfl) (by kernel_rfl))
        subst e10
        show Option.isSome _ = true
        kernel_rfl
      · intro vs gq stq hl hf
        replace hl : vs.length = 18 := hl
        obtain ⟨v0, vs0, rfl, hl0⟩ := len_succ hl
        obtain ⟨v1, vs1, rfl, hl1⟩ := len_succ hl0
        obtain ⟨v2, vs2, rfl, hl2⟩ := len_succ hl1
        obtain ⟨v3, vs3, rfl, hl3⟩ := len_succ hl2
        obtain ⟨v4, vs4, rfl, hl4⟩ := len_succ hl3
        obtain ⟨v5, vs5, rfl, hl5⟩ := len_succ hl4
        obtain ⟨v6, vs6, rfl, hl6⟩ := len_succ hl5
        obtain ⟨v7, vs7, rfl, hl7⟩ := len_succ hl6
        obtain ⟨v8, vs8, rfl, hl8⟩ := len_succ hl7
        obtain ⟨v9, vs9, rfl, hl9⟩ := len_succ hl8
        obtain ⟨v10, vs10, rfl, hl10⟩ := len_succ hl9
        obtain ⟨v11, vs11, rfl, hl11⟩ := len_succ hl10
        obtain ⟨v12, vs12, rfl, hl12⟩ := len_succ hl11
        obtain ⟨v13, vs13, rfl, hl13⟩ := len_succ hl12
        obtain ⟨v14, vs14, rfl, hl14⟩ := len_succ hl13
        obtain ⟨v15, vs15, rfl, hl15⟩ := len_succ hl14
        obtain ⟨v16, vs16, rfl, hl16⟩ := len_succ hl15
        obtain ⟨v17, vs17, rfl, hl17⟩ := len_succ hl16
        obtain rfl := len_zero hl17
        have e11 := (show v11 = .bool false from hf _ (List.mem_of_getElem? (i := 18) rfl) (by kernel_rfl))
        subst e11
        show Option.isSome _ = true
        kernel_rfl
      · intro vs gq stq hl hf
        replace hl : vs.length = 18 := hl
        obtain ⟨v0, vs0, rfl, hl0⟩ := len_succ hl
        obtain ⟨v1, vs1, rfl, hl1⟩ := len_succ hl0
        obtain ⟨v2, vs2, rfl, hl2⟩ := len_succ hl1
        obtain ⟨v3, vs3, rfl, hl3⟩ := len_succ hl2
        obtain ⟨v4, vs4, rfl, hl4⟩ := len_succ hl3
        obtain ⟨v5, vs5, rfl, hl5⟩ := len_succ hl4
        obtain ⟨v6, vs6, rfl, hl6⟩ := len_succ hl5
        obtain ⟨v7, vs7, rfl, hl7⟩ := len_succ hl6
        obtain ⟨v8, vs8, rfl, hl8⟩ := len_succ hl7
        obtain ⟨v9, vs9, rfl, hl9⟩ := len_succ hl8
        obtain ⟨v10, vs10, rfl, hl10⟩ := len_succ hl9
        obtain ⟨v11, vs11, rfl, hl11⟩ := len_succ hl10
        obtain ⟨v12, vs12, rfl, hl12⟩ := len_succ hl11
        obtain ⟨v13, vs13, rfl, hl13⟩ := len_succ hl12
        obtain ⟨v14, vs14, rfl, hl14⟩ := len_succ hl13
        obtain ⟨v15, vs15, rfl, hl15⟩ := len_succ hl14
        obtain ⟨v16, vs16, rfl, hl16⟩ := len_succ hl15
        obtain ⟨v17, vs17, rfl, hl17⟩ := len_succ hl16
        obtain rfl := len_zero hl17
        have e11 := (show v11 = .bool false from hf _ (List.mem_of_getElem? (i := 18) rfl) (by kernel_rfl))
        subst e11
        show Option.isSome _ = true
        kernel_rfl
      · intro vs gq stq hl hf
        replace hl : vs.length = 18 := hl
        obtain ⟨v0, vs0, rfl, hl0⟩ := len_succ hl
        obtain ⟨v1, vs1, rfl, hl1⟩ := len_succ hl0
        obtain ⟨v2, vs2, rfl, hl2⟩ := len_succ hl1
        obtain ⟨v3, vs3, rfl, hl3⟩ := len_succ hl2
        obtain ⟨v4, vs4, rfl, hl4⟩ := len_succ hl3
        obtain ⟨v5, vs5, rfl, hl5⟩ := len_succ hl4
        obtain ⟨v6, vs6, rfl, hl6⟩ := len_succ hl5
        obtain ⟨v7, vs7, rfl, hl7⟩ := len_succ hl6
        obtain ⟨v8, vs8, rfl, hl8⟩ := len_succ hl7
        obtain ⟨v9, vs9, rfl, hl9⟩ := len_succ hl8
        obtain ⟨v10, vs10, rfl, hl10⟩ := len_succ hl9
        obtain ⟨v11, vs11, rfl, hl11⟩ := len_succ hl10
        obtain ⟨v12, vs12, rfl, hl12⟩ := len_succ hl11
        obtain ⟨v13, vs13, rfl, hl13⟩ := len_succ hl12
        obtain ⟨v14, vs14, rfl, hl14⟩ := len_succ hl13
        obtain ⟨v15, vs15, rfl, hl15⟩ := len_succ hl14
        obtain ⟨v16, vs16, rfl, hl16⟩ := len_succ hl15
        obtain ⟨v17, vs17, rfl, hl17⟩ := len_succ hl16
        obtain rfl := len_zero hl17
        have e11 := (show v11 = .bool false from hf _ (List.mem_of_getElem? (i := 18) rfl) (by kernel_rfl))
        subst e11
        have e12 := (show v12 = .int .i64 (aget d7 0) from hf _ (List.mem_of_getElem? (i := 19) rfl) (by kernel_rfl))
        subst e12
        have e13 := (show v13 = .int .i64 (aget d7 1) from hf _ (List.mem_of_getElem? (i := 20) rfl) (by kernel_rfl))
        subst e13
        show Option.isSome _ = true
        kernel_rfl
      · intro vs gq stq hl hf
        replace hl : vs.length = 18 := hl
        obtain ⟨v0, vs0, rfl, hl0⟩ := len_succ hl
        obtain ⟨v1, vs1, rfl, hl1⟩ := len_succ hl0
        obtain ⟨v2, vs2, rfl, hl2⟩ := len_succ hl1
        obtain ⟨v3, vs3, rfl, hl3⟩ := len_succ hl2
        obtain ⟨v4, vs4, rfl, hl4⟩ := len_succ hl3
        obtain ⟨v5, vs5, rfl, hl5⟩ := len_succ hl4
        obtain ⟨v6, vs6, rfl, hl6⟩ := len_succ hl5
        obtain ⟨v7, vs7, rfl, hl7⟩ := len_succ hl6
        obtain ⟨v8, vs8, rfl, hl8⟩ := len_succ hl7
        obtain ⟨v9, vs9, rfl, hl9⟩ := len_succ hl8
        obtain ⟨v10, vs10, rfl, hl10⟩ := len_succ hl9
        obtain ⟨v11, vs11, rfl, hl11⟩ := len_succ hl10
        obtain ⟨v12, vs12, rfl, hl12⟩ := len_succ hl11
        obtain ⟨v13, vs13, rfl, hl13⟩ := len_succ hl12
        obtain ⟨v14, vs14, rfl, hl14⟩ := len_succ hl13
        obtain ⟨v15, vs15, rfl, hl15⟩ := len_succ hl14
        obtain ⟨v16, vs16, rfl, hl16⟩ := len_succ hl15
        obtain ⟨v17, vs17, rfl, hl17⟩ := len_succ hl16
        obtain rfl := len_zero hl17
        have e11 := (show v11 = .bool false from hf _ (List.mem_of_getElem? (i := 18) rfl) (by kernel_rfl))
        subst e11
        have e12 := (show v12 = .int .i64 (aget d7 0) from hf _ (List.mem_of_getElem? (i := 19) rfl) (by kernel_rfl))
        subst e12
        have e13 := (show v13 = .int .i64 (aget d7 1) from hf _ (List.mem_of_getElem? (i := 20) rfl) (by kernel_rfl))
        subst e13
        have e15 := (show v15 = .int .i64 x10 from hf _ (List.mem_of_getElem? (i := 22) rfl) (by kernel_rfl))
        subst e15
        show Option.isSome _ = true
        kernel_rfl
      · intro vs gq stq hl hf
        replace hl : vs.length = 18 := hl
        obtain ⟨v0, vs0, rfl, hl0⟩ := len_succ hl
        obtain ⟨v1, vs1, rfl, hl1⟩ := len_succ hl0
        obtain ⟨v2, vs2, rfl, hl2⟩ := len_succ hl1
        obtain ⟨v3, vs3, rfl, hl3⟩ := len_succ hl2
        obtain ⟨v4, vs4, rfl, hl4⟩ := len_succ hl3
        obtain ⟨v5, vs5, rfl, hl5⟩ := len_succ hl4
        obtain ⟨v6, vs6, rfl, hl6⟩ := len_succ hl5
        obtain ⟨v7, vs7, rfl, hl7⟩ := len_succ hl6
        obtain ⟨v8, vs8, rfl, hl8⟩ := len_succ hl7
        obtain ⟨v9, vs9, rfl, hl9⟩ := len_succ hl8
        obtain ⟨v10, vs10, rfl, hl10⟩ := len_succ hl9
        obtain ⟨v11, vs11, rfl, hl11⟩ := len_succ hl10
        obtain ⟨v12, vs12, rfl, hl12⟩ := len_succ hl11
        obtain ⟨v13, vs13, rfl, hl13⟩ := len_succ hl12
        obtain ⟨v14, vs14, rfl, hl14⟩ := len_succ hl13
        obtain ⟨v15, vs15, rfl, hl15⟩ := len_succ hl14
        obtain ⟨v16, vs16, rfl, hl16⟩ := len_succ hl15
        obtain ⟨v17, vs17, rfl, hl17⟩ := len_succ hl16
        obtain rfl := len_zero hl17
        have e11 := (show v11 = .bool false from hf _ (List.mem_of_getElem? (i := 18) rfl) (by kernel_rfl))
        subst e11
        have e12 := (show v12 = .int .i64 (aget d7 0) from hf _ (List.mem_of_getElem? (i := 19) rfl) (by kernel_rfl))
        subst e12
        have e13 := (show v13 = .int .i64 (aget d7 1) from hf _ (List.mem_of_getElem? (i := 20) rfl) (by kernel_rfl))
        subst e13
        have e15 := (show v15 = .int .i64 x10 from hf _ (List.mem_of_getElem? (i := 22) rfl) (by kernel_rfl))
        subst e15
        show Option.isSome _ = true
        kernel_rfl
      · intro vs gq stq hl hf
        replace hl : vs.length = 18 := hl
        obtain ⟨v0, vs0, rfl, hl0⟩ := len_succ hl
        obtain ⟨v1, vs1, rfl, hl1⟩ := len_succ hl0
        obtain ⟨v2, vs2, rfl, hl2⟩ := len_succ hl1
        obtain ⟨v3, vs3, rfl, hl3⟩ := len_succ hl2
        obtain ⟨v4, vs4, rfl, hl4⟩ := len_succ hl3
        obtain ⟨v5, vs5, rfl, hl5⟩ := len_succ hl4
        obtain ⟨v6, vs6, rfl, hl6⟩ := len_succ hl5
        obtain ⟨v7, vs7, rfl, hl7⟩ := len_succ hl6
        obtain ⟨v8, vs8, rfl, hl8⟩ := len_succ hl7
        obtain ⟨v9, vs9, rfl, hl9⟩ := len_succ hl8
        obtain ⟨v10, vs10, rfl, hl10⟩ := len_succ hl9
        obtain ⟨v11, vs11, rfl, hl11⟩ := len_succ hl10
        obtain ⟨v12, vs12, rfl, hl12⟩ := len_succ hl11
        obtain ⟨v13, vs13, rfl, hl13⟩ := len_succ hl12
        obtain ⟨v14, vs14, rfl, hl14⟩ := len_succ hl13
        obtain ⟨v15, vs15, rfl, hl15⟩ := len_succ hl14
        obtain ⟨v16, vs16, rfl, hl16⟩ := len_succ hl15
        obtain ⟨v17, vs17, rfl, hl17⟩ := len_succ hl16
        obtain rfl := len_zero hl17
        have e16 := (show v16 = .bool false from hf _ (List.mem_of_getElem? (i := 24) rfl) (by kernel_rfl))
        subst e16
        show Option.isSome _ = true
        kernel_rfl
      · intro vs gq stq hl hf
        replace hl : vs.length = 18 := hl
        obtain ⟨v0, vs0, rfl, hl0⟩ := len_succ hl
        obtain ⟨v1, vs1, rfl, hl1⟩ := len_succ hl0
        obtain ⟨v2, vs2, rfl, hl2⟩ := len_succ hl1
        obtain ⟨v3, vs3, rfl, hl3⟩ := len_succ hl2
        obtain ⟨v4, vs4, rfl, hl4⟩ := len_succ hl3
        obtain ⟨v5, vs5, rfl, hl5⟩ := len_succ hl4
        obtain ⟨v6, vs6, rfl, hl6⟩ := len_succ hl5
        obtain ⟨v7, vs7, rfl, hl7⟩ := len_succ hl6
        obtain ⟨v8, vs8, rfl, hl8⟩ := len_succ hl7
        obtain ⟨v9, vs9, rfl, hl9⟩ := len_succ hl8
        obtain ⟨v10, vs10, rfl, hl10⟩ := len_succ hl9
        obtain ⟨v11, vs11, rfl, hl11⟩ := len_succ hl10
        obtain ⟨v12, vs12, rfl, hl12⟩ := len_succ hl11
        obtain ⟨v13, vs13, rfl, hl13⟩ := len_succ hl12
        obtain ⟨v14, vs14, rfl, hl14⟩ := len_succ hl13
        obtain ⟨v15, vs15, rfl, hl15⟩ := len_succ hl14
        obtain ⟨v16, vs16, rfl, hl16⟩ := len_succ hl15
        obtain ⟨v17, vs17, rfl, hl17⟩ := len_succ hl16
        obtain rfl := len_zero hl17
        have e16 := (show v16 = .bool false from hf _ (List.mem_of_getElem? (i := 24) rfl) (by kernel_rfl))
        subst e16
        have e17 := (show v17 = .int .i64 (aget d7 2) from hf _ (List.mem_of_getElem? (i := 25) rfl) (by kernel_rfl))
        subst e17
        show Option.isSome _ = true
        kernel_rfl
      · intro vs gq stq hl hf
        replace hl : vs.length = 18 := hl
        obtain ⟨v0, vs0, rfl, hl0⟩ := len_succ hl
        obtain ⟨v1, vs1, rfl, hl1⟩ := len_succ hl0
        obtain ⟨v2, vs2, rfl, hl2⟩ := len_succ hl1
        obtain ⟨v3, vs3, rfl, hl3⟩ := len_succ hl2
        obtain ⟨v4, vs4, rfl, hl4⟩ := len_succ hl3
        obtain ⟨v5, vs5, rfl, hl5⟩ := len_succ hl4
        obtain ⟨v6, vs6, rfl, hl6⟩ := len_succ hl5
        obtain ⟨v7, vs7, rfl, hl7⟩ := len_succ hl6
        obtain ⟨v8, vs8, rfl, hl8⟩ := len_succ hl7
        obtain ⟨v9, vs9, rfl, hl9⟩ := len_succ hl8
        obtain ⟨v10, vs10, rfl, hl10⟩ := len_succ hl9
        obtain ⟨v11, vs11, rfl, hl11⟩ := len_succ hl10
        obtain ⟨v12, vs12, rfl, hl12⟩ := len_succ hl11
        obtain ⟨v13, vs13, rfl, hl13⟩ := len_succ hl12
        obtain ⟨v14, vs14, rfl, hl14⟩ := len_succ hl13
        obtain ⟨v15, vs15, rfl, hl15⟩ := len_succ hl14
        obtain ⟨v16, vs16, rfl, hl16⟩ := len_succ hl15
        obtain ⟨v17, vs17, rfl, hl17⟩ := len_succ hl16
        obtain rfl := len_zero hl17
        have e16 := (show v16 = .bool false from hf _ (List.mem_of_getElem? (i := 24) rfl) (by kernel_rfl))
        subst e16
        have e17 := (show v17 = .int .i64 (aget d7 2) from hf _ (List.mem_of_getElem? (i := 25) rfl) (by kernel_rfl))
        subst e17
        show Option.isSome _ = true
        kernel_rfl
    · intro j hj
      have hq : j = 0 ∨ j = 1 ∨ j = 2 ∨ j = 3 ∨ j = 4 ∨ j = 5 ∨ j = 6 ∨ j = 7 ∨ j = 8 ∨ j = 9 ∨ j = 10 ∨ j = 11 ∨ j = 12 ∨ j = 13 ∨ j = 14 ∨ j = 15 ∨ j = 16 ∨ j = 17 := by have h : j < 18 := hj; omega
      rcases hq with rfl | rfl | rfl | rfl | rfl | rfl | rfl | rfl | rfl | rfl | rfl | rfl | rfl | rfl | rfl | rfl | rfl | rfl
      · intro vs gq stq hl hf
        replace hl : vs.length = 18 := hl
        obtain ⟨v0, vs0, rfl, hl0⟩ := len_succ hl
        obtain ⟨v1, vs1, rfl, hl1⟩ := len_succ hl0
        obtain ⟨v2, vs2, rfl, hl2⟩ := len_succ hl1
        obtain ⟨v3, vs3, rfl, hl3⟩ := len_succ hl2
        obtain ⟨v4, vs4, rfl, hl4⟩ := len_succ hl3
        obtain ⟨v5, vs5, rfl, hl5⟩ := len_succ hl4
        obtain ⟨v6, vs6, rfl, hl6⟩ := len_succ hl5
        obtain ⟨v7, vs7, rfl, hl7⟩ := len_succ hl6
        obtain ⟨v8, vs8, rfl, hl8⟩ := len_succ hl7
        obtain ⟨v9, vs9, rfl, hl9⟩ := len_succ hl8
        obtain ⟨v10, vs10, rfl, hl10⟩ := len_succ hl9
        obtain ⟨v11, vs11, rfl, hl11⟩ := len_succ hl10
        obtain ⟨v12, vs12, rfl, hl12⟩ := len_succ hl11
        obtain ⟨v13, vs13, rfl, hl13⟩ := len_succ hl12
        obtain ⟨v14, vs14, rfl, hl14⟩ := len_succ hl13
        obtain ⟨v15, vs15, rfl, hl15⟩ := len_succ hl14
        obtain ⟨v16, vs16, rfl, hl16⟩ := len_succ hl15
        obtain ⟨v17, vs17, rfl, hl17⟩ := len_succ hl16
        obtain rfl := len_zero hl17
        have hB4 := (show Box gq (t + 4) b3 34 [encA .i64 d5] [3] from hf _ (List.mem_of_getElem? (i := 2) rfl) (by kernel_rfl))
        refine WP.loadE (ty := 3) (o := 0) (m := 3) (k := .i64) (d := d5) (i := 0) hB4 (by kernel_rfl) (by decide) (by kernel_rfl) (by kernel_rfl) ?_
        refine WP.done (by kernel_rfl) (Shown.ok (v := .int .i64 (aget d5 0)) (by kernel_rfl) (Step.refl _ _) ?_)
        exact ⟨trivial, trivial, trivial, trivial, trivial, rfl, trivial, trivial, trivial, trivial, trivial, trivial, trivial, trivial, trivial, trivial, trivial, trivial, trivial, trivial, trivial, trivial, trivial, trivial, trivial, trivial, trivial⟩
      · intro vs gq stq hl hf
        replace hl : vs.length = 18 := hl
        obtain ⟨v0, vs0, rfl, hl0⟩ := len_succ hl
        obtain ⟨v1, vs1, rfl, hl1⟩ := len_succ hl0
        obtain ⟨v2, vs2, rfl, hl2⟩ := len_succ hl1
        obtain ⟨v3, vs3, rfl, hl3⟩ := len_succ hl2
        obtain ⟨v4, vs4, rfl, hl4⟩ := len_succ hl3
        obtain ⟨v5, vs5, rfl, hl5⟩ := len_succ hl4
        obtain ⟨v6, vs6, rfl, hl6⟩ := len_succ hl5
        obtain ⟨v7, vs7, rfl, hl7⟩ := len_succ hl6
        obtain ⟨v8, vs8, rfl, hl8⟩ := len_succ hl7
        obtain ⟨v9, vs9, rfl, hl9⟩ := len_succ hl8
        obtain ⟨v10, vs10, rfl, hl10⟩ := len_succ hl9
        obtain ⟨v11, vs11, rfl, hl11⟩ := len_succ hl10
        obtain ⟨v12, vs12, rfl, hl12⟩ := len_succ hl11
        obtain ⟨v13, vs13, rfl, hl13⟩ := len_succ hl12
        obtain ⟨v14, vs14, rfl, hl14⟩ := len_succ hl13
        obtain ⟨v15, vs15, rfl, hl15⟩ := len_succ hl14
        obtain ⟨v16, vs16, rfl, hl16⟩ := len_succ hl15
        obtain ⟨v17, vs17, rfl, hl17⟩ := len_succ hl16
        obtain rfl := len_zero hl17
        have hB4 := (show Box gq (t + 4) b3 34 [encA .i64 d5] [3] from hf _ (List.mem_of_getElem? (i := 2) rfl) (by kernel_rfl))
        refine WP.loadE (ty := 3) (o := 0) (m := 3) (k := .i64) (d := d5) (i := 1) hB4 (by kernel_rfl) (by decide) (by kernel_rfl) (by kernel_rfl) ?_
        refine WP.done (by kernel_rfl) (Shown.ok (v := .int .i64 (aget d5 1)) (by kernel_rfl) (Step.refl _ _) ?_)
        exact ⟨trivial, trivial, trivial, trivial, trivial, trivial, rfl, trivial, trivial, trivial, trivial, trivial, trivial, trivial, trivial, trivial, trivial, trivial, trivial, trivial, trivial, trivial, trivial, trivial, trivial, trivial, trivial⟩
      · intro vs gq stq hl hf
        replace hl : vs.length = 18 := hl
        obtain ⟨v0, vs0, rfl, hl0⟩ := len_succ hl
        obtain ⟨v1, vs1, rfl, hl1⟩ := len_succ hl0
        obtain ⟨v2, vs2, rfl, hl2⟩ := len_succ hl1
        obtain ⟨v3, vs3, rfl, hl3⟩ := len_succ hl2
        obtain ⟨v4, vs4, rfl, hl4⟩ := len_succ hl3
        obtain ⟨v5, vs5, rfl, hl5⟩ := len_succ hl4
        obtain ⟨v6, vs6, rfl, hl6⟩ := len_succ hl5
        obtain ⟨v7, vs7, rfl, hl7⟩ := len_succ hl6
        obtain ⟨v8, vs8, rfl, hl8⟩ := len_succ hl7
        obtain ⟨v9, vs9, rfl, hl9⟩ := len_succ hl8
        obtain ⟨v10, vs10, rfl, hl10⟩ := len_succ hl9
        obtain ⟨v11, vs11, rfl, hl11⟩ := len_succ hl10
        obtain ⟨v12, vs12, rfl, hl12⟩ := len_succ hl11
        obtain ⟨v13, vs13, rfl, hl13⟩ := len_succ hl12
        obtain ⟨v14, vs14, rfl, hl14⟩ := len_succ hl13
        obtain ⟨v15, vs15, rfl, hl15⟩ := len_succ hl14
        obtain ⟨v16, vs16, rfl, hl16⟩ := len_succ hl15
        obtain ⟨v17, vs17, rfl, hl17⟩ := len_succ hl16
        obtain rfl := len_zero hl17
        have hB4 := (show Box gq (t + 4) b3 34 [encA .i64 d5] [3] from hf _ (List.mem_of_getElem? (i := 2) rfl) (by kernel_rfl))
        refine WP.loadE (ty := 3) (o := 0) (m := 3) (k := .i64) (d := d5) (i := 2) hB4 (by kernel_rfl) (by decide) (by kernel_rfl) (by kernel_rfl) ?_
        refine WP.done (by kernel_rfl) (Shown.ok (v := .int .i64 (aget d5 2)) (by kernel_rfl) (Step.refl _ _) ?_)
        exact ⟨trivial, trivial, trivial, trivial, trivial, trivial, trivial, rfl, trivial, trivial, trivial, trivial, trivial, trivial, trivial, trivial, trivial, trivial, trivial, trivial, trivial, trivial, trivial, trivial, trivial, trivial, trivial⟩
      · intro vs gq stq hl hf
        replace hl : vs.length = 18 := hl
        obtain ⟨v0, vs0, rfl, hl0⟩ := len_succ hl
        obtain ⟨v1, vs1, rfl, hl1⟩ := len_succ hl0
        obtain ⟨v2, vs2, rfl, hl2⟩ := len_succ hl1
        obtain ⟨v3, vs3, rfl, hl3⟩ := len_succ hl2
        obtain ⟨v4, vs4, rfl, hl4⟩ := len_succ hl3
        obtain ⟨v5, vs5, rfl, hl5⟩ := len_succ hl4
        obtain ⟨v6, vs6, rfl, hl6⟩ := len_succ hl5
        obtain ⟨v7, vs7, rfl, hl7⟩ := len_succ hl6
        obtain ⟨v8, vs8, rfl, hl8⟩ := len_succ hl7
        obtain ⟨v9, vs9, rfl, hl9⟩ := len_succ hl8
        obtain ⟨v10, vs10, rfl, hl10⟩ := len_succ hl9
        obtain ⟨v11, vs11, rfl, hl11⟩ := len_succ hl10
        obtain ⟨v12, vs12, rfl, hl12⟩ := len_succ hl11
        obtain ⟨v13, vs13, rfl, hl13⟩ := len_succ hl12
        obtain ⟨v14, vs14, rfl, hl14⟩ := len_succ hl13
        obtain ⟨v15, vs15, rfl, hl15⟩ := len_succ hl14
        obtain ⟨v16, vs16, rfl, hl16⟩ := len_succ hl15
        obtain ⟨v17, vs17, rfl, hl17⟩ := len_succ hl16
        obtain rfl := len_zero hl17
        have hB2 := (show Box gq (t + 3) b2 32 [encA .u8 d3, [.int .i64 x4], encA .i64 d4, [.slice a2 n2 c2]] [8, 1, 2, 1] from hf _ (List.mem_of_getElem? (i := 0) rfl) (by kernel_rfl))
        refine WP.loadB (v := AG [encA .u8 d3, [.int .i64 x4], encA .i64 d4, [.slice a2 n2 c2]]) hB2 (by kernel_rfl) (by kernel_rfl) ?_
        refine WP.done (by kernel_rfl) (Shown.ok (v := AG [encA .u8 d3, [.int .i64 x4], encA .i64 d4, [.slice a2 n2 c2]]) (by kernel_rfl) (Step.refl _ _) ?_)
        exact ⟨trivial, trivial, trivial, trivial, trivial, trivial, trivial, trivial, rfl, trivial, trivial, trivial, trivial, trivial, trivial, trivial, trivial, trivial, trivial, trivial, trivial, trivial, trivial, trivial, trivial, trivial, trivial⟩
      · intro vs gq stq hl hf
        replace hl : vs.length = 18 := hl
        obtain ⟨v0, vs0, rfl, hl0⟩ := len_succ hl
        obtain ⟨v1, vs1, rfl, hl1⟩ := len_succ hl0
        obtain ⟨v2, vs2, rfl, hl2⟩ := len_succ hl1
        obtain ⟨v3, vs3, rfl, hl3⟩ := len_succ hl2
        obtain ⟨v4, vs4, rfl, hl4⟩ := len_succ hl3
        obtain ⟨v5, vs5, rfl, hl5⟩ := len_succ hl4
        obtain ⟨v6, vs6, rfl, hl6⟩ := len_succ hl5
        obtain ⟨v7, vs7, rfl, hl7⟩ := len_succ hl6
        obtain ⟨v8, vs8, rfl, hl8⟩ := len_succ hl7
        obtain ⟨v9, vs9, rfl, hl9⟩ := len_succ hl8
        obtain ⟨v10, vs10, rfl, hl10⟩ := len_succ hl9
        obtain ⟨v11, vs11, rfl, hl11⟩ := len_succ hl10
        obtain ⟨v12, vs12, rfl, hl12⟩ := len_succ hl11
        obtain ⟨v13, vs13, rfl, hl13⟩ := len_succ hl12
        obtain ⟨v14, vs14, rfl, hl14⟩ := len_succ hl13
        obtain ⟨v15, vs15, rfl, hl15⟩ := len_succ hl14
        obtain ⟨v16, vs16, rfl, hl16⟩ := len_succ hl15
        obtain ⟨v17, vs17, rfl, hl17⟩ := len_succ hl16
        obtain rfl := len_zero hl17
        have hR2 := (show OwnS k_S_purse_Held gq (t + 2) 56 a2 n2 c2 l2 from hf _ (List.mem_of_getElem? (i := 1) rfl) (by kernel_rfl))
        have e3 := (show v3 = AG [encA .u8 d3, [.int .i64 x4], encA .i64 d4, [.slice a2 n2 c2]] from hf _ (List.mem_of_getElem? (i := 8) rfl) (by kernel_rfl))
        subst e3
        have hS7 : 0 ∉ ([(t + 2)] : List Nat) := by simp <;> omega
        have stl7 := GW.lend_step gq [(t + 2)]
        have hRl7 := hR2.lendTo hS7 (by simp)
        refine WP.regw (g' := GW.lend gq [(t + 2)]) rfl ?_
        have hcal12 := P.purse_Purse_Total (GW.lend gq [(t + 2)]) d3 x4 d4 l2 a2 n2 c2 hRl7 x8 hk12
        refine WP.callC hcal12 (by kernel_rfl) ?_
        rintro _ g28 st28 rfl
        have st29 := (GW.back_step st28).lentS
        have hO7 := hR2.backTo hS7 (by simp) st28 (fun x => x)
        refine WP.regw (g' := GW.back gq g28 [(t + 2)]) rfl ?_
        generalize GW.back gq g28 [(t + 2)] = g29 at *
        refine WP.done (by kernel_rfl) (Shown.ok (v := .int .i64 x8) (by kernel_rfl) st29 ?_)
        exact ⟨trivial, trivial, trivial, trivial, trivial, trivial, trivial, trivial, trivial, rfl, hO7, trivial, trivial, trivial, trivial, trivial, trivial, trivial, trivial, trivial, trivial, trivial, trivial, trivial, trivial, trivial, trivial⟩
      · intro vs gq stq hl hf
        replace hl : vs.length = 18 := hl
        obtain ⟨v0, vs0, rfl, hl0⟩ := len_succ hl
        obtain ⟨v1, vs1, rfl, hl1⟩ := len_succ hl0
        obtain ⟨v2, vs2, rfl, hl2⟩ := len_succ hl1
        obtain ⟨v3, vs3, rfl, hl3⟩ := len_succ hl2
        obtain ⟨v4, vs4, rfl, hl4⟩ := len_succ hl3
        obtain ⟨v5, vs5, rfl, hl5⟩ := len_succ hl4
        obtain ⟨v6, vs6, rfl, hl6⟩ := len_succ hl5
        obtain ⟨v7, vs7, rfl, hl7⟩ := len_succ hl6
        obtain ⟨v8, vs8, rfl, hl8⟩ := len_succ hl7
        obtain ⟨v9, vs9, rfl, hl9⟩ := len_succ hl8
        obtain ⟨v10, vs10, rfl, hl10⟩ := len_succ hl9
        obtain ⟨v11, vs11, rfl, hl11⟩ := len_succ hl10
        obtain ⟨v12, vs12, rfl, hl12⟩ := len_succ hl11
        obtain ⟨v13, vs13, rfl, hl13⟩ := len_succ hl12
        obtain ⟨v14, vs14, rfl, hl14⟩ := len_succ hl13
        obtain ⟨v15, vs15, rfl, hl15⟩ := len_succ hl14
        obtain ⟨v16, vs16, rfl, hl16⟩ := len_succ hl15
        obtain ⟨v17, vs17, rfl, hl17⟩ := len_succ hl16
        obtain rfl := len_zero hl17
        have e0 := (show v0 = .int .i64 (aget d5 0) from hf _ (List.mem_of_getElem? (i := 5) rfl) (by kernel_rfl))
        subst e0
        have e1 := (show v1 = .int .i64 (aget d5 1) from hf _ (List.mem_of_getElem? (i := 6) rfl) (by kernel_rfl))
        subst e1
        have e2 := (show v2 = .int .i64 (aget d5 2) from hf _ (List.mem_of_getElem? (i := 7) rfl) (by kernel_rfl))
        subst e2
        have e4 := (show v4 = .int .i64 x8 from hf _ (List.mem_of_getElem? (i := 9) rfl) (by kernel_rfl))
        subst e4
        refine WP.still 1 (by kernel_rfl) ?_
        refine WP.done (by kernel_rfl) (Shown.ok (v := .bool ((IntKind.i64.wrap ((IntKind.i64.wrap ((aget d5 0) + (aget d5 1))) + (aget d5 2))) != x8)) (by kernel_rfl) (Step.refl _ _) ?_)
        exact ⟨trivial, trivial, trivial, trivial, trivial, trivial, trivial, trivial, trivial, trivial, trivial, congrArg Value.bool h13, trivial, trivial, trivial, trivial, trivial, trivial, trivial, trivial, trivial, trivial, trivial, trivial, trivial, trivial, trivial⟩
      · intro vs gq stq hl hf
        replace hl : vs.length = 18 := hl
        obtain ⟨v0, vs0, rfl, hl0⟩ := len_succ hl
        obtain ⟨v1, vs1, rfl, hl1⟩ := len_succ hl0
        obtain ⟨v2, vs2, rfl, hl2⟩ := len_succ hl1
        obtain ⟨v3, vs3, rfl, hl3⟩ := len_succ hl2
        obtain ⟨v4, vs4, rfl, hl4⟩ := len_succ hl3
        obtain ⟨v5, vs5, rfl, hl5⟩ := len_succ hl4
        obtain ⟨v6, vs6, rfl, hl6⟩ := len_succ hl5
        obtain ⟨v7, vs7, rfl, hl7⟩ := len_succ hl6
        obtain ⟨v8, vs8, rfl, hl8⟩ := len_succ hl7
        obtain ⟨v9, vs9, rfl, hl9⟩ := len_succ hl8
        obtain ⟨v10, vs10, rfl, hl10⟩ := len_succ hl9
        obtain ⟨v11, vs11, rfl, hl11⟩ := len_succ hl10
        obtain ⟨v12, vs12, rfl, hl12⟩ := len_succ hl11
        obtain ⟨v13, vs13, rfl, hl13⟩ := len_succ hl12
        obtain ⟨v14, vs14, rfl, hl14⟩ := len_succ hl13
        obtain ⟨v15, vs15, rfl, hl15⟩ := len_succ hl14
        obtain ⟨v16, vs16, rfl, hl16⟩ := len_succ hl15
        obtain ⟨v17, vs17, rfl, hl17⟩ := len_succ hl16
        obtain rfl := len_zero hl17
        have hB5 := (show Box gq (t + 5) b4 34 [encA .i64 d6] [3] from hf _ (List.mem_of_getElem? (i := 3) rfl) (by kernel_rfl))
        have e5 := (show v5 = .bool false from hf _ (List.mem_of_getElem? (i := 11) rfl) (by kernel_rfl))
        subst e5
        refine WP.loadE (ty := 3) (o := 0) (m := 3) (k := .i64) (d := d6) (i := 0) hB5 (by kernel_rfl) (by decide) (by kernel_rfl) (by kernel_rfl) ?_
        refine WP.done (by kernel_rfl) (Shown.ok (v := .int .i64 (aget d6 0)) (by kernel_rfl) (Step.refl _ _) ?_)
        exact ⟨trivial, trivial, trivial, trivial, trivial, trivial, trivial, trivial, trivial, trivial, trivial, trivial, rfl, trivial, trivial, trivial, trivial, trivial, trivial, trivial, trivial, trivial, trivial, trivial, trivial, trivial, trivial⟩
      · intro vs gq stq hl hf
        replace hl : vs.length = 18 := hl
        obtain ⟨v0, vs0, rfl, hl0⟩ := len_succ hl
        obtain ⟨v1, vs1, rfl, hl1⟩ := len_succ hl0
        obtain ⟨v2, vs2, rfl, hl2⟩ := len_succ hl1
        obtain ⟨v3, vs3, rfl, hl3⟩ := len_succ hl2
        obtain ⟨v4, vs4, rfl, hl4⟩ := len_succ hl3
        obtain ⟨v5, vs5, rfl, hl5⟩ := len_succ hl4
        obtain ⟨v6, vs6, rfl, hl6⟩ := len_succ hl5
        obtain ⟨v7, vs7, rfl, hl7⟩ := len_succ hl6
        obtain ⟨v8, vs8, rfl, hl8⟩ := len_succ hl7
        obtain ⟨v9, vs9, rfl, hl9⟩ := len_succ hl8
        obtain ⟨v10, vs10, rfl, hl10⟩ := len_succ hl9
        obtain ⟨v11, vs11, rfl, hl11⟩ := len_succ hl10
        obtain ⟨v12, vs12, rfl, hl12⟩ := len_succ hl11
        obtain ⟨v13, vs13, rfl, hl13⟩ := len_succ hl12
        obtain ⟨v14, vs14, rfl, hl14⟩ := len_succ hl13
        obtain ⟨v15, vs15, rfl, hl15⟩ := len_succ hl14
        obtain ⟨v16, vs16, rfl, hl16⟩ := len_succ hl15
        obtain ⟨v17, vs17, rfl, hl17⟩ := len_succ hl16
        obtain rfl := len_zero hl17
        have hB5 := (show Box gq (t + 5) b4 34 [encA .i64 d6] [3] from hf _ (List.mem_of_getElem? (i := 3) rfl) (by kernel_rfl))
        have e5 := (show v5 = .bool false from hf _ (List.mem_of_getElem? (i := 11) rfl) (by kernel_rfl))
        subst e5
        refine WP.loadE (ty := 3) (o := 0) (m := 3) (k := .i64) (d := d6) (i := 1) hB5 (by kernel_rfl) (by decide) (by kernel_rfl) (by kernel_rfl) ?_
        refine WP.done (by kernel_rfl) (Shown.ok (v := .int .i64 (aget d6 1)) (by kernel_rfl) (Step.refl _ _) ?_)
        exact ⟨trivial, trivial, trivial, trivial, trivial, trivial, trivial, trivial, trivial, trivial, trivial, trivial, trivial, rfl, trivial, trivial, trivial, trivial, trivial, trivial, trivial, trivial, trivial, trivial, trivial, trivial, trivial⟩
      · intro vs gq stq hl hf
        replace hl : vs.length = 18 := hl
        obtain ⟨v0, vs0, rfl, hl0⟩ := len_succ hl
        obtain ⟨v1, vs1, rfl, hl1⟩ := len_succ hl0
        obtain ⟨v2, vs2, rfl, hl2⟩ := len_succ hl1
        obtain ⟨v3, vs3, rfl, hl3⟩ := len_succ hl2
        obtain ⟨v4, vs4, rfl, hl4⟩ := len_succ hl3
        obtain ⟨v5, vs5, rfl, hl5⟩ := len_succ hl4
        obtain ⟨v6, vs6, rfl, hl6⟩ := len_succ hl5
        obtain ⟨v7, vs7, rfl, hl7⟩ := len_succ hl6
        obtain ⟨v8, vs8, rfl, hl8⟩ := len_succ hl7
        obtain ⟨v9, vs9, rfl, hl9⟩ := len_succ hl8
        obtain ⟨v10, vs10, rfl, hl10⟩ := len_succ hl9
        obtain ⟨v11, vs11, rfl, hl11⟩ := len_succ hl10
        obtain ⟨v12, vs12, rfl, hl12⟩ := len_succ hl11
        obtain ⟨v13, vs13, rfl, hl13⟩ := len_succ hl12
        obtain ⟨v14, vs14, rfl, hl14⟩ := len_succ hl13
        obtain ⟨v15, vs15, rfl, hl15⟩ := len_succ hl14
        obtain ⟨v16, vs16, rfl, hl16⟩ := len_succ hl15
        obtain ⟨v17, vs17, rfl, hl17⟩ := len_succ hl16
        obtain rfl := len_zero hl17
        have hB5 := (show Box gq (t + 5) b4 34 [encA .i64 d6] [3] from hf _ (List.mem_of_getElem? (i := 3) rfl) (by kernel_rfl))
        have e5 := (show v5 = .bool false from hf _ (List.mem_of_getElem? (i := 11) rfl) (by kernel_rfl))
        subst e5
        refine WP.loadE (ty := 3) (o := 0) (m := 3) (k := .i64) (d := d6) (i := 2) hB5 (by kernel_rfl) (by decide) (by kernel_rfl) (by kernel_rfl) ?_
        refine WP.done (by kernel_rfl) (Shown.ok (v := .int .i64 (aget d6 2)) (by kernel_rfl) (Step.refl _ _) ?_)
        exact ⟨trivial, trivial, trivial, trivial, trivial, trivial, trivial, trivial, trivial, trivial, trivial, trivial, trivial, trivial, rfl, trivial, trivial, trivial, trivial, trivial, trivial, trivial, trivial, trivial, trivial, trivial, trivial⟩
      · intro vs gq stq hl hf
        replace hl : vs.length = 18 := hl
        obtain ⟨v0, vs0, rfl, hl0⟩ := len_succ hl
        obtain ⟨v1, vs1, rfl, hl1⟩ := len_succ hl0
        obtain ⟨v2, vs2, rfl, hl2⟩ := len_succ hl1
        obtain ⟨v3, vs3, rfl, hl3⟩ := len_succ hl2
        obtain ⟨v4, vs4, rfl, hl4⟩ := len_succ hl3
        obtain ⟨v5, vs5, rfl, hl5⟩ := len_succ hl4
        obtain ⟨v6, vs6, rfl, hl6⟩ := len_succ hl5
        obtain ⟨v7, vs7, rfl, hl7⟩ := len_succ hl6
        obtain ⟨v8, vs8, rfl, hl8⟩ := len_succ hl7
        obtain ⟨v9, vs9, rfl, hl9⟩ := len_succ hl8
        obtain ⟨v10, vs10, rfl, hl10⟩ := len_succ hl9
        obtain ⟨v11, vs11, rfl, hl11⟩ := len_succ hl10
        obtain ⟨v12, vs12, rfl, hl12⟩ := len_succ hl11
        obtain ⟨v13, vs13, rfl, hl13⟩ := len_succ hl12
        obtain ⟨v14, vs14, rfl, hl14⟩ := len_succ hl13
        obtain ⟨v15, vs15, rfl, hl15⟩ := len_succ hl14
        obtain ⟨v16, vs16, rfl, hl16⟩ := len_succ hl15
        obtain ⟨v17, vs17, rfl, hl17⟩ := len_succ hl16
        obtain rfl := len_zero hl17
        have hB2 := (show Box gq (t + 3) b2 32 [encA .u8 d3, [.int .i64 x4], encA .i64 d4, [.slice a2 n2 c2]] [8, 1, 2, 1] from hf _ (List.mem_of_getElem? (i := 0) rfl) (by kernel_rfl))
        have e5 := (show v5 = .bool false from hf _ (List.mem_of_getElem? (i := 11) rfl) (by kernel_rfl))
        subst e5
        refine WP.loadB (v := AG [encA .u8 d3, [.int .i64 x4], encA .i64 d4, [.slice a2 n2 c2]]) hB2 (by kernel_rfl) (by kernel_rfl) ?_
        refine WP.done (by kernel_rfl) (Shown.ok (v := AG [encA .u8 d3, [.int .i64 x4], encA .i64 d4, [.slice a2 n2 c2]]) (by kernel_rfl) (Step.refl _ _) ?_)
        exact ⟨trivial, trivial, trivial, trivial, trivial, trivial, trivial, trivial, trivial, trivial, trivial, trivial, trivial, trivial, trivial, rfl, trivial, trivial, trivial, trivial, trivial, trivial, trivial, trivial, trivial, trivial, trivial⟩
      · intro vs gq stq hl hf
        replace hl : vs.length = 18 := hl
        obtain ⟨v0, vs0, rfl, hl0⟩ := len_succ hl
        obtain ⟨v1, vs1, rfl, hl1⟩ := len_succ hl0
        obtain ⟨v2, vs2, rfl, hl2⟩ := len_succ hl1
        obtain ⟨v3, vs3, rfl, hl3⟩ := len_succ hl2
        obtain ⟨v4, vs4, rfl, hl4⟩ := len_succ hl3
        obtain ⟨v5, vs5, rfl, hl5⟩ := len_succ hl4
        obtain ⟨v6, vs6, rfl, hl6⟩ := len_succ hl5
        obtain ⟨v7, vs7, rfl, hl7⟩ := len_succ hl6
        obtain ⟨v8, vs8, rfl, hl8⟩ := len_succ hl7
        obtain ⟨v9, vs9, rfl, hl9⟩ := len_succ hl8
        obtain ⟨v10, vs10, rfl, hl10⟩ := len_succ hl9
        obtain ⟨v11, vs11, rfl, hl11⟩ := len_succ hl10
        obtain ⟨v12, vs12, rfl, hl12⟩ := len_succ hl11
        obtain ⟨v13, vs13, rfl, hl13⟩ := len_succ hl12
        obtain ⟨v14, vs14, rfl, hl14⟩ := len_succ hl13
        obtain ⟨v15, vs15, rfl, hl15⟩ := len_succ hl14
        obtain ⟨v16, vs16, rfl, hl16⟩ := len_succ hl15
        obtain ⟨v17, vs17, rfl, hl17⟩ := len_succ hl16
        obtain rfl := len_zero hl17
        have hR2 := (show OwnS k_S_purse_Held gq (t + 2) 56 a2 n2 c2 l2 from hf _ (List.mem_of_getElem? (i := 10) rfl) (by kernel_rfl))
        have e5 := (show v5 = .bool false from hf _ (List.mem_of_getElem? (i := 11) rfl) (by kernel_rfl))
        subst e5
        have e9 := (show v9 = AG [encA .u8 d3, [.int .i64 x4], encA .i64 d4, [.slice a2 n2 c2]] from hf _ (List.mem_of_getElem? (i := 15) rfl) (by kernel_rfl))
        subst e9
        have hS8 : 0 ∉ ([(t + 2)] : List Nat) := by simp <;> omega
        have stl8 := GW.lend_step gq [(t + 2)]
        have hRl8 := hR2.lendTo hS8 (by simp)
        refine WP.regw (g' := GW.lend gq [(t + 2)]) rfl ?_
        have hcal13 := P.purse_Purse_Total (GW.lend gq [(t + 2)]) d3 x4 d4 l2 a2 n2 c2 hRl8 x9 hk13
        refine WP.callC hcal13 (by kernel_rfl) ?_
        rintro _ g31 st31 rfl
        have st32 := (GW.back_step st31).lentS
        have hO8 := hR2.backTo hS8 (by simp) st31 (fun x => x)
        refine WP.regw (g' := GW.back gq g31 [(t + 2)]) rfl ?_
        generalize GW.back gq g31 [(t + 2)] = g32 at *
        refine WP.done (by kernel_rfl) (Shown.ok (v := .int .i64 x9) (by kernel_rfl) st32 ?_)
        exact ⟨trivial, trivial, trivial, trivial, trivial, trivial, trivial, trivial, trivial, trivial, trivial, trivial, trivial, trivial, trivial, trivial, rfl, hO8, trivial, trivial, trivial, trivial, trivial, trivial, trivial, trivial, trivial⟩
      · intro vs gq stq hl hf
        replace hl : vs.length = 18 := hl
        obtain ⟨v0, vs0, rfl, hl0⟩ := len_succ hl
        obtain ⟨v1, vs1, rfl, hl1⟩ := len_succ hl0
        obtain ⟨v2, vs2, rfl, hl2⟩ := len_succ hl1
        obtain ⟨v3, vs3, rfl, hl3⟩ := len_succ hl2
        obtain ⟨v4, vs4, rfl, hl4⟩ := len_succ hl3
        obtain ⟨v5, vs5, rfl, hl5⟩ := len_succ hl4
        obtain ⟨v6, vs6, rfl, hl6⟩ := len_succ hl5
        obtain ⟨v7, vs7, rfl, hl7⟩ := len_succ hl6
        obtain ⟨v8, vs8, rfl, hl8⟩ := len_succ hl7
        obtain ⟨v9, vs9, rfl, hl9⟩ := len_succ hl8
        obtain ⟨v10, vs10, rfl, hl10⟩ := len_succ hl9
        obtain ⟨v11, vs11, rfl, hl11⟩ := len_succ hl10
        obtain ⟨v12, vs12, rfl, hl12⟩ := len_succ hl11
        obtain ⟨v13, vs13, rfl, hl13⟩ := len_succ hl12
        obtain ⟨v14, vs14, rfl, hl14⟩ := len_succ hl13
        obtain ⟨v15, vs15, rfl, hl15⟩ := len_succ hl14
        obtain ⟨v16, vs16, rfl, hl16⟩ := len_succ hl15
        obtain ⟨v17, vs17, rfl, hl17⟩ := len_succ hl16
        obtain rfl := len_zero hl17
        have e5 := (show v5 = .bool false from hf _ (List.mem_of_getElem? (i := 11) rfl) (by kernel_rfl))
        subst e5
        have e6 := (show v6 = .int .i64 (aget d6 0) from hf _ (List.mem_of_getElem? (i := 12) rfl) (by kernel_rfl))
        subst e6
        have e7 := (show v7 = .int .i64 (aget d6 1) from hf _ (List.mem_of_getElem? (i := 13) rfl) (by kernel_rfl))
        subst e7
        have e8 := (show v8 = .int .i64 (aget d6 2) from hf _ (List.mem_of_getElem? (i := 14) rfl) (by kernel_rfl))
        subst e8
        have e10 := (show v10 = .int .i64 x9 from hf _ (List.mem_of_getElem? (i := 16) rfl) (by kernel_rfl))
        subst e10
        refine WP.still 1 (by kernel_rfl) ?_
        refine WP.done (by kernel_rfl) (Shown.ok (v := .bool ((IntKind.i64.wrap ((IntKind.i64.wrap ((aget d6 0) + (aget d6 1))) + (aget d6 2))) != x9)) (by kernel_rfl) (Step.refl _ _) ?_)
        exact ⟨trivial, trivial, trivial, trivial, trivial, trivial, trivial, trivial, trivial, trivial, trivial, trivial, trivial, trivial, trivial, trivial, trivial, trivial, congrArg Value.bool h14, trivial, trivial, trivial, trivial, trivial, trivial, trivial, trivial⟩
      · intro vs gq stq hl hf
        replace hl : vs.length = 18 := hl
        obtain ⟨v0, vs0, rfl, hl0⟩ := len_succ hl
        obtain ⟨v1, vs1, rfl, hl1⟩ := len_succ hl0
        obtain ⟨v2, vs2, rfl, hl2⟩ := len_succ hl1
        obtain ⟨v3, vs3, rfl, hl3⟩ := len_succ hl2
        obtain ⟨v4, vs4, rfl, hl4⟩ := len_succ hl3
        obtain ⟨v5, vs5, rfl, hl5⟩ := len_succ hl4
        obtain ⟨v6, vs6, rfl, hl6⟩ := len_succ hl5
        obtain ⟨v7, vs7, rfl, hl7⟩ := len_succ hl6
        obtain ⟨v8, vs8, rfl, hl8⟩ := len_succ hl7
        obtain ⟨v9, vs9, rfl, hl9⟩ := len_succ hl8
        obtain ⟨v10, vs10, rfl, hl10⟩ := len_succ hl9
        obtain ⟨v11, vs11, rfl, hl11⟩ := len_succ hl10
        obtain ⟨v12, vs12, rfl, hl12⟩ := len_succ hl11
        obtain ⟨v13, vs13, rfl, hl13⟩ := len_succ hl12
        obtain ⟨v14, vs14, rfl, hl14⟩ := len_succ hl13
        obtain ⟨v15, vs15, rfl, hl15⟩ := len_succ hl14
        obtain ⟨v16, vs16, rfl, hl16⟩ := len_succ hl15
        obtain ⟨v17, vs17, rfl, hl17⟩ := len_succ hl16
        obtain rfl := len_zero hl17
        have hB6 := (show Box gq (t + 6) b5 34 [encA .i64 d7] [3] from hf _ (List.mem_of_getElem? (i := 4) rfl) (by kernel_rfl))
        have e11 := (show v11 = .bool false from hf _ (List.mem_of_getElem? (i := 18) rfl) (by kernel_rfl))
        subst e11
        refine WP.loadE (ty := 3) (o := 0) (m := 3) (k := .i64) (d := d7) (i := 0) hB6 (by kernel_rfl) (by decide) (by kernel_rfl) (by kernel_rfl) ?_
        refine WP.done (by kernel_rfl) (Shown.ok (v := .int .i64 (aget d7 0)) (by kernel_rfl) (Step.refl _ _) ?_)
        exact ⟨trivial, trivial, trivial, trivial, trivial, trivial, trivial, trivial, trivial, trivial, trivial, trivial, trivial, trivial, trivial, trivial, trivial, trivial, trivial, rfl, trivial, trivial, trivial, trivial, trivial, trivial, trivial⟩
      · intro vs gq stq hl hf
        replace hl : vs.length = 18 := hl
        obtain ⟨v0, vs0, rfl, hl0⟩ := len_succ hl
        obtain ⟨v1, vs1, rfl, hl1⟩ := len_succ hl0
        obtain ⟨v2, vs2, rfl, hl2⟩ := len_succ hl1
        obtain ⟨v3, vs3, rfl, hl3⟩ := len_succ hl2
        obtain ⟨v4, vs4, rfl, hl4⟩ := len_succ hl3
        obtain ⟨v5, vs5, rfl, hl5⟩ := len_succ hl4
        obtain ⟨v6, vs6, rfl, hl6⟩ := len_succ hl5
        obtain ⟨v7, vs7, rfl, hl7⟩ := len_succ hl6
        obtain ⟨v8, vs8, rfl, hl8⟩ := len_succ hl7
        obtain ⟨v9, vs9, rfl, hl9⟩ := len_succ hl8
        obtain ⟨v10, vs10, rfl, hl10⟩ := len_succ hl9
        obtain ⟨v11, vs11, rfl, hl11⟩ := len_succ hl10
        obtain ⟨v12, vs12, rfl, hl12⟩ := len_succ hl11
        obtain ⟨v13, vs13, rfl, hl13⟩ := len_succ hl12
        obtain ⟨v14, vs14, rfl, hl14⟩ := len_succ hl13
        obtain ⟨v15, vs15, rfl, hl15⟩ := len_succ hl14
        obtain ⟨v16, vs16, rfl, hl16⟩ := len_succ hl15
        obtain ⟨v17, vs17, rfl, hl17⟩ := len_succ hl16
        obtain rfl := len_zero hl17
        have hB6 := (show Box gq (t + 6) b5 34 [encA .i64 d7] [3] from hf _ (List.mem_of_getElem? (i := 4) rfl) (by kernel_rfl))
        have e11 := (show v11 = .bool false from hf _ (List.mem_of_getElem? (i := 18) rfl) (by kernel_rfl))
        subst e11
        refine WP.loadE (ty := 3) (o := 0) (m := 3) (k := .i64) (d := d7) (i := 1) hB6 (by kernel_rfl) (by decide) (by kernel_rfl) (by kernel_rfl) ?_
        refine WP.done (by kernel_rfl) (Shown.ok (v := .int .i64 (aget d7 1)) (by kernel_rfl) (Step.refl _ _) ?_)
        exact ⟨trivial, trivial, trivial, trivial, trivial, trivial, trivial, trivial, trivial, trivial, trivial, trivial, trivial, trivial, trivial, trivial, trivial, trivial, trivial, trivial, rfl, trivial, trivial, trivial, trivial, trivial, trivial⟩
      · intro vs gq stq hl hf
        replace hl : vs.length = 18 := hl
        obtain ⟨v0, vs0, rfl, hl0⟩ := len_succ hl
        obtain ⟨v1, vs1, rfl, hl1⟩ := len_succ hl0
        obtain ⟨v2, vs2, rfl, hl2⟩ := len_succ hl1
        obtain ⟨v3, vs3, rfl, hl3⟩ := len_succ hl2
        obtain ⟨v4, vs4, rfl, hl4⟩ := len_succ hl3
        obtain ⟨v5, vs5, rfl, hl5⟩ := len_succ hl4
        obtain ⟨v6, vs6, rfl, hl6⟩ := len_succ hl5
        obtain ⟨v7, vs7, rfl, hl7⟩ := len_succ hl6
        obtain ⟨v8, vs8, rfl, hl8⟩ := len_succ hl7
        obtain ⟨v9, vs9, rfl, hl9⟩ := len_succ hl8
        obtain ⟨v10, vs10, rfl, hl10⟩ := len_succ hl9
        obtain ⟨v11, vs11, rfl, hl11⟩ := len_succ hl10
        obtain ⟨v12, vs12, rfl, hl12⟩ := len_succ hl11
        obtain ⟨v13, vs13, rfl, hl13⟩ := len_succ hl12
        obtain ⟨v14, vs14, rfl, hl14⟩ := len_succ hl13
        obtain ⟨v15, vs15, rfl, hl15⟩ := len_succ hl14
        obtain ⟨v16, vs16, rfl, hl16⟩ := len_succ hl15
        obtain ⟨v17, vs17, rfl, hl17⟩ := len_succ hl16
        obtain rfl := len_zero hl17
        have hB2 := (show Box gq (t + 3) b2 32 [encA .u8 d3, [.int .i64 x4], encA .i64 d4, [.slice a2 n2 c2]] [8, 1, 2, 1] from hf _ (List.mem_of_getElem? (i := 0) rfl) (by kernel_rfl))
        have e11 := (show v11 = .bool false from hf _ (List.mem_of_getElem? (i := 18) rfl) (by kernel_rfl))
        subst e11
        refine WP.loadB (v := AG [encA .u8 d3, [.int .i64 x4], encA .i64 d4, [.slice a2 n2 c2]]) hB2 (by kernel_rfl) (by kernel_rfl) ?_
        refine WP.done (by kernel_rfl) (Shown.ok (v := AG [encA .u8 d3, [.int .i64 x4], encA .i64 d4, [.slice a2 n2 c2]]) (by kernel_rfl) (Step.refl _ _) ?_)
        exact ⟨trivial, trivial, trivial, trivial, trivial, trivial, trivial, trivial, trivial, trivial, trivial, trivial, trivial, trivial, trivial, trivial, trivial, trivial, trivial, trivial, trivial, rfl, trivial, trivial, trivial, trivial, trivial⟩
      · intro vs gq stq hl hf
        replace hl : vs.length = 18 := hl
        obtain ⟨v0, vs0, rfl, hl0⟩ := len_succ hl
        obtain ⟨v1, vs1, rfl, hl1⟩ := len_succ hl0
        obtain ⟨v2, vs2, rfl, hl2⟩ := len_succ hl1
        obtain ⟨v3, vs3, rfl, hl3⟩ := len_succ hl2
        obtain ⟨v4, vs4, rfl, hl4⟩ := len_succ hl3
        obtain ⟨v5, vs5, rfl, hl5⟩ := len_succ hl4
        obtain ⟨v6, vs6, rfl, hl6⟩ := len_succ hl5
        obtain ⟨v7, vs7, rfl, hl7⟩ := len_succ hl6
        obtain ⟨v8, vs8, rfl, hl8⟩ := len_succ hl7
        obtain ⟨v9, vs9, rfl, hl9⟩ := len_succ hl8
        obtain ⟨v10, vs10, rfl, hl10⟩ := len_succ hl9
        obtain ⟨v11, vs11, rfl, hl11⟩ := len_succ hl10
        obtain ⟨v12, vs12, rfl, hl12⟩ := len_succ hl11
        obtain ⟨v13, vs13, rfl, hl13⟩ := len_succ hl12
        obtain ⟨v14, vs14, rfl, hl14⟩ := len_succ hl13
        obtain ⟨v15, vs15, rfl, hl15⟩ := len_succ hl14
        obtain ⟨v16, vs16, rfl, hl16⟩ := len_succ hl15
        obtain ⟨v17, vs17, rfl, hl17⟩ := len_succ hl16
        obtain rfl := len_zero hl17
        have hR2 := (show OwnS k_S_purse_Held gq (t + 2) 56 a2 n2 c2 l2 from hf _ (List.mem_of_getElem? (i := 17) rfl) (by kernel_rfl))
        have e11 := (show v11 = .bool false from hf _ (List.mem_of_getElem? (i := 18) rfl) (by kernel_rfl))
        subst e11
        have e14 := (show v14 = AG [encA .u8 d3, [.int .i64 x4], encA .i64 d4, [.slice a2 n2 c2]] from hf _ (List.mem_of_getElem? (i := 21) rfl) (by kernel_rfl))
        subst e14
        have hS9 : 0 ∉ ([(t + 2)] : List Nat) := by simp <;> omega
        have stl9 := GW.lend_step gq [(t + 2)]
        have hRl9 := hR2.lendTo hS9 (by simp)
        refine WP.regw (g' := GW.lend gq [(t + 2)]) rfl ?_
        have hcal14 := P.purse_Purse_Total (GW.lend gq [(t + 2)]) d3 x4 d4 l2 a2 n2 c2 hRl9 x10 hk14
        refine WP.callC hcal14 (by kernel_rfl) ?_
        rintro _ g34 st34 rfl
        have st35 := (GW.back_step st34).lentS
        have hO9 := hR2.backTo hS9 (by simp) st34 (fun x => x)
        refine WP.regw (g' := GW.back gq g34 [(t + 2)]) rfl ?_
        generalize GW.back gq g34 [(t + 2)] = g35 at *
        refine WP.done (by kernel_rfl) (Shown.ok (v := .int .i64 x10) (by kernel_rfl) st35 ?_)
        exact ⟨trivial, trivial, trivial, trivial, trivial, trivial, trivial, trivial, trivial, trivial, trivial, trivial, trivial, trivial, trivial, trivial, trivial, trivial, trivial, trivial, trivial, trivial, rfl, hO9, trivial, trivial, trivial⟩
      · intro vs gq stq hl hf
        replace hl : vs.length = 18 := hl
        obtain ⟨v0, vs0, rfl, hl0⟩ := len_succ hl
        obtain ⟨v1, vs1, rfl, hl1⟩ := len_succ hl0
        obtain ⟨v2, vs2, rfl, hl2⟩ := len_succ hl1
        obtain ⟨v3, vs3, rfl, hl3⟩ := len_succ hl2
        obtain ⟨v4, vs4, rfl, hl4⟩ := len_succ hl3
        obtain ⟨v5, vs5, rfl, hl5⟩ := len_succ hl4
        obtain ⟨v6, vs6, rfl, hl6⟩ := len_succ hl5
        obtain ⟨v7, vs7, rfl, hl7⟩ := len_succ hl6
        obtain ⟨v8, vs8, rfl, hl8⟩ := len_succ hl7
        obtain ⟨v9, vs9, rfl, hl9⟩ := len_succ hl8
        obtain ⟨v10, vs10, rfl, hl10⟩ := len_succ hl9
        obtain ⟨v11, vs11, rfl, hl11⟩ := len_succ hl10
        obtain ⟨v12, vs12, rfl, hl12⟩ := len_succ hl11
        obtain ⟨v13, vs13, rfl, hl13⟩ := len_succ hl12
        obtain ⟨v14, vs14, rfl, hl14⟩ := len_succ hl13
        obtain ⟨v15, vs15, rfl, hl15⟩ := len_succ hl14
        obtain ⟨v16, vs16, rfl, hl16⟩ := len_succ hl15
        obtain ⟨v17, vs17, rfl, hl17⟩ := len_succ hl16
        obtain rfl := len_zero hl17
        have e11 := (show v11 = .bool false from hf _ (List.mem_of_getElem? (i := 18) rfl) (by kernel_rfl))
        subst e11
        have e12 := (show v12 = .int .i64 (aget d7 0) from hf _ (List.mem_of_getElem? (i := 19) rfl) (by kernel_rfl))
        subst e12
        have e13 := (show v13 = .int .i64 (aget d7 1) from hf _ (List.mem_of_getElem? (i := 20) rfl) (by kernel_rfl))
        subst e13
        have e15 := (show v15 = .int .i64 x10 from hf _ (List.mem_of_getElem? (i := 22) rfl) (by kernel_rfl))
        subst e15
        refine WP.still 1 (by kernel_rfl) ?_
        refine WP.done (by kernel_rfl) (Shown.ok (v := .bool ((IntKind.i64.wrap ((aget d7 0) + (aget d7 1))) != x10)) (by kernel_rfl) (Step.refl _ _) ?_)
        exact ⟨trivial, trivial, trivial, trivial, trivial, trivial, trivial, trivial, trivial, trivial, trivial, trivial, trivial, trivial, trivial, trivial, trivial, trivial, trivial, trivial, trivial, trivial, trivial, trivial, congrArg Value.bool h15, trivial, trivial⟩
      · intro vs gq stq hl hf
        replace hl : vs.length = 18 := hl
        obtain ⟨v0, vs0, rfl, hl0⟩ := len_succ hl
        obtain ⟨v1, vs1, rfl, hl1⟩ := len_succ hl0
        obtain ⟨v2, vs2, rfl, hl2⟩ := len_succ hl1
        obtain ⟨v3, vs3, rfl, hl3⟩ := len_succ hl2
        obtain ⟨v4, vs4, rfl, hl4⟩ := len_succ hl3
        obtain ⟨v5, vs5, rfl, hl5⟩ := len_succ hl4
        obtain ⟨v6, vs6, rfl, hl6⟩ := len_succ hl5
        obtain ⟨v7, vs7, rfl, hl7⟩ := len_succ hl6
        obtain ⟨v8, vs8, rfl, hl8⟩ := len_succ hl7
        obtain ⟨v9, vs9, rfl, hl9⟩ := len_succ hl8
        obtain ⟨v10, vs10, rfl, hl10⟩ := len_succ hl9
        obtain ⟨v11, vs11, rfl, hl11⟩ := len_succ hl10
        obtain ⟨v12, vs12, rfl, hl12⟩ := len_succ hl11
        obtain ⟨v13, vs13, rfl, hl13⟩ := len_succ hl12
        obtain ⟨v14, vs14, rfl, hl14⟩ := len_succ hl13
        obtain ⟨v15, vs15, rfl, hl15⟩ := len_succ hl14
        obtain ⟨v16, vs16, rfl, hl16⟩ := len_succ hl15
        obtain ⟨v17, vs17, rfl, hl17⟩ := len_succ hl16
        obtain rfl := len_zero hl17
        have hB6 := (show Box gq (t + 6) b5 34 [encA .i64 d7] [3] from hf _ (List.mem_of_getElem? (i := 4) rfl) (by kernel_rfl))
        have e16 := (show v16 = .bool false from hf _ (List.mem_of_getElem? (i := 24) rfl) (by kernel_rfl))
        subst e16
        refine WP.loadE (ty := 3) (o := 0) (m := 3) (k := .i64) (d := d7) (i := 2) hB6 (by kernel_rfl) (by decide) (by kernel_rfl) (by kernel_rfl) ?_
        refine WP.done (by kernel_rfl) (Shown.ok (v := .int .i64 (aget d7 2)) (by kernel_rfl) (Step.refl _ _) ?_)
        exact ⟨trivial, trivial, trivial, trivial, trivial, trivial, trivial, trivial, trivial, trivial, trivial, trivial, trivial, trivial, trivial, trivial, trivial, trivial, trivial, trivial, trivial, trivial, trivial, trivial, trivial, rfl, trivial⟩
    intro vs g37 st37 hl hf
    replace hl : vs.length = 18 := hl
    obtain ⟨v0, vs0, rfl, hl0⟩ := len_succ hl
    obtain ⟨v1, vs1, rfl, hl1⟩ := len_succ hl0
    obtain ⟨v2, vs2, rfl, hl2⟩ := len_succ hl1
    obtain ⟨v3, vs3, rfl, hl3⟩ := len_succ hl2
    obtain ⟨v4, vs4, rfl, hl4⟩ := len_succ hl3
    obtain ⟨v5, vs5, rfl, hl5⟩ := len_succ hl4
    obtain ⟨v6, vs6, rfl, hl6⟩ := len_succ hl5
    obtain ⟨v7, vs7, rfl, hl7⟩ := len_succ hl6
    obtain ⟨v8, vs8, rfl, hl8⟩ := len_succ hl7
    obtain ⟨v9, vs9, rfl, hl9⟩ := len_succ hl8
    obtain ⟨v10, vs10, rfl, hl10⟩ := len_succ hl9
    obtain ⟨v11, vs11, rfl, hl11⟩ := len_succ hl10
    obtain ⟨v12, vs12, rfl, hl12⟩ := len_succ hl11
    obtain ⟨v13, vs13, rfl, hl13⟩ := len_succ hl12
    obtain ⟨v14, vs14, rfl, hl14⟩ := len_succ hl13
    obtain ⟨v15, vs15, rfl, hl15⟩ := len_succ hl14
    obtain ⟨v16, vs16, rfl, hl16⟩ := len_succ hl15
    obtain ⟨v17, vs17, rfl, hl17⟩ := len_succ hl16
    obtain rfl := len_zero hl17
    have e16 := (show v16 = .bool false from hf _ (List.mem_of_getElem? (i := 24) rfl) (by kernel_rfl))
    subst e16
    have e17 := (show v17 = .int .i64 (aget d7 2) from hf _ (List.mem_of_getElem? (i := 25) rfl) (by kernel_rfl))
    subst e17
    replace hB4 := hB4.mono st37 (WL.no1 (by omega))
    replace hB5 := hB5.mono st37 (WL.no1 (by omega))
    replace tot := tot.trans (st37.up1 (.inr (by omega)))
    refine NX.post ?_
    exact ⟨((aget d7 2) != 0), ⟨by kernel_rfl, by kernel_rfl⟩, tot, hB4, hB5, hs⟩
  clear tot hs hB2 hR2 hB4 hB5 hB6
  rintro tm g ⟨q4, hF, tot, hB4, hB5, hs⟩
  clear ds
  obtain ⟨ds, rfl⟩ := hF.open
  clear hF
  unfold F.baizelaw47_PursePays.c2 at hs
  refine CP.cond (b := q4) (by kernel_rfl) (fun h6 => ?_) (fun h6 => ?_)
  · replace hs := of_if_t hs h6
    refine CP.seqR ?_
    refine WP.still 1 (by kernel_rfl) ?_
    refine WP.done (by kernel_rfl) ?_
    refine NX.then_n ?_
    refine CP.ret ?_
    refine NX.then_r ?_
    replace hs := Option.some.inj hs
    obtain rfl := hs
    exact NX.fin (v := .bool false) (Res.still (by kernel_rfl)) tot htL rfl
  replace hs := of_if_f hs h6
  refine CP.skip ?_
  refine NX.then_n ?_
  refine CP.cut (fun tm g => ∃ (q6 : Bool), Fr 90 [(6, .bool q6)] tm ∧ Step (fun l => NoM l ∨ t ≤ l) g0 g ∧ (F.baizelaw47_PursePays.c3 q6) = some o1) ?_ ?_
  · refine CP.region ?_
    refine WP.still 1 (by kernel_rfl) ?_
    refine WP.loadE (ty := 3) (o := 0) (m := 3) (k := .i64) (d := d5) (i := 0) hB4 (by kernel_rfl) (by decide) (by kernel_rfl) (by kernel_rfl) ?_
    refine WP.still 1 (by kernel_rfl) ?_
    refine WP.loadE (ty := 3) (o := 0) (m := 3) (k := .i64) (d := d6) (i := 0) hB5 (by kernel_rfl) (by decide) (by kernel_rfl) (by kernel_rfl) ?_
    refine WP.still 2 (by kernel_rfl) ?_
    refine WP.guard 73 (b := decide ((aget d5 0) ≤ (aget d6 0))) (by kernel_rfl) (fun h10 => ?_) (fun h10 => ?_)
    · replace hs := of_if_t hs h10
      refine WP.still 1 (by kernel_rfl) ?_
      refine WP.loadE (ty := 3) (o := 0) (m := 3) (k := .i64) (d := d5) (i := 1) hB4 (by kernel_rfl) (by decide) (by kernel_rfl) (by kernel_rfl) ?_
      refine WP.still 1 (by kernel_rfl) ?_
      refine WP.loadE (ty := 3) (o := 0) (m := 3) (k := .i64) (d := d6) (i := 1) hB5 (by kernel_rfl) (by decide) (by kernel_rfl) (by kernel_rfl) ?_
      refine WP.still 3 (by kernel_rfl) ?_
      refine WP.guard 80 (b := decide ((aget d5 1) ≤ (aget d6 1))) (by kernel_rfl) (fun h11 => ?_) (fun h11 => ?_)
      · replace hs := of_if_t hs h11
        refine WP.still 1 (by kernel_rfl) ?_
        refine WP.loadE (ty := 3) (o := 0) (m := 3) (k := .i64) (d := d5) (i := 2) hB4 (by kernel_rfl) (by decide) (by kernel_rfl) (by kernel_rfl) ?_
        refine WP.still 1 (by kernel_rfl) ?_
        refine WP.loadE (ty := 3) (o := 0) (m := 3) (k := .i64) (d := d6) (i := 2) hB5 (by kernel_rfl) (by decide) (by kernel_rfl) (by kernel_rfl) ?_
        refine WP.still 3 (by kernel_rfl) ?_
        refine WP.guard 87 (b := decide ((aget d5 2) ≥ (aget d6 2))) (by kernel_rfl) (fun h12 => ?_) (fun h12 => ?_)
        · replace hs := of_if_t hs h12
          replace hs := Option.bind_eq_some_iff.1 hs
          obtain ⟨q7, hk11, hs⟩ := hs
          have hcal11 := P.baizelaw47_told g q7 hk11
          refine WP.callC hcal11 (by kernel_rfl) ?_
          rintro _ g27 st27 rfl
          replace hB4 := hB4.mono st27 (fun x => x)
          replace hB5 := hB5.mono st27 (fun x => x)
          replace tot := tot.trans st27.pure
          refine WP.still 2 (by kernel_rfl) ?_
          refine WP.done (by kernel_rfl) ?_
          refine NX.post ?_
          exact ⟨q7, ⟨by kernel_rfl, by kernel_rfl⟩, tot, hs⟩
        replace hs := of_if_f hs h12
        refine WP.still 3 (by kernel_rfl) ?_
        refine WP.done (by kernel_rfl) ?_
        refine NX.post ?_
        exact ⟨false, ⟨by kernel_rfl, by kernel_rfl⟩, tot, hs⟩
      replace hs := of_if_f hs h11
      refine WP.still 10 (by kernel_rfl) ?_
      refine WP.done (by kernel_rfl) ?_
      refine NX.post ?_
      exact ⟨false, ⟨by kernel_rfl, by kernel_rfl⟩, tot, hs⟩
    replace hs := of_if_f hs h10
    refine WP.still 17 (by kernel_rfl) ?_
    refine WP.done (by kernel_rfl) ?_
    refine NX.post ?_
    exact ⟨false, ⟨by kernel_rfl, by kernel_rfl⟩, tot, hs⟩
  clear tot hs hB4 hB5
  rintro tm g ⟨q6, hF, tot, hs⟩
  clear ds
  obtain ⟨ds, rfl⟩ := hF.open
  clear hF
  unfold F.baizelaw47_PursePays.c3 at hs
  refine CP.ret ?_
  replace hs := Option.some.inj hs
  obtain rfl := hs
  exact NX.fin (v := .bool q6) (Res.still (by kernel_rfl)) tot htL rfl
end Go.Proofs.Yticlfbpmfejdoaa
