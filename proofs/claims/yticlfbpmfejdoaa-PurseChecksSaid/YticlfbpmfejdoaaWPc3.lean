/-
  Walks, written by program: each Go function computes the plain function of its name, in whatever world its arguments' facts hold.
-/
import Derived.Test.YticlfbpmfejdoaaWPc2
namespace Go.Proofs.Yticlfbpmfejdoaa
open Go.RowKit Go.Lab
attribute [local irreducible] WP CP NX wpList Code.wp Calls
set_option maxRecDepth 100000
set_option maxHeartbeats 4000000
set_option linter.unusedVariables false

def N.baizelaw47_PurseChecks_0 : List (List Nat) := [[], [], [1], [], [1, 2, 3], [1, 2, 3, 4], [1, 2, 3, 4, 5], [0, 1, 2, 3, 4, 5, 6], [0, 1, 2, 3, 4, 5, 6, 7], [0, 1, 2, 3, 4, 5, 6, 7, 8], [0, 1, 2, 3, 4, 5, 6, 7, 8], [], [0, 1, 2, 3, 4, 5, 6, 7, 8, 9, 11], [0, 1, 2, 3, 4, 5, 6, 7, 8, 9, 10, 11, 12]]
def N.baizelaw47_PurseChecks_1 : List (List Nat) := [[], [], [1], [], [1, 2, 3], [1, 2, 3, 4], [1, 2, 3, 4, 5], [0, 1, 2, 3, 4, 5, 6], [0, 1, 2, 3, 4, 5, 6, 7]]
def F.baizelaw47_PurseChecks.c3 (nx1 : (List S_purse_Held) → Int → Option (Bool)) (l8 : List S_purse_Held) (x22 : Int) (q26 : Bool) : Option (Bool) := (if q26 = true then (some false) else (nx1 l8 (IntKind.i64.wrap (x22 + 1))))
def N.baizelaw47_PurseChecks_2 : List (List Nat) := [[], [], [1], [0, 1, 2], [0, 1, 2, 3], [0, 1, 2, 3, 4], [0, 1, 2, 3, 4, 5], [0, 1, 2, 3, 4, 5, 6], [0, 1, 2, 3, 4, 5, 6], [0, 1, 2, 3, 4, 5, 6, 8], [0, 1, 2, 3, 4, 5, 6, 8, 9], [0, 1, 2, 3, 4, 5, 6], [0, 1, 2, 3, 4, 5, 6, 8, 9, 10, 11], [0, 1, 2, 3, 4, 5, 6, 8, 9, 10, 11, 12], [0, 1, 2, 3, 4, 5, 6, 7, 8, 9, 10, 11, 12, 13], [0, 1, 2, 3, 4, 5, 6, 7, 8, 9, 10, 11, 12, 13, 14], [0, 1, 2, 3, 4, 5, 6, 7, 8, 9, 10, 11, 12, 13, 14, 15], [0, 1, 2, 3, 4, 5, 6, 7, 8, 9, 10, 11, 12, 13, 14, 15, 16], [0, 1, 2, 3, 4, 5, 6, 7, 8, 9, 10, 11, 12, 13, 14, 15, 16, 17], [0, 1, 2, 3, 4, 5, 6, 7, 8, 9, 10, 11, 12, 13, 14, 15, 16, 17, 18], [0, 1, 2, 3, 4, 5, 6, 7, 8, 9, 10, 11, 12, 13, 14, 15, 16, 17, 18, 19], [0, 1, 2, 3, 4, 5, 6, 7, 8, 9, 10, 11, 12, 13, 14, 15, 16, 17, 18, 19, 20], [0, 1, 2, 3, 4, 5, 6, 7, 8, 9, 10, 11, 12, 13, 14, 15, 16, 17, 18, 19, 20], [0, 1, 2, 3, 4, 5, 6, 7, 8, 9, 10, 11, 12, 13, 14, 15, 16, 17, 18, 19, 20, 21, 22], [0, 1, 2, 3, 4, 5, 6, 7, 8, 9, 10, 11, 12, 13, 14, 15, 16, 17, 18, 19, 20, 21, 22, 23], [0, 1, 2, 3, 4, 5, 6, 7, 8, 9, 10, 11, 12, 13, 14, 15, 16, 17, 18, 19, 20, 21, 22, 23, 24]]
def F.baizelaw47_PurseChecks.c4 (q29 : Bool) : Option (Bool) := (some q29)
def F.baizelaw47_PurseChecks.c5 (q34 : Bool) : Option (Bool) := (some q34)
def N.baizelaw47_PurseChecks_3 : List (List Nat) := [[], [0], [0, 1], [0, 1, 2], [0, 1, 2], [0, 1, 2, 4], [0, 1, 2, 3, 4, 5], [0, 1, 2, 3, 4, 5, 6], [0, 1, 2, 3, 4, 5, 6, 7], [0, 1, 2, 3, 4, 5, 6, 7, 8], [0, 1, 2, 3, 4, 5, 6, 7, 8, 9], [0, 1, 2, 3, 4, 5, 6, 7, 8, 9, 10]]
def F.baizelaw47_PurseChecks.l1 (d1 : Arr Int 8) (x1 : Int) (d2 : Arr Int 2) (l1 : List S_baizeref47_Held) (l2 : List S_baizeref47_Held) (d5 : Arr Int 8) (x4 : Int) (d6 : Arr Int 2) : Nat → (List S_purse_Held) → Int → Option (Bool)
  | 0, _, _ => none
  | k + 1, l8, x22 => (if decide (x22 < (l2.length : Int)) = true then (if (0 : Int) ≤ x22 ∧ x22 < (l2.length : Int) then ((F.purse_Purse_Find d5 x4 d6 l8 ((getI l2 x22).f1)).bind fun (d26, x33, x34, x35, q25) => (if (0 : Int) ≤ x22 ∧ x22 < (l2.length : Int) then ((F.baizeref47_Place d1 x1 d2 l1 ((getI l2 x22).f1)).bind fun x36 => (if (!(q25 == (decide (x36 ≥ 0)))) = true then (F.baizelaw47_PurseChecks.c3 (F.baizelaw47_PurseChecks.l1 d1 x1 d2 l1 l2 d5 x4 d6 k) l8 x22 true) else (if q25 = true then ((F.baizelaw47_Own d1 x1 d2 l1).bind fun (d29, x38, d30, l14) => (if (0 : Int) ≤ x36 ∧ x36 < (l14.length : Int) then (if (!((d26.1 == ((getI l14 x36).f1).1) && ((x33 == ((getI l14 x36).f2)) && ((x34 == ((getI l14 x36).f3)) && (x35 == ((getI l14 x36).f4)))))) = true then (F.baizelaw47_PurseChecks.c3 (F.baizelaw47_PurseChecks.l1 d1 x1 d2 l1 l2 d5 x4 d6 k) l8 x22 true) else (if (!q25) = true then (F.baizelaw47_PurseChecks.c3 (F.baizelaw47_PurseChecks.l1 d1 x1 d2 l1 l2 d5 x4 d6 k) l8 x22 (!((d26.1 == (zA 8).1) && ((x33 == 0) && ((x34 == 0) && (x35 == 0)))))) else (F.baizelaw47_PurseChecks.c3 (F.baizelaw47_PurseChecks.l1 d1 x1 d2 l1 l2 d5 x4 d6 k) l8 x22 false))) else none)) else (if (!q25) = true then (F.baizelaw47_PurseChecks.c3 (F.baizelaw47_PurseChecks.l1 d1 x1 d2 l1 l2 d5 x4 d6 k) l8 x22 (!((d26.1 == (zA 8).1) && ((x33 == 0) && ((x34 == 0) && (x35 == 0)))))) else (F.baizelaw47_PurseChecks.c3 (F.baizelaw47_PurseChecks.l1 d1 x1 d2 l1 l2 d5 x4 d6 k) l8 x22 false))))) else none)) else none) else ((F.purse_New d5 (aget d2 0) (aget d2 1)).bind fun (d31, x39, d32, l15, x40) => ((F.baizeref47_Check d1 0 d2 ([])).bind fun x41 => (if (x41 != 0) = true then (if (x40 == 2) = true then ((F.purse_Same d31 x39 d32 l15 (zA 8) 0 (zA 2) ([])).bind fun q30 => (if q30 = true then ((F.baizelaw47_told).bind fun q31 => (F.baizelaw47_PurseChecks.c4 q31)) else (F.baizelaw47_PurseChecks.c4 false))) else (F.baizelaw47_PurseChecks.c4 false)) else (if (x40 == 0) = true then ((F.baizelaw47_Own d1 0 d2 ([])).bind fun (d35, x43, d36, l17) => ((F.purse_Same d31 x39 d32 l15 d35 x43 d36 l17).bind fun q35 => (if q35 = true then ((F.baizelaw47_told).bind fun q36 => (F.baizelaw47_PurseChecks.c5 q36)) else (F.baizelaw47_PurseChecks.c5 false)))) else (F.baizelaw47_PurseChecks.c5 false))))))
def F.baizelaw47_PurseChecks.c2 (d1 : Arr Int 8) (x1 : Int) (d2 : Arr Int 2) (l1 : List S_baizeref47_Held) (l2 : List S_baizeref47_Held) (d5 : Arr Int 8) (x4 : Int) (d6 : Arr Int 2) (l3 : List S_purse_Held) (q7 : Bool) : Option (Bool) := (if q7 = true then (some false) else (F.baizelaw47_PurseChecks.l1 d1 x1 d2 l1 l2 d5 x4 d6 fuel l3 0))
def N.baizelaw47_PurseChecks_4 : List (List Nat) := [[], [0], [], [0, 1, 2], [0, 1, 2, 3], [0, 1, 2, 3, 4], [0, 1, 2, 3, 4, 5], [0, 1, 2, 3, 4, 5, 6], [0, 1, 2, 3, 4, 5], [0, 1, 2, 3, 4, 5, 6, 7, 8], [0, 1, 2, 3, 4, 5, 6, 7, 8, 9], [0, 1, 2, 3, 4, 5, 6, 7, 8, 9, 10], [0, 1, 2, 3, 4, 5, 6, 7, 8, 9, 10, 11], [0, 1, 2, 3, 4, 5, 6, 7, 8, 9, 10, 11, 12], [0, 1, 2, 3, 4, 5, 6, 7, 8, 9, 10, 11, 12], [0, 1, 2, 3, 4, 5, 6, 7, 8, 9, 10, 11, 12, 13, 14], [0, 1, 2, 3, 4, 5, 6, 7, 8, 9, 10, 11, 12], [0, 1, 2, 3, 4, 5, 6, 7, 8, 9, 10, 11, 12], [0, 1, 2, 3, 4, 5, 6, 7, 8, 9, 10, 11, 12, 13, 14, 15, 16, 17], [0, 1, 2, 3, 4, 5, 6, 7, 8, 9, 10, 11, 12, 13, 14, 15, 16, 17, 18], [0, 1, 2, 3, 4, 5, 6, 7, 8, 9, 10, 11, 12, 13, 14, 15, 16, 17, 18, 19], [0, 1, 2, 3, 4, 5, 6, 7, 8, 9, 10, 11, 12, 13, 14, 15, 16, 17, 18, 19, 20], [0, 1, 2, 3, 4, 5, 6, 7, 8, 9, 10, 11, 12, 13, 14, 15, 16, 17, 18, 19, 20, 21], [0, 1, 2, 3, 4, 5, 6, 7, 8, 9, 10, 11, 12, 13, 14, 15, 16, 17, 18, 19, 20, 21], [0, 1, 2, 3, 4, 5, 6, 7, 8, 9, 10, 11, 12, 13, 14, 15, 16, 17, 18, 19, 20, 21, 23], [0, 1, 2, 3, 4, 5, 6, 7, 8, 9, 10, 11, 12, 13, 14, 15, 16, 17, 18, 19, 20, 21, 22, 23, 24], [0, 1, 2, 3, 4, 5, 6, 7, 8, 9, 10, 11, 12, 13, 14, 15, 16, 17, 18, 19, 20, 21], [0, 1, 2, 3, 4, 5, 6, 7, 8, 9, 10, 11, 12, 13, 14, 15, 16, 17, 18, 19, 20, 21], [0, 1, 2, 3, 4, 5, 6, 7, 8, 9, 10, 11, 12, 13, 14, 15, 16, 17, 18, 19, 20, 21, 22, 23, 24, 25, 26, 27], [0, 1, 2, 3, 4, 5, 6, 7, 8, 9, 10, 11, 12, 13, 14, 15, 16, 17, 18, 19, 20, 21, 22, 23, 24, 25, 26, 27, 28], [0, 1, 2, 3, 4, 5, 6, 7, 8, 9, 10, 11, 12, 13, 14, 15, 16, 17, 18, 19, 20, 21, 22, 23, 24, 25, 26, 27, 28, 29]]
def F.baizelaw47_PurseChecks.c1 (d1 : Arr Int 8) (x1 : Int) (d2 : Arr Int 2) (l1 : List S_baizeref47_Held) (d3 : Arr Int 8) (x2 : Int) (d4 : Arr Int 2) (l2 : List S_baizeref47_Held) (x3 : Int) (q3 : Bool) : Option (Bool) := (if q3 = true then ((F.baizelaw47_told).bind fun q4 => (some q4)) else ((F.baizelaw47_Own d1 x1 d2 l1).bind fun (d5, x4, d6, l3) => ((F.purse_Purse_Check d5 x4 d6 l3).bind fun x44 => ((F.baizeref47_Check d1 x1 d2 l1).bind fun x45 => (if (x44 != x45) = true then (F.baizelaw47_PurseChecks.c2 d1 x1 d2 l1 l2 d5 x4 d6 l3 true) else ((F.purse_Purse_Total d5 x4 d6 l3).bind fun x46 => ((F.baizeref47_Total d1 x1 d2 l1).bind fun x47 => (if (x46 != x47) = true then (F.baizelaw47_PurseChecks.c2 d1 x1 d2 l1 l2 d5 x4 d6 l3 true) else ((F.purse_Purse_Pays d5 x4 d6 l3 x3).bind fun d37 => ((F.baizeref47_Pays d1 x1 d2 l1 x3).bind fun d38 => (if (!(d37.1 == d38.1)) = true then (F.baizelaw47_PurseChecks.c2 d1 x1 d2 l1 l2 d5 x4 d6 l3 true) else ((F.baizelaw47_Own d3 x2 d4 l2).bind fun (d39, x48, d40, l18) => ((F.purse_Same d5 x4 d6 l3 d39 x48 d40 l18).bind fun q37 => ((F.baizeref47_Same d1 x1 d2 l1 d3 x2 d4 l2).bind fun q38 => (F.baizelaw47_PurseChecks.c2 d1 x1 d2 l1 l2 d5 x4 d6 l3 (!(q37 == q38)))))))))))))))))
def F.baizelaw47_PurseChecks (d1 : Arr Int 8) (x1 : Int) (d2 : Arr Int 2) (l1 : List S_baizeref47_Held) (d3 : Arr Int 8) (x2 : Int) (d4 : Arr Int 2) (l2 : List S_baizeref47_Held) (x3 : Int) : Option (Bool) := ((F.baizelaw47_great d1 x1 d2 l1).bind fun q39 => (if q39 = true then (F.baizelaw47_PurseChecks.c1 d1 x1 d2 l1 d3 x2 d4 l2 x3 true) else ((F.baizelaw47_great d3 x2 d4 l2).bind fun q40 => (F.baizelaw47_PurseChecks.c1 d1 x1 d2 l1 d3 x2 d4 l2 x3 q40))))
theorem P.baizelaw47_PurseChecks (g0 : GW) (d1 : Arr Int 8) (x1 : Int) (d2 : Arr Int 2) (l1 : List S_baizeref47_Held) (d3 : Arr Int 8) (x2 : Int) (d4 : Arr Int 2) (l2 : List S_baizeref47_Held) (x3 : Int) (a1 : Option Addr) (n1 : Nat) (c1 : Nat) (a2 : Option Addr) (n2 : Nat) (c2 : Nat) (hR1 : RdS k_S_baizeref47_Held g0 60 a1 n1 c1 l1) (hR2 : RdS k_S_baizeref47_Held g0 60 a2 n2 c2 l2) (o1 : Bool) (hs : F.baizelaw47_PurseChecks d1 x1 d2 l1 d3 x2 d4 l2 x3 = some o1) :
    Calls Try.prog 7 #[AG [encA .u8 d1, [.int .i64 x1], encA .i64 d2, [.slice a1 n1 c1]], AG [encA .u8 d3, [.int .i64 x2], encA .i64 d4, [.slice a2 n2 c2]], .int .i64 x3] g0.w (Ret NoM g0 fun v g => v = .bool o1) := by
  refine calls_of (args := [AG [encA .u8 d1, [.int .i64 x1], encA .i64 d2, [.slice a1 n1 c1]], AG [encA .u8 d3, [.int .i64 x2], encA .i64 d4, [.slice a2 n2 c2]], .int .i64 x3]) Try.func7 rfl (0) ?_
  intro t ht htL
  refine ⟨_, rfl, ?_⟩
  refine CP.refr 148 [(0, AG [encA .u8 d1, [.int .i64 x1], encA .i64 d2, [.slice a1 n1 c1]]), (1, AG [encA .u8 d3, [.int .i64 x2], encA .i64 d4, [.slice a2 n2 c2]]), (2, .int .i64 x3)] (by kernel_rfl) (by kernel_rfl) ?_
  intro ds
  have tot : Step (fun l => NoM l ∨ t ≤ l) g0 g0 := Step.refl _ _
  unfold F.baizelaw47_PurseChecks at hs
  refine CP.seqR ?_
  refine WP.alloc (T := 26) (t + 1) [encA .u8 d1, [.int .i64 x1], encA .i64 d2, [.slice a1 n1 c1]] [8, 1, 2, 1] (by kernel_rfl) (by simp [len_encA]) ?_
  intro g1 b1 st1 hB1
  replace hR1 := hR1.mono st1 (fun x => x)
  replace hR2 := hR2.mono st1 (fun x => x)
  replace tot := tot.trans st1.pure
  refine WP.alloc (T := 26) (t + 2) [encA .u8 d3, [.int .i64 x2], encA .i64 d4, [.slice a2 n2 c2]] [8, 1, 2, 1] (by kernel_rfl) (by simp [len_encA]) ?_
  intro g2 b2 st2 hB2
  replace hR1 := hR1.mono st2 (fun x => x)
  replace hR2 := hR2.mono st2 (fun x => x)
  replace hB1 := hB1.mono st2 (fun x => x)
  replace tot := tot.trans st2.pure
  refine WP.still 1 (by kernel_rfl) ?_
  refine WP.done (by kernel_rfl) ?_
  refine NX.then_n ?_
  refine CP.seq ?_
  refine CP.cut (fun tm g => ∃ (q3 : Bool), Fr 148 [(2, .int .i64 x3), (3, .pointer (some ⟨b1, 0, none⟩)), (4, .pointer (some ⟨b2, 0, none⟩)), (20, .bool q3)] tm ∧ Step (fun l => NoM l ∨ t ≤ l) g0 g ∧ Box g (t + 1) b1 26 [encA .u8 d1, [.int .i64 x1], encA .i64 d2, [.slice a1 n1 c1]] [8, 1, 2, 1] ∧ RdS k_S_baizeref47_Held g 60 a1 n1 c1 l1 ∧ Box g (t + 2) b2 26 [encA .u8 d3, [.int .i64 x2], encA .i64 d4, [.slice a2 n2 c2]] [8, 1, 2, 1] ∧ RdS k_S_baizeref47_Held g 60 a2 n2 c2 l2 ∧ (F.baizelaw47_PurseChecks.c1 d1 x1 d2 l1 d3 x2 d4 l2 x3 q3) = some o1) ?_ ?_
  · refine CP.region ?_
    refine WP.loadB (v := AG [encA .u8 d1, [.int .i64 x1], encA .i64 d2, [.slice a1 n1 c1]]) hB1 (by kernel_rfl) (by kernel_rfl) ?_
    replace hs := Option.bind_eq_some_iff.1 hs
    obtain ⟨q39, hk60, hs⟩ := hs
    have hcal60 := P.baizelaw47_great g2 d1 x1 d2 l1 a1 n1 c1 hR1 q39 hk60
    refine WP.callC hcal60 (by kernel_rfl) ?_
    rintro _ g115 st115 rfl
    replace hB1 := hB1.mono st115 (fun x => x)
    replace hR1 := hR1.mono st115 (fun x => x)
    replace hB2 := hB2.mono st115 (fun x => x)
    replace hR2 := hR2.mono st115 (fun x => x)
    replace tot := tot.trans st115.pure
    refine WP.still 1 (by kernel_rfl) ?_
    refine WP.guard 17 (b := q39) (by kernel_rfl) (fun h55 => ?_) (fun h55 => ?_)
    · replace hs := of_if_t hs h55
      refine WP.still 3 (by kernel_rfl) ?_
      refine WP.done (by kernel_rfl) ?_
      refine NX.post ?_
      exact ⟨true, ⟨by kernel_rfl, by kernel_rfl⟩, tot, hB1, hR1, hB2, hR2, hs⟩
    replace hs := of_if_f hs h55
    refine WP.loadB (v := AG [encA .u8 d3, [.int .i64 x2], encA .i64 d4, [.slice a2 n2 c2]]) hB2 (by kernel_rfl) (by kernel_rfl) ?_
    replace hs := Option.bind_eq_some_iff.1 hs
    obtain ⟨q40, hk61, hs⟩ := hs
    have hcal61 := P.baizelaw47_great g115 d3 x2 d4 l2 a2 n2 c2 hR2 q40 hk61
    refine WP.callC hcal61 (by kernel_rfl) ?_
    rintro _ g116 st116 rfl
    replace hB1 := hB1.mono st116 (fun x => x)
    replace hR1 := hR1.mono st116 (fun x => x)
    replace hB2 := hB2.mono st116 (fun x => x)
    replace hR2 := hR2.mono st116 (fun x => x)
    replace tot := tot.trans st116.pure
    refine WP.still 1 (by kernel_rfl) ?_
    refine WP.done (by kernel_rfl) ?_
    refine NX.post ?_
    exact ⟨q40, ⟨by kernel_rfl, by kernel_rfl⟩, tot, hB1, hR1, hB2, hR2, hs⟩
  clear tot hs hB1 hR1 hB2 hR2
  rintro tm g ⟨q3, hF, tot, hB1, hR1, hB2, hR2, hs⟩
  clear ds
  obtain ⟨ds, rfl⟩ := hF.open
  clear hF
  unfold F.baizelaw47_PurseChecks.c1 at hs
  refine CP.cond (b := q3) (by kernel_rfl) (fun h2 => ?_) (fun h2 => ?_)
  · replace hs := of_if_t hs h2
    refine CP.seqR ?_
    replace hs := Option.bind_eq_some_iff.1 hs
    obtain ⟨q4, hk3, hs⟩ := hs
    have hcal3 := P.baizelaw47_told g q4 hk3
    refine WP.callC hcal3 (by kernel_rfl) ?_
    rintro _ g5 st5 rfl
    replace hB1 := hB1.mono st5 (fun x => x)
    replace hR1 := hR1.mono st5 (fun x => x)
    replace hB2 := hB2.mono st5 (fun x => x)
    replace hR2 := hR2.mono st5 (fun x => x)
    replace tot := tot.trans st5.pure
    refine WP.still 1 (by kernel_rfl) ?_
    refine WP.done (by kernel_rfl) ?_
    refine NX.then_n ?_
    refine CP.ret ?_
    refine NX.then_r ?_
    replace hs := Option.some.inj hs
    obtain rfl := hs
    exact NX.fin (v := .bool q4) (Res.still (by kernel_rfl)) tot htL rfl
  replace hs := of_if_f hs h2
  refine CP.skip ?_
  refine NX.then_n ?_
  refine CP.seqR ?_
  refine WP.loadB (v := AG [encA .u8 d1, [.int .i64 x1], encA .i64 d2, [.slice a1 n1 c1]]) hB1 (by kernel_rfl) (by kernel_rfl) ?_
  replace hs := Option.bind_eq_some_iff.1 hs
  obtain ⟨⟨d5, x4, d6, l3⟩, hk4, hs⟩ := hs
  dsimp only at hs
  have hcal4 := P.baizelaw47_Own g (t + 3) d1 x1 d2 l1 a1 n1 c1 hR1 d5 x4 d6 l3 hk4
  refine WP.callC hcal4 (by kernel_rfl) ?_
  rintro _ g6 st6 ⟨a3, n3, c3, rfl, hR3⟩
  replace hB1 := hB1.mono st6 (fun x => x)
  replace hR1 := hR1.mono st6 (fun x => x)
  replace hB2 := hB2.mono st6 (fun x => x)
  replace hR2 := hR2.mono st6 (fun x => x)
  replace tot := tot.trans st6.pure
  refine WP.alloc (T := 32) (t + 4) [encA .u8 (zA 8), [.int .i64 0], encA .i64 (zA 2), [.slice none 0 0]] [8, 1, 2, 1] (by kernel_rfl) (by simp [len_encA]) ?_
  intro g7 b3 st7 hB3
  replace hB1 := hB1.mono st7 (fun x => x)
  replace hR1 := hR1.mono st7 (fun x => x)
  replace hB2 := hB2.mono st7 (fun x => x)
  replace hR2 := hR2.mono st7 (fun x => x)
  replace hR3 := hR3.mono st7 (fun x => x) (fun x => x)
  replace tot := tot.trans st7.pure
  refine WP.storeB (ty := 32) (off := 0) (v := AG [encA .u8 d5, [.int .i64 x4], encA .i64 d6, [.slice a3 n3 c3]]) hB3 [encA .u8 d5, [.int .i64 x4], encA .i64 d6, [.slice a3 n3 c3]] [8, 1, 2, 1] (by kernel_rfl) (by kernel_rfl) (by simp [len_encA]) (by kernel_rfl) [encA .u8 d5, [.int .i64 x4], encA .i64 d6, [.slice a3 n3 c3]] (by kernel_rfl) (.arr (.one rfl (.arr (.one rfl .nil)))) ?_
  intro g8 st8 hB4
  replace hB1 := hB1.mono st8 (WL.no1 (by omega))
  replace hR1 := hR1.mono st8 (WL.no1 (by omega))
  replace hB2 := hB2.mono st8 (WL.no1 (by omega))
  replace hR2 := hR2.mono st8 (WL.no1 (by omega))
  replace hR3 := hR3.mono st8 (WL.no1 (by omega)) (WL.no1 (by omega))
  replace tot := tot.trans (st8.up1 (.inr (by omega)))
  clear hB3
  have hB3 := hB4
  clear hB4
  refine WP.done (by kernel_rfl) ?_
  refine NX.then_n ?_
  refine CP.seq ?_
  refine CP.cut (fun tm g => ∃ (q7 : Bool), Fr 148 [(3, .pointer (some ⟨b1, 0, none⟩)), (4, .pointer (some ⟨b2, 0, none⟩)), (7, .pointer (some ⟨b3, 0, none⟩)), (54, .bool q7)] tm ∧ Step (fun l => NoM l ∨ t ≤ l) g0 g ∧ Box g (t + 1) b1 26 [encA .u8 d1, [.int .i64 x1], encA .i64 d2, [.slice a1 n1 c1]] [8, 1, 2, 1] ∧ RdS k_S_baizeref47_Held g 60 a1 n1 c1 l1 ∧ Box g (t + 2) b2 26 [encA .u8 d3, [.int .i64 x2], encA .i64 d4, [.slice a2 n2 c2]] [8, 1, 2, 1] ∧ RdS k_S_baizeref47_Held g 60 a2 n2 c2 l2 ∧ Box g (t + 4) b3 32 [encA .u8 d5, [.int .i64 x4], encA .i64 d6, [.slice a3 n3 c3]] [8, 1, 2, 1] ∧ OwnS k_S_purse_Held g (t + 3) 56 a3 n3 c3 l3 ∧ (F.baizelaw47_PurseChecks.c2 d1 x1 d2 l1 l2 d5 x4 d6 l3 q7) = some o1) ?_ ?_
  · replace hs := Option.bind_eq_some_iff.1 hs
    obtain ⟨x44, hk51, hs⟩ := hs
    replace hs := Option.bind_eq_some_iff.1 hs
    obtain ⟨x45, hk52, hs⟩ := hs
    refine bool_split (b := (x44 != x45)) (fun h52 => ?_) (fun h52 => ?_)
    · replace hs := of_if_t hs h52
      refine CP.drawL (by kernel_rfl) [0, 1, 2, 3, 5] N.baizelaw47_PurseChecks_4 [⟨none, [], [], fun l g => Box g (t + 1) b1 26 [encA .u8 d1, [.int .i64 x1], encA .i64 d2, [.slice a1 n1 c1]] [8, 1, 2, 1]⟩, ⟨none, [], [], fun l g => RdS k_S_baizeref47_Held g 60 a1 n1 c1 l1⟩, ⟨none, [], [], fun l g => Box g (t + 4) b3 32 [encA .u8 d5, [.int .i64 x4], encA .i64 d6, [.slice a3 n3 c3]] [8, 1, 2, 1]⟩, ⟨none, [0], [], fun l g => OwnS k_S_purse_Held g (t + 3) 56 a3 n3 c3 l3⟩, ⟨some 0, [], [0], fun l g => l.getD 0 undef = AG [encA .u8 d5, [.int .i64 x4], encA .i64 d6, [.slice a3 n3 c3]]⟩, ⟨some 1, [], [1], fun l g => l.getD 0 undef = .int .i64 x44⟩, ⟨some 1, [0], [], fun l g => OwnS k_S_purse_Held g (t + 3) 56 a3 n3 c3 l3⟩, ⟨some 2, [], [2], fun l g => l.getD 0 undef = AG [encA .u8 d1, [.int .i64 x1], encA .i64 d2, [.slice a1 n1 c1]]⟩, ⟨some 3, [], [3], fun l g => l.getD 0 undef = .int .i64 x45⟩, ⟨some 4, [], [4], fun l g => l.getD 0 undef = .bool true⟩] [[], [0], [], [], []] [(t + 3)] [] [4, 6, 7, 8, 9, 10, 11, 12, 13, 14, 15, 16, 17, 18, 19, 20, 21, 22, 23, 24, 25, 26, 27, 28, 29, 30] (by kernel_rfl) (by simp <;> omega) (by simp) ⟨fun _ _ _ _ st h0 hl hj hB1 => (hB1.mono st (fun h => absurd (hl _ h) (by simp <;> omega))), fun _ _ _ _ st h0 hl hj hR1 => (RdS.mono (e := 60) hR1 st h0), fun _ _ _ _ st h0 hl hj hB3 => (hB3.mono st (fun h => absurd (hl _ h) (by simp <;> omega))), fun _ _ _ _ st h0 hl hj hR3 => (hR3.mono st h0 (hj 0 (by simp) _ rfl)), fun _ _ _ _ st h0 hl hj e0 => e0, fun _ _ _ _ st h0 hl hj e1 => e1, fun _ _ _ _ st h0 hl hj hR3 => (hR3.mono st h0 (hj 0 (by simp) _ rfl)), fun _ _ _ _ st h0 hl hj e2 => e2, fun _ _ _ _ st h0 hl hj e3 => e3, fun _ _ _ _ st h0 hl hj e4 => e4, trivial⟩ ⟨hB1, hR1, hB3, hR3, trivial, trivial, trivial, trivial, trivial, trivial, trivial⟩ (by kernel_rfl) (fun vs => by kernel_rfl) ?_ ?_ ?_
      · intro j hj
        have hq : j = 0 ∨ j = 1 ∨ j = 2 ∨ j = 3 ∨ j = 4 ∨ j = 5 ∨ j = 6 ∨ j = 7 ∨ j = 8 ∨ j = 9 ∨ j = 10 ∨ j = 11 ∨ j = 12 ∨ j = 13 ∨ j = 14 ∨ j = 15 ∨ j = 16 ∨ j = 17 ∨ j = 18 ∨ j = 19 ∨ j = 20 ∨ j = 21 ∨ j = 22 ∨ j = 23 ∨ j = 24 ∨ j = 25 := by have h : j < 26 := hj; omega
        rcases hq with rfl | rfl | rfl | rfl | rfl | rfl | rfl | rfl | rfl | rfl | rfl | rfl | rfl | rfl | rfl | rfl | rfl | rfl | rfl | rfl | rfl | rfl | rfl | rfl | rfl | rfl
        · intro vs gq stq hl hf
          obtain ⟨v0, v1, v2, v3, v4, rfl⟩ := len_k5 hl
          have e1 := (show v1 = .int .i64 x44 from hf _ (List.mem_of_getElem? (i := 5) rfl) (by kernel_rfl))
          subst e1
          have e3 := (show v3 = .int .i64 x45 from hf _ (List.mem_of_getElem? (i := 8) rfl) (by kernel_rfl))
          subst e3
          show Option.isSome _ = true
          kernel_rfl
        · intro vs gq stq hl hf
          obtain ⟨v0, v1, v2, v3, v4, rfl⟩ := len_k5 hl
          have e4 := (show v4 = .bool true from hf _ (List.mem_of_getElem? (i := 9) rfl) (by kernel_rfl))
          subst e4
          show Option.isSome _ = true
          kernel_rfl
        · intro vs gq stq hl hf
          obtain ⟨v0, v1, v2, v3, v4, rfl⟩ := len_k5 hl
          have e4 := (show v4 = .bool true from hf _ (List.mem_of_getElem? (i := 9) rfl) (by kernel_rfl))
          subst e4
          show Option.isSome _ = true
          kernel_rfl
        · intro vs gq stq hl hf
          obtain ⟨v0, v1, v2, v3, v4, rfl⟩ := len_k5 hl
          have e4 := (show v4 = .bool true from hf _ (List.mem_of_getElem? (i := 9) rfl) (by kernel_rfl))
          subst e4
          show Option.isSome _ = true
          kernel_rfl
        · intro vs gq stq hl hf
          obtain ⟨v0, v1, v2, v3, v4, rfl⟩ := len_k5 hl
          have e4 := (show v4 = .bool true from hf _ (List.mem_of_getElem? (i := 9) rfl) (by kernel_rfl))
          subst e4
          show Option.isSome _ = true
          kernel_rfl
        · intro vs gq stq hl hf
          obtain ⟨v0, v1, v2, v3, v4, rfl⟩ := len_k5 hl
          have e4 := (show v4 = .bool true from hf _ (List.mem_of_getElem? (i := 9) rfl) (by kernel_rfl))
          subst e4
          show Option.isSome _ = true
          kernel_rfl
        · intro vs gq stq hl hf
          obtain ⟨v0, v1, v2, v3, v4, rfl⟩ := len_k5 hl
          have e4 := (show v4 = .bool true from hf _ (List.mem_of_getElem? (i := 9) rfl) (by kernel_rfl))
          subst e4
          show Option.isSome _ = true
          kernel_rfl
        · intro vs gq stq hl hf
          obtain ⟨v0, v1, v2, v3, v4, rfl⟩ := len_k5 hl
          have e4 := (show v4 = .bool true from hf _ (List.mem_of_getElem? (i := 9) rfl) (by kernel_rfl))
          subst e4
          show Option.isSome _ = true
          kernel_rfl
        · intro vs gq stq hl hf
          obtain ⟨v0, v1, v2, v3, v4, rfl⟩ := len_k5 hl
          have e4 := (show v4 = .bool true from hf _ (List.mem_of_getElem? (i := 9) rfl) (by kernel_rfl))
          subst e4
          show Option.isSome _ = true
          kernel_rfl
        · intro vs gq stq hl hf
          obtain ⟨v0, v1, v2, v3, v4, rfl⟩ := len_k5 hl
          have e4 := (show v4 = .bool true from hf _ (List.mem_of_getElem? (i := 9) rfl) (by kernel_rfl))
          subst e4
          show Option.isSome _ = true
          kernel_rfl
        · intro vs gq stq hl hf
          obtain ⟨v0, v1, v2, v3, v4, rfl⟩ := len_k5 hl
          have e4 := (show v4 = .bool true from hf _ (List.mem_of_getElem? (i := 9) rfl) (by kernel_rfl))
          subst e4
          show Option.isSome _ = true
          kernel_rfl
        · intro vs gq stq hl hf
          obtain ⟨v0, v1, v2, v3, v4, rfl⟩ := len_k5 hl
          have e4 := (show v4 = .bool true from hf _ (List.mem_of_getElem? (i := 9) rfl) (by kernel_rfl))
          subst e4
          show Option.isSome _ = true
          kernel_rfl
        · intro vs gq stq hl hf
          obtain ⟨v0, v1, v2, v3, v4, rfl⟩ := len_k5 hl
          have e4 := (show v4 = .bool true from hf _ (List.mem_of_getElem? (i := 9) rfl) (by kernel_rfl))
          subst e4
          show Option.isSome _ = true
          kernel_rfl
        · intro vs gq stq hl hf
          obtain ⟨v0, v1, v2, v3, v4, rfl⟩ := len_k5 hl
          have e4 := (show v4 = .bool true from hf _ (List.mem_of_getElem? (i := 9) rfl) (by kernel_rfl))
          subst e4
          show Option.isSome _ = true
          kernel_rfl
        · intro vs gq stq hl hf
          obtain ⟨v0, v1, v2, v3, v4, rfl⟩ := len_k5 hl
          have e4 := (show v4 = .bool true from hf _ (List.mem_of_getElem? (i := 9) rfl) (by kernel_rfl))
          subst e4
          show Option.isSome _ = true
          kernel_rfl
        · intro vs gq stq hl hf
          obtain ⟨v0, v1, v2, v3, v4, rfl⟩ := len_k5 hl
          have e4 := (show v4 = .bool true from hf _ (List.mem_of_getElem? (i := 9) rfl) (by kernel_rfl))
          subst e4
          show Option.isSome _ = true
          kernel_rfl
        · intro vs gq stq hl hf
          obtain ⟨v0, v1, v2, v3, v4, rfl⟩ := len_k5 hl
          have e4 := (show v4 = .bool true from hf _ (List.mem_of_getElem? (i := 9) rfl) (by kernel_rfl))
          subst e4
          show Option.isSome _ = true
          kernel_rfl
        · intro vs gq stq hl hf
          obtain ⟨v0, v1, v2, v3, v4, rfl⟩ := len_k5 hl
          have e4 := (show v4 = .bool true from hf _ (List.mem_of_getElem? (i := 9) rfl) (by kernel_rfl))
          subst e4
          show Option.isSome _ = true
          kernel_rfl
        · intro vs gq stq hl hf
          obtain ⟨v0, v1, v2, v3, v4, rfl⟩ := len_k5 hl
          have e4 := (show v4 = .bool true from hf _ (List.mem_of_getElem? (i := 9) rfl) (by kernel_rfl))
          subst e4
          show Option.isSome _ = true
          kernel_rfl
        · intro vs gq stq hl hf
          obtain ⟨v0, v1, v2, v3, v4, rfl⟩ := len_k5 hl
          have e4 := (show v4 = .bool true from hf _ (List.mem_of_getElem? (i := 9) rfl) (by kernel_rfl))
          subst e4
          show Option.isSome _ = true
          kernel_rfl
        · intro vs gq stq hl hf
          obtain ⟨v0, v1, v2, v3, v4, rfl⟩ := len_k5 hl
          have e4 := (show v4 = .bool true from hf _ (List.mem_of_getElem? (i := 9) rfl) (by kernel_rfl))
          subst e4
          show Option.isSome _ = true
          kernel_rfl
        · intro vs gq stq hl hf
          obtain ⟨v0, v1, v2, v3, v4, rfl⟩ := len_k5 hl
          have e4 := (show v4 = .bool true from hf _ (List.mem_of_getElem? (i := 9) rfl) (by kernel_rfl))
          subst e4
          show Option.isSome _ = true
          kernel_rfl
        · intro vs gq stq hl hf
          obtain ⟨v0, v1, v2, v3, v4, rfl⟩ := len_k5 hl
          have e4 := (show v4 = .bool true from hf _ (List.mem_of_getElem? (i := 9) rfl) (by kernel_rfl))
          subst e4
          show Option.isSome _ = true
          kernel_rfl
        · intro vs gq stq hl hf
          obtain ⟨v0, v1, v2, v3, v4, rfl⟩ := len_k5 hl
          have e4 := (show v4 = .bool true from hf _ (List.mem_of_getElem? (i := 9) rfl) (by kernel_rfl))
          subst e4
          show Option.isSome _ = true
          kernel_rfl
        · intro vs gq stq hl hf
          obtain ⟨v0, v1, v2, v3, v4, rfl⟩ := len_k5 hl
          have e4 := (show v4 = .bool true from hf _ (List.mem_of_getElem? (i := 9) rfl) (by kernel_rfl))
          subst e4
          show Option.isSome _ = true
          kernel_rfl
        · intro vs gq stq hl hf
          obtain ⟨v0, v1, v2, v3, v4, rfl⟩ := len_k5 hl
          have e4 := (show v4 = .bool true from hf _ (List.mem_of_getElem? (i := 9) rfl) (by kernel_rfl))
          subst e4
          show Option.isSome _ = true
          kernel_rfl
      · intro j hj
        have hq : j = 0 ∨ j = 1 ∨ j = 2 ∨ j = 3 ∨ j = 4 := by have h : j < 5 := hj; omega
        rcases hq with rfl | rfl | rfl | rfl | rfl
        · intro vs gq stq hl hf
          obtain ⟨v0, v1, v2, v3, v4, rfl⟩ := len_k5 hl
          have hB3 := (show Box gq (t + 4) b3 32 [encA .u8 d5, [.int .i64 x4], encA .i64 d6, [.slice a3 n3 c3]] [8, 1, 2, 1] from hf _ (List.mem_of_getElem? (i := 2) rfl) (by kernel_rfl))
          refine WP.loadB (v := AG [encA .u8 d5, [.int .i64 x4], encA .i64 d6, [.slice a3 n3 c3]]) hB3 (by kernel_rfl) (by kernel_rfl) ?_
          refine WP.done (by kernel_rfl) (Shown.ok (v := AG [encA .u8 d5, [.int .i64 x4], encA .i64 d6, [.slice a3 n3 c3]]) (by kernel_rfl) (Step.refl _ _) ?_)
          exact ⟨trivial, trivial, trivial, trivial, rfl, trivial, trivial, trivial, trivial, trivial, trivial⟩
        · intro vs gq stq hl hf
          obtain ⟨v0, v1, v2, v3, v4, rfl⟩ := len_k5 hl
          have hR3 := (show OwnS k_S_purse_Held gq (t + 3) 56 a3 n3 c3 l3 from hf _ (List.mem_of_getElem? (i := 3) rfl) (by kernel_rfl))
          have e0 := (show v0 = AG [encA .u8 d5, [.int .i64 x4], encA .i64 d6, [.slice a3 n3 c3]] from hf _ (List.mem_of_getElem? (i := 4) rfl) (by kernel_rfl))
          subst e0
          have hS13 : 0 ∉ ([(t + 3)] : List Nat) := by simp <;> omega
          have stl13 := GW.lend_step gq [(t + 3)]
          have hRl18 := hR3.lendTo hS13 (by simp)
          refine WP.regw (g' := GW.lend gq [(t + 3)]) rfl ?_
          have hcal51 := P.purse_Purse_Check (GW.lend gq [(t + 3)]) d5 x4 d6 l3 a3 n3 c3 hRl18 x44 hk51
          refine WP.callC hcal51 (by kernel_rfl) ?_
          rintro _ g98 st98 rfl
          have st99 := (GW.back_step st98).lentS
          have hO18 := hR3.backTo hS13 (by simp) st98 (fun x => x)
          refine WP.regw (g' := GW.back gq g98 [(t + 3)]) rfl ?_
          generalize GW.back gq g98 [(t + 3)] = g99 at *
          refine WP.done (by kernel_rfl) (Shown.ok (v := .int .i64 x44) (by kernel_rfl) st99 ?_)
          exact ⟨trivial, trivial, trivial, trivial, trivial, rfl, hO18, trivial, trivial, trivial, trivial⟩
        · intro vs gq stq hl hf
          obtain ⟨v0, v1, v2, v3, v4, rfl⟩ := len_k5 hl
          have hB1 := (show Box gq (t + 1) b1 26 [encA .u8 d1, [.int .i64 x1], encA .i64 d2, [.slice a1 n1 c1]] [8, 1, 2, 1] from hf _ (List.mem_of_getElem? (i := 0) rfl) (by kernel_rfl))
          refine WP.loadB (v := AG [encA .u8 d1, [.int .i64 x1], encA .i64 d2, [.slice a1 n1 c1]]) hB1 (by kernel_rfl) (by kernel_rfl) ?_
          refine WP.done (by kernel_rfl) (Shown.ok (v := AG [encA .u8 d1, [.int .i64 x1], encA .i64 d2, [.slice a1 n1 c1]]) (by kernel_rfl) (Step.refl _ _) ?_)
          exact ⟨trivial, trivial, trivial, trivial, trivial, trivial, trivial, rfl, trivial, trivial, trivial⟩
        · intro vs gq stq hl hf
          obtain ⟨v0, v1, v2, v3, v4, rfl⟩ := len_k5 hl
          have hR1 := (show RdS k_S_baizeref47_Held gq 60 a1 n1 c1 l1 from hf _ (List.mem_of_getElem? (i := 1) rfl) (by kernel_rfl))
          have e2 := (show v2 = AG [encA .u8 d1, [.int .i64 x1], encA .i64 d2, [.slice a1 n1 c1]] from hf _ (List.mem_of_getElem? (i := 7) rfl) (by kernel_rfl))
          subst e2
          have hcal52 := P.baizeref47_Check gq d1 x1 d2 l1 a1 n1 c1 hR1 x45 hk52
          refine WP.callC hcal52 (by kernel_rfl) ?_
          rintro _ g100 st100 rfl
          refine WP.done (by kernel_rfl) (Shown.ok (v := .int .i64 x45) (by kernel_rfl) st100.pure ?_)
          exact ⟨trivial, trivial, trivial, trivial, trivial, trivial, trivial, trivial, rfl, trivial, trivial⟩
        · intro vs gq stq hl hf
          obtain ⟨v0, v1, v2, v3, v4, rfl⟩ := len_k5 hl
          have e1 := (show v1 = .int .i64 x44 from hf _ (List.mem_of_getElem? (i := 5) rfl) (by kernel_rfl))
          subst e1
          have e3 := (show v3 = .int .i64 x45 from hf _ (List.mem_of_getElem? (i := 8) rfl) (by kernel_rfl))
          subst e3
          refine WP.still 1 (by kernel_rfl) ?_
          refine WP.done (by kernel_rfl) (Shown.ok (v := .bool (x44 != x45)) (by kernel_rfl) (Step.refl _ _) ?_)
          exact ⟨trivial, trivial, trivial, trivial, trivial, trivial, trivial, trivial, trivial, congrArg Value.bool h52, trivial⟩
      intro vs g101 st101 hl hf
      obtain ⟨v0, v1, v2, v3, v4, rfl⟩ := len_k5 hl
      have hR3 := (show OwnS k_S_purse_Held g101 (t + 3) 56 a3 n3 c3 l3 from hf _ (List.mem_of_getElem? (i := 6) rfl) (by kernel_rfl))
      have e4 := (show v4 = .bool true from hf _ (List.mem_of_getElem? (i := 9) rfl) (by kernel_rfl))
      subst e4
      replace hB1 := hB1.mono st101 (WL.no1 (by omega))
      replace hR1 := hR1.mono st101 (WL.no1 (by omega))
      replace hB2 := hB2.mono st101 (WL.no1 (by omega))
      replace hR2 := hR2.mono st101 (WL.no1 (by omega))
      replace hB3 := hB3.mono st101 (WL.no1 (by omega))
      replace tot := tot.trans (st101.up1 (.inr (by omega)))
      refine NX.post ?_
      exact ⟨true, ⟨by kernel_rfl, by kernel_rfl⟩, tot, hB1, hR1, hB2, hR2, hB3, hR3, hs⟩
    replace hs := of_if_f hs h52
    replace hs := Option.bind_eq_some_iff.1 hs
    obtain ⟨x46, hk53, hs⟩ := hs
    replace hs := Option.bind_eq_some_iff.1 hs
    obtain ⟨x47, hk54, hs⟩ := hs
    refine bool_split (b := (x46 != x47)) (fun h53 => ?_) (fun h53 => ?_)
    · replace hs := of_if_t hs h53
      refine CP.drawL (by kernel_rfl) [0, 1, 2, 3, 5, 6, 7, 8, 9, 12] N.baizelaw47_PurseChecks_4 [⟨none, [], [], fun l g => Box g (t + 1) b1 26 [encA .u8 d1, [.int .i64 x1], encA .i64 d2, [.slice a1 n1 c1]] [8, 1, 2, 1]⟩, ⟨none, [], [], fun l g => RdS k_S_baizeref47_Held g 60 a1 n1 c1 l1⟩, ⟨none, [], [], fun l g => Box g (t + 4) b3 32 [encA .u8 d5, [.int .i64 x4], encA .i64 d6, [.slice a3 n3 c3]] [8, 1, 2, 1]⟩, ⟨none, [0], [], fun l g => OwnS k_S_purse_Held g (t + 3) 56 a3 n3 c3 l3⟩, ⟨some 0, [], [0], fun l g => l.getD 0 undef = AG [encA .u8 d5, [.int .i64 x4], encA .i64 d6, [.slice a3 n3 c3]]⟩, ⟨some 1, [], [1], fun l g => l.getD 0 undef = .int .i64 x44⟩, ⟨some 1, [0], [], fun l g => OwnS k_S_purse_Held g (t + 3) 56 a3 n3 c3 l3⟩, ⟨some 2, [], [2], fun l g => l.getD 0 undef = AG [encA .u8 d1, [.int .i64 x1], encA .i64 d2, [.slice a1 n1 c1]]⟩, ⟨some 3, [], [3], fun l g => l.getD 0 undef = .int .i64 x45⟩, ⟨some 4, [], [4], fun l g => l.getD 0 undef = .bool false⟩, ⟨some 5, [], [5], fun l g => l.getD 0 undef = AG [encA .u8 d5, [.int .i64 x4], encA .i64 d6, [.slice a3 n3 c3]]⟩, ⟨some 6, [], [6], fun l g => l.getD 0 undef = .int .i64 x46⟩, ⟨some 6, [0], [], fun l g => OwnS k_S_purse_Held g (t + 3) 56 a3 n3 c3 l3⟩, ⟨some 7, [], [7], fun l g => l.getD 0 undef = AG [encA .u8 d1, [.int .i64 x1], encA .i64 d2, [.slice a1 n1 c1]]⟩, ⟨some 8, [], [8], fun l g => l.getD 0 undef = .int .i64 x47⟩, ⟨some 9, [], [9], fun l g => l.getD 0 undef = .bool true⟩] [[], [0], [], [], [], [], [0], [], [], []] [(t + 3)] [] [4, 10, 11, 13, 14, 15, 16, 17, 18, 19, 20, 21, 22, 23, 24, 25, 26, 27, 28, 29, 30] (by kernel_rfl) (by simp <;> omega) (by simp) ⟨fun _ _ _ _ st h0 hl hj hB1 => (hB1.mono st (fun h => absurd (hl _ h) (by simp <;> omega))), fun _ _ _ _ st h0 hl hj hR1 => (RdS.mono (e := 60) hR1 st h0), fun _ _ _ _ st h0 hl hj hB3 => (hB3.mono st (fun h => absurd (hl _ h) (by simp <;> omega))), fun _ _ _ _ st h0 hl hj hR3 => (hR3.mono st h0 (hj 0 (by simp) _ rfl)), fun _ _ _ _ st h0 hl hj e0 => e0, fun _ _ _ _ st h0 hl hj e1 => e1, fun _ _ _ _ st h0 hl hj hR3 => (hR3.mono st h0 (hj 0 (by simp) _ rfl)), fun _ _ _ _ st h0 hl hj e2 => e2, fun _ _ _ _ st h0 hl hj e3 => e3, fun _ _ _ _ st h0 hl hj e4 => e4, fun _ _ _ _ st h0 hl hj e5 => e5, fun _ _ _ _ st h0 hl hj e6 => e6, fun _ _ _ _ st h0 hl hj hR3 => (hR3.mono st h0 (hj 0 (by simp) _ rfl)), fun _ _ _ _ st h0 hl hj e7 => e7, fun _ _ _ _ st h0 hl hj e8 => e8, fun _ _ _ _ st h0 hl hj e9 => e9, trivial⟩ ⟨hB1, hR1, hB3, hR3, trivial, trivial, trivial, trivial, trivial, trivial, trivial, trivial, trivial, trivial, trivial, trivial, trivial⟩ (by kernel_rfl) (fun vs => by kernel_rfl) ?_ ?_ ?_
      · intro j hj
        have hq : j = 0 ∨ j = 1 ∨ j = 2 ∨ j = 3 ∨ j = 4 ∨ j = 5 ∨ j = 6 ∨ j = 7 ∨ j = 8 ∨ j = 9 ∨ j = 10 ∨ j = 11 ∨ j = 12 ∨ j = 13 ∨ j = 14 ∨ j = 15 ∨ j = 16 ∨ j = 17 ∨ j = 18 ∨ j = 19 ∨ j = 20 := by have h : j < 21 := hj; omega
        rcases hq with rfl | rfl | rfl | rfl | rfl | rfl | rfl | rfl | rfl | rfl | rfl | rfl | rfl | rfl | rfl | rfl | rfl | rfl | rfl | rfl | rfl
        · intro vs gq stq hl hf
          obtain ⟨v0, v1, v2, v3, v4, v5, v6, v7, v8, v9, rfl⟩ := len_k10 hl
          have e1 := (show v1 = .int .i64 x44 from hf _ (List.mem_of_getElem? (i := 5) rfl) (by kernel_rfl))
          subst e1
          have e3 := (show v3 = .int .i64 x45 from hf _ (List.mem_of_getElem? (i := 8) rfl) (by kernel_rfl))
          subst e3
          show Option.isSome _ = true
          kernel_rfl
        · intro vs gq stq hl hf
          obtain ⟨v0, v1, v2, v3, v4, v5, v6, v7, v8, v9, rfl⟩ := len_k10 hl
          have e4 := (show v4 = .bool false from hf _ (List.mem_of_getElem? (i := 9) rfl) (by kernel_rfl))
          subst e4
          have e6 := (show v6 = .int .i64 x46 from hf _ (List.mem_of_getElem? (i := 11) rfl) (by kernel_rfl))
          subst e6
          have e8 := (show v8 = .int .i64 x47 from hf _ (List.mem_of_getElem? (i := 14) rfl) (by kernel_rfl))
          subst e8
          show Option.isSome _ = true
          kernel_rfl
        · intro vs gq stq hl hf
          obtain ⟨v0, v1, v2, v3, v4, v5, v6, v7, v8, v9, rfl⟩ := len_k10 hl
          have e4 := (show v4 = .bool false from hf _ (List.mem_of_getElem? (i := 9) rfl) (by kernel_rfl))
          subst e4
          have e6 := (show v6 = .int .i64 x46 from hf _ (List.mem_of_getElem? (i := 11) rfl) (by kernel_rfl))
          subst e6
          have e8 := (show v8 = .int .i64 x47 from hf _ (List.mem_of_getElem? (i := 14) rfl) (by kernel_rfl))
          subst e8
          show Option.isSome _ = true
          kernel_rfl
        · intro vs gq stq hl hf
          obtain ⟨v0, v1, v2, v3, v4, v5, v6, v7, v8, v9, rfl⟩ := len_k10 hl
          have e9 := (show v9 = .bool true from hf _ (List.mem_of_getElem? (i := 15) rfl) (by kernel_rfl))
          subst e9
          show Option.isSome _ = true
          kernel_rfl
        · intro vs gq stq hl hf
          obtain ⟨v0, v1, v2, v3, v4, v5, v6, v7, v8, v9, rfl⟩ := len_k10 hl
          have e9 := (show v9 = .bool true from hf _ (List.mem_of_getElem? (i := 15) rfl) (by kernel_rfl))
          subst e9
          show Option.isSome _ = true
          kernel_rfl
        · intro vs gq stq hl hf
          obtain ⟨v0, v1, v2, v3, v4, v5, v6, v7, v8, v9, rfl⟩ := len_k10 hl
          have e9 := (show v9 = .bool true from hf _ (List.mem_of_getElem? (i := 15) rfl) (by kernel_rfl))
          subst e9
          show Option.isSome _ = true
          kernel_rfl
        · intro vs gq stq hl hf
          obtain ⟨v0, v1, v2, v3, v4, v5, v6, v7, v8, v9, rfl⟩ := len_k10 hl
          have e9 := (show v9 = .bool true from hf _ (List.mem_of_getElem? (i := 15) rfl) (by kernel_rfl))
          subst e9
          show Option.isSome _ = true
          kernel_rfl
        · intro vs gq stq hl hf
          obtain ⟨v0, v1, v2, v3, v4, v5, v6, v7, v8, v9, rfl⟩ := len_k10 hl
          have e9 := (show v9 = .bool true from hf _ (List.mem_of_getElem? (i := 15) rfl) (by kernel_rfl))
          subst e9
          show Option.isSome _ = true
          kernel_rfl
        · intro vs gq stq hl hf
          obtain ⟨v0, v1, v2, v3, v4, v5, v6, v7, v8, v9, rfl⟩ := len_k10 hl
          have e9 := (show v9 = .bool true from hf _ (List.mem_of_getElem? (i := 15) rfl) (by kernel_rfl))
          subst e9
          show Option.isSome _ = true
          kernel_rfl
        · intro vs gq stq hl hf
          obtain ⟨v0, v1, v2, v3, v4, v5, v6, v7, v8, v9, rfl⟩ := len_k10 hl
          have e9 := (show v9 = .bool true from hf _ (List.mem_of_getElem? (i := 15) rfl) (by kernel_rfl))
          subst e9
          show Option.isSome _ = true
          kernel_rfl
        · intro vs gq stq hl hf
          obtain ⟨v0, v1, v2, v3, v4, v5, v6, v7, v8, v9, rfl⟩ := len_k10 hl
          have e9 := (show v9 = .bool true from hf _ (List.mem_of_getElem? (i := 15) rfl) (by kernel_rfl))
          subst e9
          show Option.isSome _ = true
          kernel_rfl
        · intro vs gq stq hl hf
          obtain ⟨v0, v1, v2, v3, v4, v5, v6, v7, v8, v9, rfl⟩ := len_k10 hl
          have e9 := (show v9 = .bool true from hf _ (List.mem_of_getElem? (i := 15) rfl) (by kernel_rfl))
          subst e9
          show Option.isSome _ = true
          kernel_rfl
        · intro vs gq stq hl hf
          obtain ⟨v0, v1, v2, v3, v4, v5, v6, v7, v8, v9, rfl⟩ := len_k10 hl
          have e9 := (show v9 = .bool true from hf _ (List.mem_of_getElem? (i := 15) rfl) (by kernel_rfl))
          subst e9
          show Option.isSome _ = true
          kernel_rfl
        · intro vs gq stq hl hf
          obtain ⟨v0, v1, v2, v3, v4, v5, v6, v7, v8, v9, rfl⟩ := len_k10 hl
          have e9 := (show v9 = .bool true from hf _ (List.mem_of_getElem? (i := 15) rfl) (by kernel_rfl))
          subst e9
          show Option.isSome _ = true
          kernel_rfl
        · intro vs gq stq hl hf
          obtain ⟨v0, v1, v2, v3, v4, v5, v6, v7, v8, v9, rfl⟩ := len_k10 hl
          have e9 := (show v9 = .bool true from hf _ (List.mem_of_getElem? (i := 15) rfl) (by kernel_rfl))
          subst e9
          show Option.isSome _ = true
          kernel_rfl
        · intro vs gq stq hl hf
          obtain ⟨v0, v1, v2, v3, v4, v5, v6, v7, v8, v9, rfl⟩ := len_k10 hl
          have e9 := (show v9 = .bool true from hf _ (List.mem_of_getElem? (i := 15) rfl) (by kernel_rfl))
          subst e9
          show Option.isSome _ = true
          kernel_rfl
        · intro vs gq stq hl hf
          obtain ⟨v0, v1, v2, v3, v4, v5, v6, v7, v8, v9, rfl⟩ := len_k10 hl
          have e9 := (show v9 = .bool true from hf _ (List.mem_of_getElem? (i := 15) rfl) (by kernel_rfl))
          subst e9
          show Option.isSome _ = true
          kernel_rfl
        · intro vs gq stq hl hf
          obtain ⟨v0, v1, v2, v3, v4, v5, v6, v7, v8, v9, rfl⟩ := len_k10 hl
          have e9 := (show v9 = .bool true from hf _ (List.mem_of_getElem? (i := 15) rfl) (by kernel_rfl))
          subst e9
          show Option.isSome _ = true
          kernel_rfl
        · intro vs gq stq hl hf
          obtain ⟨v0, v1, v2, v3, v4, v5, v6, v7, v8, v9, rfl⟩ := len_k10 hl
          have e9 := (show v9 = .bool true from hf _ (List.mem_of_getElem? (i := 15) rfl) (by kernel_rfl))
          subst e9
          show Option.isSome _ = true
          kernel_rfl
        · intro vs gq stq hl hf
          obtain ⟨v0, v1, v2, v3, v4, v5, v6, v7, v8, v9, rfl⟩ := len_k10 hl
          have e9 := (show v9 = .bool true from hf _ (List.mem_of_getElem? (i := 15) rfl) (by kernel_rfl))
          subst e9
          show Option.isSome _ = true
          kernel_rfl
        · intro vs gq stq hl hf
          obtain ⟨v0, v1, v2, v3, v4, v5, v6, v7, v8, v9, rfl⟩ := len_k10 hl
          have e9 := (show v9 = .bool true from hf _ (List.mem_of_getElem? (i := 15) rfl) (by kernel_rfl))
          subst e9
          show Option.isSome _ = true
          kernel_rfl
      · intro j hj
        have hq : j = 0 ∨ j = 1 ∨ j = 2 ∨ j = 3 ∨ j = 4 ∨ j = 5 ∨ j = 6 ∨ j = 7 ∨ j = 8 ∨ j = 9 := by have h : j < 10 := hj; omega
        rcases hq with rfl | rfl | rfl | rfl | rfl | rfl | rfl | rfl | rfl | rfl
        · intro vs gq stq hl hf
          obtain ⟨v0, v1, v2, v3, v4, v5, v6, v7, v8, v9, rfl⟩ := len_k10 hl
          have hB3 := (show Box gq (t + 4) b3 32 [encA .u8 d5, [.int .i64 x4], encA .i64 d6, [.slice a3 n3 c3]] [8, 1, 2, 1] from hf _ (List.mem_of_getElem? (i := 2) rfl) (by kernel_rfl))
          refine WP.loadB (v := AG [encA .u8 d5, [.int .i64 x4], encA .i64 d6, [.slice a3 n3 c3]]) hB3 (by kernel_rfl) (by kernel_rfl) ?_
          refine WP.done (by kernel_rfl) (Shown.ok (v := AG [encA .u8 d5, [.int .i64 x4], encA .i64 d6, [.slice a3 n3 c3]]) (by kernel_rfl) (Step.refl _ _) ?_)
          exact ⟨trivial, trivial, trivial, trivial, rfl, trivial, trivial, trivial, trivial, trivial, trivial, trivial, trivial, trivial, trivial, trivial, trivial⟩
        · intro vs gq stq hl hf
          obtain ⟨v0, v1, v2, v3, v4, v5, v6, v7, v8, v9, rfl⟩ := len_k10 hl
          have hR3 := (show OwnS k_S_purse_Held gq (t + 3) 56 a3 n3 c3 l3 from hf _ (List.mem_of_getElem? (i := 3) rfl) (by kernel_rfl))
          have e0 := (show v0 = AG [encA .u8 d5, [.int .i64 x4], encA .i64 d6, [.slice a3 n3 c3]] from hf _ (List.mem_of_getElem? (i := 4) rfl) (by kernel_rfl))
          subst e0
          have hS13 : 0 ∉ ([(t + 3)] : List Nat) := by simp <;> omega
          have stl13 := GW.lend_step gq [(t + 3)]
          have hRl18 := hR3.lendTo hS13 (by simp)
          refine WP.regw (g' := GW.lend gq [(t + 3)]) rfl ?_
          have hcal51 := P.purse_Purse_Check (GW.lend gq [(t + 3)]) d5 x4 d6 l3 a3 n3 c3 hRl18 x44 hk51
          refine WP.callC hcal51 (by kernel_rfl) ?_
          rintro _ g98 st98 rfl
          have st99 := (GW.back_step st98).lentS
          have hO18 := hR3.backTo hS13 (by simp) st98 (fun x => x)
          refine WP.regw (g' := GW.back gq g98 [(t + 3)]) rfl ?_
          generalize GW.back gq g98 [(t + 3)] = g99 at *
          refine WP.done (by kernel_rfl) (Shown.ok (v := .int .i64 x44) (by kernel_rfl) st99 ?_)
          exact ⟨trivial, trivial, trivial, trivial, trivial, rfl, hO18, trivial, trivial, trivial, trivial, trivial, trivial, trivial, trivial, trivial, trivial⟩
        · intro vs gq stq hl hf
          obtain ⟨v0, v1, v2, v3, v4, v5, v6, v7, v8, v9, rfl⟩ := len_k10 hl
          have hB1 := (show Box gq (t + 1) b1 26 [encA .u8 d1, [.int .i64 x1], encA .i64 d2, [.slice a1 n1 c1]] [8, 1, 2, 1] from hf _ (List.mem_of_getElem? (i := 0) rfl) (by kernel_rfl))
          refine WP.loadB (v := AG [encA .u8 d1, [.int .i64 x1], encA .i64 d2, [.slice a1 n1 c1]]) hB1 (by kernel_rfl) (by kernel_rfl) ?_
          refine WP.done (by kernel_rfl) (Shown.ok (v := AG [encA .u8 d1, [.int .i64 x1], encA .i64 d2, [.slice a1 n1 c1]]) (by kernel_rfl) (Step.refl _ _) ?_)
          exact ⟨trivial, trivial, trivial, trivial, trivial, trivial, trivial, rfl, trivial, trivial, trivial, trivial, trivial, trivial, trivial, trivial, trivial⟩
        · intro vs gq stq hl hf
          obtain ⟨v0, v1, v2, v3, v4, v5, v6, v7, v8, v9, rfl⟩ := len_k10 hl
          have hR1 := (show RdS k_S_baizeref47_Held gq 60 a1 n1 c1 l1 from hf _ (List.mem_of_getElem? (i := 1) rfl) (by kernel_rfl))
          have e2 := (show v2 = AG [encA .u8 d1, [.int .i64 x1], encA .i64 d2, [.slice a1 n1 c1]] from hf _ (List.mem_of_getElem? (i := 7) rfl) (by kernel_rfl))
          subst e2
          have hcal52 := P.baizeref47_Check gq d1 x1 d2 l1 a1 n1 c1 hR1 x45 hk52
          refine WP.callC hcal52 (by kernel_rfl) ?_
          rintro _ g100 st100 rfl
          refine WP.done (by kernel_rfl) (Shown.ok (v := .int .i64 x45) (by kernel_rfl) st100.pure ?_)
          exact ⟨trivial, trivial, trivial, trivial, trivial, trivial, trivial, trivial, rfl, trivial, trivial, trivial, trivial, trivial, trivial, trivial, trivial⟩
        · intro vs gq stq hl hf
          obtain ⟨v0, v1, v2, v3, v4, v5, v6, v7, v8, v9, rfl⟩ := len_k10 hl
          have e1 := (show v1 = .int .i64 x44 from hf _ (List.mem_of_getElem? (i := 5) rfl) (by kernel_rfl))
          subst e1
          have e3 := (show v3 = .int .i64 x45 from hf _ (List.mem_of_getElem? (i := 8) rfl) (by kernel_rfl))
          subst e3
          refine WP.still 1 (by kernel_rfl) ?_
          refine WP.done (by kernel_rfl) (Shown.ok (v := .bool (x44 != x45)) (by kernel_rfl) (Step.refl _ _) ?_)
          exact ⟨trivial, trivial, trivial, trivial, trivial, trivial, trivial, trivial, trivial, congrArg Value.bool h52, trivial, trivial, trivial, trivial, trivial, trivial, trivial⟩
        · intro vs gq stq hl hf
          obtain ⟨v0, v1, v2, v3, v4, v5, v6, v7, v8, v9, rfl⟩ := len_k10 hl
          have hB3 := (show Box gq (t + 4) b3 32 [encA .u8 d5, [.int .i64 x4], encA .i64 d6, [.slice a3 n3 c3]] [8, 1, 2, 1] from hf _ (List.mem_of_getElem? (i := 2) rfl) (by kernel_rfl))
          have e4 := (show v4 = .bool false from hf _ (List.mem_of_getElem? (i := 9) rfl) (by kernel_rfl))
          subst e4
          refine WP.loadB (v := AG [encA .u8 d5, [.int .i64 x4], encA .i64 d6, [.slice a3 n3 c3]]) hB3 (by kernel_rfl) (by kernel_rfl) ?_
          refine WP.done (by kernel_rfl) (Shown.ok (v := AG [encA .u8 d5, [.int .i64 x4], encA .i64 d6, [.slice a3 n3 c3]]) (by kernel_rfl) (Step.refl _ _) ?_)
          exact ⟨trivial, trivial, trivial, trivial, trivial, trivial, trivial, trivial, trivial, trivial, rfl, trivial, trivial, trivial, trivial, trivial, trivial⟩
        · intro vs gq stq hl hf
          obtain ⟨v0, v1, v2, v3, v4, v5, v6, v7, v8, v9, rfl⟩ := len_k10 hl
          have hR3 := (show OwnS k_S_purse_Held gq (t + 3) 56 a3 n3 c3 l3 from hf _ (List.mem_of_getElem? (i := 6) rfl) (by kernel_rfl))
          have e4 := (show v4 = .bool false from hf _ (List.mem_of_getElem? (i := 9) rfl) (by kernel_rfl))
          subst e4
          have e5 := (show v5 = AG [encA .u8 d5, [.int .i64 x4], encA .i64 d6, [.slice a3 n3 c3]] from hf _ (List.mem_of_getElem? (i := 10) rfl) (by kernel_rfl))
          subst e5
          have hS14 : 0 ∉ ([(t + 3)] : List Nat) := by simp <;> omega
          have stl14 := GW.lend_step gq [(t + 3)]
          have hRl19 := hR3.lendTo hS14 (by simp)
          refine WP.regw (g' := GW.lend gq [(t + 3)]) rfl ?_
          have hcal53 := P.purse_Purse_Total (GW.lend gq [(t + 3)]) d5 x4 d6 l3 a3 n3 c3 hRl19 x46 hk53
          refine WP.callC hcal53 (by kernel_rfl) ?_
          rintro _ g102 st102 rfl
          have st103 := (GW.back_step st102).lentS
          have hO19 := hR3.backTo hS14 (by simp) st102 (fun x => x)
          refine WP.regw (g' := GW.back gq g102 [(t + 3)]) rfl ?_
          generalize GW.back gq g102 [(t + 3)] = g103 at *
          refine WP.done (by kernel_rfl) (Shown.ok (v := .int .i64 x46) (by kernel_rfl) st103 ?_)
          exact ⟨trivial, trivial, trivial, trivial, trivial, trivial, trivial, trivial, trivial, trivial, trivial, rfl, hO19, trivial, trivial, trivial, trivial⟩
        · intro vs gq stq hl hf
          obtain ⟨v0, v1, v2, v3, v4, v5, v6, v7, v8, v9, rfl⟩ := len_k10 hl
          have hB1 := (show Box gq (t + 1) b1 26 [encA .u8 d1, [.int .i64 x1], encA .i64 d2, [.slice a1 n1 c1]] [8, 1, 2, 1] from hf _ (List.mem_of_getElem? (i := 0) rfl) (by kernel_rfl))
          have e4 := (show v4 = .bool false from hf _ (List.mem_of_getElem? (i := 9) rfl) (by kernel_rfl))
          subst e4
          refine WP.loadB (v := AG [encA .u8 d1, [.int .i64 x1], encA .i64 d2, [.slice a1 n1 c1]]) hB1 (by kernel_rfl) (by kernel_rfl) ?_
          refine WP.done (by kernel_rfl) (Shown.ok (v := AG [encA .u8 d1, [.int .i64 x1], encA .i64 d2, [.slice a1 n1 c1]]) (by kernel_rfl) (Step.refl _ _) ?_)
          exact ⟨trivial, trivial, trivial, trivial, trivial, trivial, trivial, trivial, trivial, trivial, trivial, trivial, trivial, rfl, trivial, trivial, trivial⟩
        · intro vs gq stq hl hf
          obtain ⟨v0, v1, v2, v3, v4, v5, v6, v7, v8, v9, rfl⟩ := len_k10 hl
          have hR1 := (show RdS k_S_baizeref47_Held gq 60 a1 n1 c1 l1 from hf _ (List.mem_of_getElem? (i := 1) rfl) (by kernel_rfl))
          have e4 := (show v4 = .bool false from hf _ (List.mem_of_getElem? (i := 9) rfl) (by kernel_rfl))
          subst e4
          have e7 := (show v7 = AG [encA .u8 d1, [.int .i64 x1], encA .i64 d2, [.slice a1 n1 c1]] from hf _ (List.mem_of_getElem? (i := 13) rfl) (by kernel_rfl))
          subst e7
          have hcal54 := P.baizeref47_Total gq d1 x1 d2 l1 a1 n1 c1 hR1 x47 hk54
          refine WP.callC hcal54 (by kernel_rfl) ?_
          rintro _ g104 st104 rfl
          refine WP.done (by kernel_rfl) (Shown.ok (v := .int .i64 x47) (by kernel_rfl) st104.pure ?_)
          exact ⟨trivial, trivial, trivial, trivial, trivial, trivial, trivial, trivial, trivial, trivial, trivial, trivial, trivial, trivial, rfl, trivial, trivial⟩
        · intro vs gq stq hl hf
          obtain ⟨v0, v1, v2, v3, v4, v5, v6, v7, v8, v9, rfl⟩ := len_k10 hl
          have e4 := (show v4 = .bool false from hf _ (List.mem_of_getElem? (i := 9) rfl) (by kernel_rfl))
          subst e4
          have e6 := (show v6 = .int .i64 x46 from hf _ (List.mem_of_getElem? (i := 11) rfl) (by kernel_rfl))
          subst e6
          have e8 := (show v8 = .int .i64 x47 from hf _ (List.mem_of_getElem? (i := 14) rfl) (by kernel_rfl))
          subst e8
          refine WP.still 1 (by kernel_rfl) ?_
          refine WP.done (by kernel_rfl) (Shown.ok (v := .bool (x46 != x47)) (by kernel_rfl) (Step.refl _ _) ?_)
          exact ⟨trivial, trivial, trivial, trivial, trivial, trivial, trivial, trivial, trivial, trivial, trivial, trivial, trivial, trivial, trivial, congrArg Value.bool h53, trivial⟩
      intro vs g105 st105 hl hf
      obtain ⟨v0, v1, v2, v3, v4, v5, v6, v7, v8, v9, rfl⟩ := len_k10 hl
      have hR3 := (show OwnS k_S_purse_Held g105 (t + 3) 56 a3 n3 c3 l3 from hf _ (List.mem_of_getElem? (i := 12) rfl) (by kernel_rfl))
      have e9 := (show v9 = .bool true from hf _ (List.mem_of_getElem? (i := 15) rfl) (by kernel_rfl))
      subst e9
      replace hB1 := hB1.mono st105 (WL.no1 (by omega))
      replace hR1 := hR1.mono st105 (WL.no1 (by omega))
      replace hB2 := hB2.mono st105 (WL.no1 (by omega))
      replace hR2 := hR2.mono st105 (WL.no1 (by omega))
      replace hB3 := hB3.mono st105 (WL.no1 (by omega))
      replace tot := tot.trans (st105.up1 (.inr (by omega)))
      refine NX.post ?_
      exact ⟨true, ⟨by kernel_rfl, by kernel_rfl⟩, tot, hB1, hR1, hB2, hR2, hB3, hR3, hs⟩
    replace hs := of_if_f hs h53
    replace hs := Option.bind_eq_some_iff.1 hs
    obtain ⟨d37, hk55, hs⟩ := hs
    replace hs := Option.bind_eq_some_iff.1 hs
    obtain ⟨d38, hk56, hs⟩ := hs
    refine bool_split (b := (!(d37.1 == d38.1))) (fun h54 => ?_) (fun h54 => ?_)
    · replace hs := of_if_t hs h54
      refine CP.drawL (by kernel_rfl) [0, 1, 2, 3, 5, 6, 7, 8, 9, 12, 13, 15, 16, 18, 19, 21] N.baizelaw47_PurseChecks_4 [⟨none, [], [], fun l g => Box g (t + 1) b1 26 [encA .u8 d1, [.int .i64 x1], encA .i64 d2, [.slice a1 n1 c1]] [8, 1, 2, 1]⟩, ⟨none, [], [], fun l g => RdS k_S_baizeref47_Held g 60 a1 n1 c1 l1⟩, ⟨none, [], [], fun l g => Box g (t + 4) b3 32 [encA .u8 d5, [.int .i64 x4], encA .i64 d6, [.slice a3 n3 c3]] [8, 1, 2, 1]⟩, ⟨none, [0], [], fun l g => OwnS k_S_purse_Held g (t + 3) 56 a3 n3 c3 l3⟩, ⟨some 0, [], [0], fun l g => l.getD 0 undef = AG [encA .u8 d5, [.int .i64 x4], encA .i64 d6, [.slice a3 n3 c3]]⟩, ⟨some 1, [], [1], fun l g => l.getD 0 undef = .int .i64 x44⟩, ⟨some 1, [0], [], fun l g => OwnS k_S_purse_Held g (t + 3) 56 a3 n3 c3 l3⟩, ⟨some 2, [], [2], fun l g => l.getD 0 undef = AG [encA .u8 d1, [.int .i64 x1], encA .i64 d2, [.slice a1 n1 c1]]⟩, ⟨some 3, [], [3], fun l g => l.getD 0 undef = .int .i64 x45⟩, ⟨some 4, [], [4], fun l g => l.getD 0 undef = .bool false⟩, ⟨some 5, [], [5], fun l g => l.getD 0 undef = AG [encA .u8 d5, [.int .i64 x4], encA .i64 d6, [.slice a3 n3 c3]]⟩, ⟨some 6, [], [6], fun l g => l.getD 0 undef = .int .i64 x46⟩, ⟨some 6, [0], [], fun l g => OwnS k_S_purse_Held g (t + 3) 56 a3 n3 c3 l3⟩, ⟨some 7, [], [7], fun l g => l.getD 0 undef = AG [encA .u8 d1, [.int .i64 x1], encA .i64 d2, [.slice a1 n1 c1]]⟩, ⟨some 8, [], [8], fun l g => l.getD 0 undef = .int .i64 x47⟩, ⟨some 9, [], [9], fun l g => l.getD 0 undef = .bool false⟩, ⟨some 10, [], [10], fun l g => l.getD 0 undef = AG [encA .u8 d5, [.int .i64 x4], encA .i64 d6, [.slice a3 n3 c3]]⟩, ⟨some 11, [], [11], fun l g => l.getD 0 undef = AG [encA .i64 d37]⟩, ⟨some 11, [0], [], fun l g => OwnS k_S_purse_Held g (t + 3) 56 a3 n3 c3 l3⟩, ⟨some 12, [], [12], fun l g => l.getD 0 undef = AG [encA .u8 d1, [.int .i64 x1], encA .i64 d2, [.slice a1 n1 c1]]⟩, ⟨some 13, [], [13], fun l g => l.getD 0 undef = AG [encA .i64 d38]⟩, ⟨some 14, [], [14], fun l g => l.getD 0 undef = .bool (!(d37.1 == d38.1))⟩, ⟨some 15, [], [15], fun l g => l.getD 0 undef = .bool true⟩] [[], [0], [], [], [], [], [0], [], [], [], [], [0], [], [], [], []] [(t + 3)] [] [4, 10, 11, 14, 17, 20, 22, 23, 24, 25, 26, 27, 28, 29, 30] (by kernel_rfl) (by simp <;> omega) (by simp) ⟨fun _ _ _ _ st h0 hl hj hB1 => (hB1.mono st (fun h => absurd (hl _ h) (by simp <;> omega))), fun _ _ _ _ st h0 hl hj hR1 => (RdS.mono (e := 60) hR1 st h0), fun _ _ _ _ st h0 hl hj hB3 => (hB3.mono st (fun h => absurd (hl _ h) (by simp <;> omega))), fun _ _ _ _ st h0 hl hj hR3 => (hR3.mono st h0 (hj 0 (by simp) _ rfl)), fun _ _ _ _ st h0 hl hj e0 => e0, fun _ _ _ _ st h0 hl hj e1 => e1, fun _ _ _ _ st h0 hl hj hR3 => (hR3.mono st h0 (hj 0 (by simp) _ rfl)), fun _ _ _ _ st h0 hl hj e2 => e2, fun _ _ _ _ st h0 hl hj e3 => e3, fun _ _ _ _ st h0 hl hj e4 => e4, fun _ _ _ _ st h0 hl hj e5 => e5, fun _ _ _ _ st h0 hl hj e6 => e6, fun _ _ _ _ st h0 hl hj hR3 => (hR3.mono st h0 (hj 0 (by simp) _ rfl)), fun _ _ _ _ st h0 hl hj e7 => e7, fun _ _ _ _ st h0 hl hj e8 => e8, fun _ _ _ _ st h0 hl hj e9 => e9, fun _ _ _ _ st h0 hl hj e10 => e10, fun _ _ _ _ st h0 hl hj e11 => e11, fun _ _ _ _ st h0 hl hj hR3 => (hR3.mono st h0 (hj 0 (by simp) _ rfl)), fun _ _ _ _ st h0 hl hj e12 => e12, fun _ _ _ _ st h0 hl hj e13 => e13, fun _ _ _ _ st h0 hl hj e14 => e14, fun _ _ _ _ st h0 hl hj e15 => e15, trivial⟩ ⟨hB1, hR1, hB3, hR3, trivial, trivial, trivial, trivial, trivial, trivial, trivial, trivial, trivial, trivial, trivial, trivial, trivial, trivial, trivial, trivial, trivial, trivial, trivial, trivial⟩ (by kernel_rfl) (fun vs => by kernel_rfl) ?_ ?_ ?_
      · intro j hj
        have hq : j = 0 ∨ j = 1 ∨ j = 2 ∨ j = 3 ∨ j = 4 ∨ j = 5 ∨ j = 6 ∨ j = 7 ∨ j = 8 ∨ j = 9 ∨ j = 10 ∨ j = 11 ∨ j = 12 ∨ j = 13 ∨ j = 14 := by have h : j < 15 := hj; omega
        rcases hq with rfl | rfl | rfl | rfl | rfl | rfl | rfl | rfl | rfl | rfl | rfl | rfl | rfl | rfl | rfl
        · intro vs gq stq hl hf
          obtain ⟨v0, v1, v2, v3, v4, v5, v6, v7, v8, v9, v10, v11, v12, v13, v14, v15, rfl⟩ := len_k16 hl
          have e1 := (show v1 = .int .i64 x44 from hf _ (List.mem_of_getElem? (i := 5) rfl) (by kernel_rfl))
          subst e1
          have e3 := (show v3 = .int .i64 x45 from hf _ (List.mem_of_getElem? (i := 8) rfl) (by kernel_rfl))
          subst e3
          show Option.isSome _ = true
          kernel_rfl
        · intro vs gq stq hl hf
          obtain ⟨v0, v1, v2, v3, v4, v5, v6, v7, v8, v9, v10, v11, v12, v13, v14, v15, rfl⟩ := len_k16 hl
          have e4 := (show v4 = .bool false from hf _ (List.mem_of_getElem? (i := 9) rfl) (by kernel_rfl))
          subst e4
          have e6 := (show v6 = .int .i64 x46 from hf _ (List.mem_of_getElem? (i := 11) rfl) (by kernel_rfl))
          subst e6
          have e8 := (show v8 = .int .i64 x47 from hf _ (List.mem_of_getElem? (i := 14) rfl) (by kernel_rfl))
          subst e8
          show Option.isSome _ = true
          kernel_rfl
        · intro vs gq stq hl hf
          obtain ⟨v0, v1, v2, v3, v4, v5, v6, v7, v8, v9, v10, v11, v12, v13, v14, v15, rfl⟩ := len_k16 hl
          have e4 := (show v4 = .bool false from hf _ (List.mem_of_getElem? (i := 9) rfl) (by kernel_rfl))
          subst e4
          have e6 := (show v6 = .int .i64 x46 from hf _ (List.mem_of_getElem? (i := 11) rfl) (by kernel_rfl))
          subst e6
          have e8 := (show v8 = .int .i64 x47 from hf _ (List.mem_of_getElem? (i := 14) rfl) (by kernel_rfl))
          subst e8
          show Option.isSome _ = true
          kernel_rfl
        · intro vs gq stq hl hf
          obtain ⟨v0, v1, v2, v3, v4, v5, v6, v7, v8, v9, v10, v11, v12, v13, v14, v15, rfl⟩ := len_k16 hl
          have e9 := (show v9 = .bool false from hf _ (List.mem_of_getElem? (i := 15) rfl) (by kernel_rfl))
          subst e9
          show Option.isSome _ = true
          kernel_rfl
        · intro vs gq stq hl hf
          obtain ⟨v0, v1, v2, v3, v4, v5, v6, v7, v8, v9, v10, v11, v12, v13, v14, v15, rfl⟩ := len_k16 hl
          have e9 := (show v9 = .bool false from hf _ (List.mem_of_getElem? (i := 15) rfl) (by kernel_rfl))
          subst e9
          show Option.isSome _ = true
          kernel_rfl
        · intro vs gq stq hl hf
          obtain ⟨v0, v1, v2, v3, v4, v5, v6, v7, v8, v9, v10, v11, v12, v13, v14, v15, rfl⟩ := len_k16 hl
          have e9 := (show v9 = .bool false from hf _ (List.mem_of_getElem? (i := 15) rfl) (by kernel_rfl))
          subst e9
          have e14 := (show v14 = .bool (!(d37.1 == d38.1)) from hf _ (List.mem_of_getElem? (i := 21) rfl) (by kernel_rfl))
          subst e14
          show Option.isSome _ = true
          kernel_rfl
        · intro vs gq stq hl hf
          obtain ⟨v0, v1, v2, v3, v4, v5, v6, v7, v8, v9, v10, v11, v12, v13, v14, v15, rfl⟩ := len_k16 hl
          have e15 := (show v15 = .bool true from hf _ (List.mem_of_getElem? (i := 22) rfl) (by kernel_rfl))
          subst e15
          show Option.isSome _ = true
          kernel_rfl
        · intro vs gq stq hl hf
          obtain ⟨v0, v1, v2, v3, v4, v5, v6, v7, v8, v9, v10, v11, v12, v13, v14, v15, rfl⟩ := len_k16 hl
          have e15 := (show v15 = .bool true from hf _ (List.mem_of_getElem? (i := 22) rfl) (by kernel_rfl))
          subst e15
          show Option.isSome _ = true
          kernel_rfl
        · intro vs gq stq hl hf
          obtain ⟨v0, v1, v2, v3, v4, v5, v6, v7, v8, v9, v10, v11, v12, v13, v14, v15, rfl⟩ := len_k16 hl
          have e15 := (show v15 = .bool true from hf _ (List.mem_of_getElem? (i := 22) rfl) (by kernel_rfl))
          subst e15
          show Option.isSome _ = true
          kernel_rfl
        · intro vs gq stq hl hf
          obtain ⟨v0, v1, v2, v3, v4, v5, v6, v7, v8, v9, v10, v11, v12, v13, v14, v15, rfl⟩ := len_k16 hl
          have e15 := (show v15 = .bool true from hf _ (List.mem_of_getElem? (i := 22) rfl) (by kernel_rfl))
          subst e15
          show Option.isSome _ = true
          kernel_rfl
        · intro vs gq stq hl hf
          obtain ⟨v0, v1, v2, v3, v4, v5, v6, v7, v8, v9, v10, v11, v12, v13, v14, v15, rfl⟩ := len_k16 hl
          have e15 := (show v15 = .bool true from hf _ (List.mem_of_getElem? (i := 22) rfl) (by kernel_rfl))
          subst e15
          show Option.isSome _ = true
          kernel_rfl
        · intro vs gq stq hl hf
          obtain ⟨v0, v1, v2, v3, v4, v5, v6, v7, v8, v9, v10, v11, v12, v13, v14, v15, rfl⟩ := len_k16 hl
          have e15 := (show v15 = .bool true from hf _ (List.mem_of_getElem? (i := 22) rfl) (by kernel_rfl))
          subst e15
          show Option.isSome _ = true
          kernel_rfl
        · intro vs gq stq hl hf
          obtain ⟨v0, v1, v2, v3, v4, v5, v6, v7, v8, v9, v10, v11, v12, v13, v14, v15, rfl⟩ := len_k16 hl
          have e15 := (show v15 = .bool true from hf _ (List.mem_of_getElem? (i := 22) rfl) (by kernel_rfl))
          subst e15
          show Option.isSome _ = true
          kernel_rfl
        · intro vs gq stq hl hf
          obtain ⟨v0, v1, v2, v3, v4, v5, v6, v7, v8, v9, v10, v11, v12, v13, v14, v15, rfl⟩ := len_k16 hl
          have e15 := (show v15 = .bool true from hf _ (List.mem_of_getElem? (i := 22) rfl) (by kernel_rfl))
          subst e15
          show Option.isSome _ = true
          kernel_rfl
        · intro vs gq stq hl hf
          obtain ⟨v0, v1, v2, v3, v4, v5, v6, v7, v8, v9, v10, v11, v12, v13, v14, v15, rfl⟩ := len_k16 hl
          have e15 := (show v15 = .bool true from hf _ (List.mem_of_getElem? (i := 22) rfl) (by kernel_rfl))
          subst e15
          show Option.isSome _ = true
          kernel_rfl
      · intro j hj
        have hq : j = 0 ∨ j = 1 ∨ j = 2 ∨ j = 3 ∨ j = 4 ∨ j = 5 ∨ j = 6 ∨ j = 7 ∨ j = 8 ∨ j = 9 ∨ j = 10 ∨ j = 11 ∨ j = 12 ∨ j = 13 ∨ j = 14 ∨ j = 15 := by have h : j < 16 := hj; omega
        rcases hq with rfl | rfl | rfl | rfl | rfl | rfl | rfl | rfl | rfl | rfl | rfl | rfl | rfl | rfl | rfl | rfl
        · intro vs gq stq hl hf
          obtain ⟨v0, v1, v2, v3, v4, v5, v6, v7, v8, v9, v10, v11, v12, v13, v14, v15, rfl⟩ := len_k16 hl
          have hB3 := (show Box gq (t + 4) b3 32 [encA .u8 d5, [.int .i64 x4], encA .i64 d6, [.slice a3 n3 c3]] [8, 1, 2, 1] from hf _ (List.mem_of_getElem? (i := 2) rfl) (by kernel_rfl))
          refine WP.loadB (v := AG [encA .u8 d5, [.int .i64 x4], encA .i64 d6, [.slice a3 n3 c3]]) hB3 (by kernel_rfl) (by kernel_rfl) ?_
          refine WP.done (by kernel_rfl) (Shown.ok (v := AG [encA .u8 d5, [.int .i64 x4], encA .i64 d6, [.slice a3 n3 c3]]) (by kernel_rfl) (Step.refl _ _) ?_)
          exact ⟨trivial, trivial, trivial, trivial, rfl, trivial, trivial, trivial, trivial, trivial, trivial, trivial, trivial, trivial, trivial, trivial, trivial, trivial, trivial, trivial, trivial, trivial, trivial, trivial⟩
        · intro vs gq stq hl hf
          obtain ⟨v0, v1, v2, v3, v4, v5, v6, v7, v8, v9, v10, v11, v12, v13, v14, v15, rfl⟩ := len_k16 hl
          have hR3 := (show OwnS k_S_purse_Held gq (t + 3) 56 a3 n3 c3 l3 from hf _ (List.mem_of_getElem? (i := 3) rfl) (by kernel_rfl))
          have e0 := (show v0 = AG [encA .u8 d5, [.int .i64 x4], encA .i64 d6, [.slice a3 n3 c3]] from hf _ (List.mem_of_getElem? (i := 4) rfl) (by kernel_rfl))
          subst e0
          have hS13 : 0 ∉ ([(t + 3)] : List Nat) := by simp <;> omega
          have stl13 := GW.lend_step gq [(t + 3)]
          have hRl18 := hR3.lendTo hS13 (by simp)
          refine WP.regw (g' := GW.lend gq [(t + 3)]) rfl ?_
          have hcal51 := P.purse_Purse_Check (GW.lend gq [(t + 3)]) d5 x4 d6 l3 a3 n3 c3 hRl18 x44 hk51
          refine WP.callC hcal51 (by kernel_rfl) ?_
          rintro _ g98 st98 rfl
          have st99 := (GW.back_step st98).lentS
          have hO18 := hR3.backTo hS13 (by simp) st98 (fun x => x)
          refine WP.regw (g' := GW.back gq g98 [(t + 3)]) rfl ?_
          generalize GW.back gq g98 [(t + 3)] = g99 at *
          refine WP.done (by kernel_rfl) (Shown.ok (v := .int .i64 x44) (by kernel_rfl) st99 ?_)
          exact ⟨trivial, trivial, trivial, trivial, trivial, rfl, hO18, trivial, trivial, trivial, trivial, trivial, trivial, trivial, trivial, trivial, trivial, trivial, trivial, trivial, trivial, trivial, trivial, trivial⟩
        · intro vs gq stq hl hf
          obtain ⟨v0, v1, v2, v3, v4, v5, v6, v7, v8, v9, v10, v11, v12, v13, v14, v15, rfl⟩ := len_k16 hl
          have hB1 := (show Box gq (t + 1) b1 26 [encA .u8 d1, [.int .i64 x1], encA .i64 d2, [.slice a1 n1 c1]] [8, 1, 2, 1] from hf _ (List.mem_of_getElem? (i := 0) rfl) (by kernel_rfl))
          refine WP.loadB (v := AG [encA .u8 d1, [.int .i64 x1], encA .i64 d2, [.slice a1 n1 c1]]) hB1 (by kernel_rfl) (by kernel_rfl) ?_
          refine WP.done (by kernel_rfl) (Shown.ok (v := AG [encA .u8 d1, [.int .i64 x1], encA .i64 d2, [.slice a1 n1 c1]]) (by kernel_rfl) (Step.refl _ _) ?_)
          exact ⟨trivial, trivial, trivial, trivial, trivial, trivial, trivial, rfl, trivial, trivial, trivial, trivial, trivial, trivial, trivial, trivial, trivial, trivial, trivial, trivial, trivial, trivial, trivial, trivial⟩
        · intro vs gq stq hl hf
          obtain ⟨v0, v1, v2, v3, v4, v5, v6, v7, v8, v9, v10, v11, v12, v13, v14, v15, rfl⟩ := len_k16 hl
          have hR1 := (show RdS k_S_baizeref47_Held gq 60 a1 n1 c1 l1 from hf _ (List.mem_of_getElem? (i := 1) rfl) (by kernel_rfl))
          have e2 := (show v2 = AG [encA .u8 d1, [.int .i64 x1], encA .i64 d2, [.slice a1 n1 c1]] from hf _ (List.mem_of_getElem? (i := 7) rfl) (by kernel_rfl))
          subst e2
          have hcal52 := P.baizeref47_Check gq d1 x1 d2 l1 a1 n1 c1 hR1 x45 hk52
          refine WP.callC hcal52 (by kernel_rfl) ?_
          rintro _ g100 st100 rfl
          refine WP.done (by kernel_rfl) (Shown.ok (v := .int .i64 x45) (by kernel_rfl) st100.pure ?_)
          exact ⟨trivial, trivial, trivial, trivial, trivial, trivial, trivial, trivial, rfl, trivial, trivial, trivial, trivial, trivial, trivial, trivial, trivial, trivial, trivial, trivial, trivial, trivial, trivial, trivial⟩
        · intro vs gq stq hl hf
          obtain ⟨v0, v1, v2, v3, v4, v5, v6, v7, v8, v9, v10, v11, v12, v13, v14, v15, rfl⟩ := len_k16 hl
          have e1 := (show v1 = .int .i64 x44 from hf _ (List.mem_of_getElem? (i := 5) rfl) (by kernel_rfl))
          subst e1
          have e3 := (show v3 = .int .i64 x45 from hf _ (List.mem_of_getElem? (i := 8) rfl) (by kernel_rfl))
          subst e3
          refine WP.still 1 (by kernel_rfl) ?_
          refine WP.done (by kernel_rfl) (Shown.ok (v := .bool (x44 != x45)) (by kernel_rfl) (Step.refl _ _) ?_)
          exact ⟨trivial, trivial, trivial, trivial, trivial, trivial, trivial, trivial, trivial, congrArg Value.bool h52, trivial, trivial, trivial, trivial, trivial, trivial, trivial, trivial, trivial, trivial, trivial, trivial, trivial, trivial⟩
        · intro vs gq stq hl hf
          obtain ⟨v0, v1, v2, v3, v4, v5, v6, v7, v8, v9, v10, v11, v12, v13, v14, v15, rfl⟩ := len_k16 hl
          have hB3 := (show Box gq (t + 4) b3 32 [encA .u8 d5, [.int .i64 x4], encA .i64 d6, [.slice a3 n3 c3]] [8, 1, 2, 1] from hf _ (List.mem_of_getElem? (i := 2) rfl) (by kernel_rfl))
          have e4 := (show v4 = .bool false from hf _ (List.mem_of_getElem? (i := 9) rfl) (by kernel_rfl))
          subst e4
          refine WP.loadB (v := AG [encA .u8 d5, [.int .i64 x4], encA .i64 d6, [.slice a3 n3 c3]]) hB3 (by kernel_rfl) (by kernel_rfl) ?_
          refine WP.done (by kernel_rfl) (Shown.ok (v := AG [encA .u8 d5, [.int .i64 x4], encA .i64 d6, [.slice a3 n3 c3]]) (by kernel_rfl) (Step.refl _ _) ?_)
          exact ⟨trivial, trivial, trivial, trivial, trivial, trivial, trivial, trivial, trivial, trivial, rfl, trivial, trivial, trivial, trivial, trivial, trivial, trivial, trivial, trivial, trivial, trivial, trivial, trivial⟩
        · intro vs gq stq hl hf
          obtain ⟨v0, v1, v2, v3, v4, v5, v6, v7, v8, v9, v10, v11, v12, v13, v14, v15, rfl⟩ := len_k16 hl
          have hR3 := (show OwnS k_S_purse_Held gq (t + 3) 56 a3 n3 c3 l3 from hf _ (List.mem_of_getElem? (i := 6) rfl) (by kernel_rfl))
          have e4 := (show v4 = .bool false from hf _ (List.mem_of_getElem? (i := 9) rfl) (by kernel_rfl))
          subst e4
          have e5 := (show v5 = AG [encA .u8 d5, [.int .i64 x4], encA .i64 d6, [.slice a3 n3 c3]] from hf _ (List.mem_of_getElem? (i := 10) rfl) (by kernel_rfl))
          subst e5
          have hS14 : 0 ∉ ([(t + 3)] : List Nat) := by simp <;> omega
          have stl14 := GW.lend_step gq [(t + 3)]
          have hRl19 := hR3.lendTo hS14 (by simp)
          refine WP.regw (g' := GW.lend gq [(t + 3)]) rfl ?_
          have hcal53 := P.purse_Purse_Total (GW.lend gq [(t + 3)]) d5 x4 d6 l3 a3 n3 c3 hRl19 x46 hk53
          refine WP.callC hcal53 (by kernel_rfl) ?_
          rintro _ g102 st102 rfl
          have st103 := (GW.back_step st102).lentS
          have hO19 := hR3.backTo hS14 (by simp) st102 (fun x => x)
          refine WP.regw (g' := GW.back gq g102 [(t + 3)]) rfl ?_
          generalize GW.back gq g102 [(t + 3)] = g103 at *
          refine WP.done (by kernel_rfl) (Shown.ok (v := .int .i64 x46) (by kernel_rfl) st103 ?_)
          exact ⟨trivial, trivial, trivial, trivial, trivial, trivial, trivial, trivial, trivial, trivial, trivial, rfl, hO19, trivial, trivial, trivial, trivial, trivial, trivial, trivial, trivial, trivial, trivial, trivial⟩
        · intro vs gq stq hl hf
          obtain ⟨v0, v1, v2, v3, v4, v5, v6, v7, v8, v9, v10, v11, v12, v13, v14, v15, rfl⟩ := len_k16 hl
          have hB1 := (show Box gq (t + 1) b1 26 [encA .u8 d1, [.int .i64 x1], encA .i64 d2, [.slice a1 n1 c1]] [8, 1, 2, 1] from hf _ (List.mem_of_getElem? (i := 0) rfl) (by kernel_rfl))
          have e4 := (show v4 = .bool false from hf _ (List.mem_of_getElem? (i := 9) rfl) (by kernel_rfl))
          subst e4
          refine WP.loadB (v := AG [encA .u8 d1, [.int .i64 x1], encA .i64 d2, [.slice a1 n1 c1]]) hB1 (by kernel_rfl) (by kernel_rfl) ?_
          refine WP.done (by kernel_rfl) (Shown.ok (v := AG [encA .u8 d1, [.int .i64 x1], encA .i64 d2, [.slice a1 n1 c1]]) (by kernel_rfl) (Step.refl _ _) ?_)
          exact ⟨trivial, trivial, trivial, trivial, trivial, trivial, trivial, trivial, trivial, trivial, trivial, trivial, trivial, rfl, trivial, trivial, trivial, trivial, trivial, trivial, trivial, trivial, trivial, trivial⟩
        · intro vs gq stq hl hf
          obtain ⟨v0, v1, v2, v3, v4, v5, v6, v7, v8, v9, v10, v11, v12, v13, v14, v15, rfl⟩ := len_k16 hl
          have hR1 := (show RdS k_S_baizeref47_Held gq 60 a1 n1 c1 l1 from hf _ (List.mem_of_getElem? (i := 1) rfl) (by kernel_rfl))
          have e4 := (show v4 = .bool false from hf _ (List.mem_of_getElem? (i := 9) rfl) (by kernel_rfl))
          subst e4
          have e7 := (show v7 = AG [encA .u8 d1, [.int .i64 x1], encA .i64 d2, [.slice a1 n1 c1]] from hf _ (List.mem_of_getElem? (i := 13) rfl) (by kernel_rfl))
          subst e7
          have hcal54 := P.baizeref47_Total gq d1 x1 d2 l1 a1 n1 c1 hR1 x47 hk54
          refine WP.callC hcal54 (by kernel_rfl) ?_
          rintro _ g104 st104 rfl
          refine WP.done (by kernel_rfl) (Shown.ok (v := .int .i64 x47) (by kernel_rfl) st104.pure ?_)
          exact ⟨trivial, trivial, trivial, trivial, trivial, trivial, trivial, trivial, trivial, trivial, trivial, trivial, trivial, trivial, rfl, trivial, trivial, trivial, trivial, trivial, trivial, trivial, trivial, trivial⟩
        · intro vs gq stq hl hf
          obtain ⟨v0, v1, v2, v3, v4, v5, v6, v7, v8, v9, v10, v11, v12, v13, v14, v15, rfl⟩ := len_k16 hl
          have e4 := (show v4 = .bool false from hf _ (List.mem_of_getElem? (i := 9) rfl) (by kernel_rfl))
          subst e4
          have e6 := (show v6 = .int .i64 x46 from hf _ (List.mem_of_getElem? (i := 11) rfl) (by kernel_rfl))
          subst e6
          have e8 := (show v8 = .int .i64 x47 from hf _ (List.mem_of_getElem? (i := 14) rfl) (by kernel_rfl))
          subst e8
          refine WP.still 1 (by kernel_rfl) ?_
          refine WP.done (by kernel_rfl) (Shown.ok (v := .bool (x46 != x47)) (by kernel_rfl) (Step.refl _ _) ?_)
          exact ⟨trivial, trivial, trivial, trivial, trivial, trivial, trivial, trivial, trivial, trivial, trivial, trivial, trivial, trivial, trivial, congrArg Value.bool h53, trivial, trivial, trivial, trivial, trivial, trivial, trivial, trivial⟩
        · intro vs gq stq hl hf
          obtain ⟨v0, v1, v2, v3, v4, v5, v6, v7, v8, v9, v10, v11, v12, v13, v14, v15, rfl⟩ := len_k16 hl
          have hB3 := (show Box gq (t + 4) b3 32 [encA .u8 d5, [.int .i64 x4], encA .i64 d6, [.slice a3 n3 c3]] [8, 1, 2, 1] from hf _ (List.mem_of_getElem? (i := 2) rfl) (by kernel_rfl))
          have e9 := (show v9 = .bool false from hf _ (List.mem_of_getElem? (i := 15) rfl) (by kernel_rfl))
          subst e9
          refine WP.loadB (v := AG [encA .u8 d5, [.int .i64 x4], encA .i64 d6, [.slice a3 n3 c3]]) hB3 (by kernel_rfl) (by kernel_rfl) ?_
          refine WP.done (by kernel_rfl) (Shown.ok (v := AG [encA .u8 d5, [.int .i64 x4], encA .i64 d6, [.slice a3 n3 c3]]) (by kernel_rfl) (Step.refl _ _) ?_)
          exact ⟨trivial, trivial, trivial, trivial, trivial, trivial, trivial, trivial, trivial, trivial, trivial, trivial, trivial, trivial, trivial, trivial, rfl, trivial, trivial, trivial, trivial, trivial, trivial, trivial⟩
        · intro vs gq stq hl hf
          obtain ⟨v0, v1, v2, v3, v4, v5, v6, v7, v8, v9, v10, v11, v12, v13, v14, v15, rfl⟩ := len_k16 hl
          have hR3 := (show OwnS k_S_purse_Held gq (t + 3) 56 a3 n3 c3 l3 from hf _ (List.mem_of_getElem? (i := 12) rfl) (by kernel_rfl))
          have e9 := (show v9 = .bool false from hf _ (List.mem_of_getElem? (i := 15) rfl) (by kernel_rfl))
          subst e9
          have e10 := (show v10 = AG [encA .u8 d5, [.int .i64 x4], encA .i64 d6, [.slice a3 n3 c3]] from hf _ (List.mem_of_getElem? (i := 16) rfl) (by kernel_rfl))
          subst e10
          have hS15 : 0 ∉ ([(t + 3)] : List Nat) := by simp <;> omega
          have stl15 := GW.lend_step gq [(t + 3)]
          have hRl20 := hR3.lendTo hS15 (by simp)
          refine WP.regw (g' := GW.lend gq [(t + 3)]) rfl ?_
          have hcal55 := P.purse_Purse_Pays (GW.lend gq [(t + 3)]) d5 x4 d6 l3 x3 a3 n3 c3 hRl20 d37 hk55
          refine WP.callC hcal55 (by kernel_rfl) ?_
          rintro _ g106 st106 rfl
          have st107 := (GW.back_step st106).lentS
          have hO20 := hR3.backTo hS15 (by simp) st106 (fun x => x)
          refine WP.regw (g' := GW.back gq g106 [(t + 3)]) rfl ?_
          generalize GW.back gq g106 [(t + 3)] = g107 at *
          refine WP.done (by kernel_rfl) (Shown.ok (v := AG [encA .i64 d37]) (by kernel_rfl) st107 ?_)
          exact ⟨trivial, trivial, trivial, trivial, trivial, trivial, trivial, trivial, trivial, trivial, trivial, trivial, trivial, trivial, trivial, trivial, trivial, rfl, hO20, trivial, trivial, trivial, trivial, trivial⟩
        · intro vs gq stq hl hf
          obtain ⟨v0, v1, v2, v3, v4, v5, v6, v7, v8, v9, v10, v11, v12, v13, v14, v15, rfl⟩ := len_k16 hl
          have hB1 := (show Box gq (t + 1) b1 26 [encA .u8 d1, [.int .i64 x1], encA .i64 d2, [.slice a1 n1 c1]] [8, 1, 2, 1] from hf _ (List.mem_of_getElem? (i := 0) rfl) (by kernel_rfl))
          have e9 := (show v9 = .bool false from hf _ (List.mem_of_getElem? (i := 15) rfl) (by kernel_rfl))
          subst e9
          refine WP.loadB (v := AG [encA .u8 d1, [.int .i64 x1], encA .i64 d2, [.slice a1 n1 c1]]) hB1 (by kernel_rfl) (by kernel_rfl) ?_
          refine WP.done (by kernel_rfl) (Shown.ok (v := AG [encA .u8 d1, [.int .i64 x1], encA .i64 d2, [.slice a1 n1 c1]]) (by kernel_rfl) (Step.refl _ _) ?_)
          exact ⟨trivial, trivial, trivial, trivial, trivial, trivial, trivial, trivial, trivial, trivial, trivial, trivial, trivial, trivial, trivial, trivial, trivial, trivial, trivial, rfl, trivial, trivial, trivial, trivial⟩
        · intro vs gq stq hl hf
          obtain ⟨v0, v1, v2, v3, v4, v5, v6, v7, v8, v9, v10, v11, v12, v13, v14, v15, rfl⟩ := len_k16 hl
          have hR1 := (show RdS k_S_baizeref47_Held gq 60 a1 n1 c1 l1 from hf _ (List.mem_of_getElem? (i := 1) rfl) (by kernel_rfl))
          have e9 := (show v9 = .bool false from hf _ (List.mem_of_getElem? (i := 15) rfl) (by kernel_rfl))
          subst e9
          have e12 := (show v12 = AG [encA .u8 d1, [.int .i64 x1], encA .i64 d2, [.slice a1 n1 c1]] from hf _ (List.mem_of_getElem? (i := 19) rfl) (by kernel_rfl))
          subst e12
          have hcal56 := P.baizeref47_Pays gq d1 x1 d2 l1 x3 a1 n1 c1 hR1 d38 hk56
          refine WP.callC hcal56 (by kernel_rfl) ?_
          rintro _ g108 st108 rfl
          refine WP.done (by kernel_rfl) (Shown.ok (v := AG [encA .i64 d38]) (by kernel_rfl) st108.pure ?_)
          exact ⟨trivial, trivial, trivial, trivial, trivial, trivial, trivial, trivial, trivial, trivial, trivial, trivial, trivial, trivial, trivial, trivial, trivial, trivial, trivial, trivial, rfl, trivial, trivial, trivial⟩
        · intro vs gq stq hl hf
          obtain ⟨v0, v1, v2, v3, v4, v5, v6, v7, v8, v9, v10, v11, v12, v13, v14, v15, rfl⟩ := len_k16 hl
          have e9 := (show v9 = .bool false from hf _ (List.mem_of_getElem? (i := 15) rfl) (by kernel_rfl))
          subst e9
          have e11 := (show v11 = AG [encA .i64 d37] from hf _ (List.mem_of_getElem? (i := 17) rfl) (by kernel_rfl))
          subst e11
          have e13 := (show v13 = AG [encA .i64 d38] from hf _ (List.mem_of_getElem? (i := 20) rfl) (by kernel_rfl))
          subst e13
          refine WP.neV (by kernel_rfl) (by kernel_rfl) (EqV.arr (d := 9998) (t := 34) (e := 3) (m := 3) (k := .i64) (x := d37) (y := d38) (by kernel_rfl) (by kernel_rfl)) ?_
          refine WP.done (by kernel_rfl) (Shown.ok (v := .bool (!(d37.1 == d38.1))) (by kernel_rfl) (Step.refl _ _) ?_)
          exact ⟨trivial, trivial, trivial, trivial, trivial, trivial, trivial, trivial, trivial, trivial, trivial, trivial, trivial, trivial, trivial, trivial, trivial, trivial, trivial, trivial, trivial, rfl, trivial, trivial⟩
        · intro vs gq stq hl hf
          obtain ⟨v0, v1, v2, v3, v4, v5, v6, v7, v8, v9, v10, v11, v12, v13, v14, v15, rfl⟩ := len_k16 hl
          have e9 := (show v9 = .bool false from hf _ (List.mem_of_getElem? (i := 15) rfl) (by kernel_rfl))
          subst e9
          have e14 := (show v14 = .bool (!(d37.1 == d38.1)) from hf _ (List.mem_of_getElem? (i := 21) rfl) (by kernel_rfl))
          subst e14
          refine WP.still 1 (by kernel_rfl) ?_
          refine WP.done (by kernel_rfl) (Shown.ok (v := .bool (!(d37.1 == d38.1))) (by kernel_rfl) (Step.refl _ _) ?_)
          exact ⟨trivial, trivial, trivial, trivial, trivial, trivial, trivial, trivial, trivial, trivial, trivial, trivial, trivial, trivial, trivial, trivial, trivial, trivial, trivial, trivial, trivial, trivial, congrArg Value.bool h54, trivial⟩
      intro vs g109 st109 hl hf
      obtain ⟨v0, v1, v2, v3, v4, v5, v6, v7, v8, v9, v10, v11, v12, v13, v14, v15, rfl⟩ := len_k16 hl
      have hR3 := (show OwnS k_S_purse_Held g109 (t + 3) 56 a3 n3 c3 l3 from hf _ (List.mem_of_getElem? (i := 18) rfl) (by kernel_rfl))
      have e15 := (show v15 = .bool true from hf _ (List.mem_of_getElem? (i := 22) rfl) (by kernel_rfl))
      subst e15
      replace hB1 := hB1.mono st109 (WL.no1 (by omega))
      replace hR1 := hR1.mono st109 (WL.no1 (by omega))
      replace hB2 := hB2.mono st109 (WL.no1 (by omega))
      replace hR2 := hR2.mono st109 (WL.no1 (by omega))
      replace hB3 := hB3.mono st109 (WL.no1 (by omega))
      replace tot := tot.trans (st109.up1 (.inr (by omega)))
      refine NX.post ?_
      exact ⟨true, ⟨by kernel_rfl, by kernel_rfl⟩, tot, hB1, hR1, hB2, hR2, hB3, hR3, hs⟩
    replace hs := of_if_f hs h54
    replace hs := Option.bind_eq_some_iff.1 hs
    obtain ⟨⟨d39, x48, d40, l18⟩, hk57, hs⟩ := hs
    dsimp only at hs
    replace hs := Option.bind_eq_some_iff.1 hs
    obtain ⟨q37, hk58, hs⟩ := hs
    replace hs := Option.bind_eq_some_iff.1 hs
    obtain ⟨q38, hk59, hs⟩ := hs
    refine CP.drawL (by kernel_rfl) [0, 1, 2, 3, 5, 6, 7, 8, 9, 12, 13, 15, 16, 18, 19, 21, 22, 23, 24, 25, 26, 27, 28] N.baizelaw47_PurseChecks_4 [⟨none, [], [], fun l g => Box g (t + 1) b1 26 [encA .u8 d1, [.int .i64 x1], encA .i64 d2, [.slice a1 n1 c1]] [8, 1, 2, 1]⟩, ⟨none, [], [], fun l g => RdS k_S_baizeref47_Held g 60 a1 n1 c1 l1⟩, ⟨none, [], [], fun l g => Box g (t + 2) b2 26 [encA .u8 d3, [.int .i64 x2], encA .i64 d4, [.slice a2 n2 c2]] [8, 1, 2, 1]⟩, ⟨none, [], [], fun l g => RdS k_S_baizeref47_Held g 60 a2 n2 c2 l2⟩, ⟨none, [], [], fun l g => Box g (t + 4) b3 32 [encA .u8 d5, [.int .i64 x4], encA .i64 d6, [.slice a3 n3 c3]] [8, 1, 2, 1]⟩, ⟨none, [0], [], fun l g => OwnS k_S_purse_Held g (t + 3) 56 a3 n3 c3 l3⟩, ⟨some 0, [], [0], fun l g => l.getD 0 undef = AG [encA .u8 d5, [.int .i64 x4], encA .i64 d6, [.slice a3 n3 c3]]⟩, ⟨some 1, [], [1], fun l g => l.getD 0 undef = .int .i64 x44⟩, ⟨some 1, [0], [], fun l g => OwnS k_S_purse_Held g (t + 3) 56 a3 n3 c3 l3⟩, ⟨some 2, [], [2], fun l g => l.getD 0 undef = AG [encA .u8 d1, [.int .i64 x1], encA .i64 d2, [.slice a1 n1 c1]]⟩, ⟨some 3, [], [3], fun l g => l.getD 0 undef = .int .i64 x45⟩, ⟨some 4, [], [4], fun l g => l.getD 0 undef = .bool false⟩, ⟨some 5, [], [5], fun l g => l.getD 0 undef = AG [encA .u8 d5, [.int .i64 x4], encA .i64 d6, [.slice a3 n3 c3]]⟩, ⟨some 6, [], [6], fun l g => l.getD 0 undef = .int .i64 x46⟩, ⟨some 6, [0], [], fun l g => OwnS k_S_purse_Held g (t + 3) 56 a3 n3 c3 l3⟩, ⟨some 7, [], [7], fun l g => l.getD 0 undef = AG [encA .u8 d1, [.int .i64 x1], encA .i64 d2, [.slice a1 n1 c1]]⟩, ⟨some 8, [], [8], fun l g => l.getD 0 undef = .int .i64 x47⟩, ⟨some 9, [], [9], fun l g => l.getD 0 undef = .bool false⟩, ⟨some 10, [], [10], fun l g => l.getD 0 undef = AG [encA .u8 d5, [.int .i64 x4], encA .i64 d6, [.slice a3 n3 c3]]⟩, ⟨some 11, [], [11], fun l g => l.getD 0 undef = AG [encA .i64 d37]⟩, ⟨some 11, [0], [], fun l g => OwnS k_S_purse_Held g (t + 3) 56 a3 n3 c3 l3⟩, ⟨some 12, [], [12], fun l g => l.getD 0 undef = AG [encA .u8 d1, [.int .i64 x1], encA .i64 d2, [.slice a1 n1 c1]]⟩, ⟨some 13, [], [13], fun l g => l.getD 0 undef = AG [encA .i64 d38]⟩, ⟨some 14, [], [14], fun l g => l.getD 0 undef = .bool (!(d37.1 == d38.1))⟩, ⟨some 15, [], [15], fun l g => l.getD 0 undef = .bool false⟩, ⟨some 16, [], [16], fun l g => l.getD 0 undef = AG [encA .u8 d5, [.int .i64 x4], encA .i64 d6, [.slice a3 n3 c3]]⟩, ⟨some 17, [], [17], fun l g => l.getD 0 undef = AG [encA .u8 d3, [.int .i64 x2], encA .i64 d4, [.slice a2 n2 c2]]⟩, ⟨some 18, [1], [18], fun l g => ∃ (a18 : Option Addr) (c18 : Nat), l.getD 0 undef = AG [encA .u8 d39, [.int .i64 x48], encA .i64 d40, [.slice a18 l18.length c18]] ∧ OwnS k_S_purse_Held g (t + 26) 56 a18 l18.length c18 l18⟩, ⟨some 19, [], [19], fun l g => l.getD 0 undef = .bool q37⟩, ⟨some 19, [0], [], fun l g => OwnS k_S_purse_Held g (t + 3) 56 a3 n3 c3 l3⟩, ⟨some 19, [1], [18], fun l g => ∃ (a18 : Option Addr) (c18 : Nat), l.getD 0 undef = AG [encA .u8 d39, [.int .i64 x48], encA .i64 d40, [.slice a18 l18.length c18]] ∧ OwnS k_S_purse_Held g (t + 26) 56 a18 l18.length c18 l18⟩, ⟨some 20, [], [20], fun l g => l.getD 0 undef = AG [encA .u8 d1, [.int .i64 x1], encA .i64 d2, [.slice a1 n1 c1]]⟩, ⟨some 21, [], [21], fun l g => l.getD 0 undef = AG [encA .u8 d3, [.int .i64 x2], encA .i64 d4, [.slice a2 n2 c2]]⟩, ⟨some 22, [], [22], fun l g => l.getD 0 undef = .bool q38⟩] [[], [0], [], [], [], [], [0], [], [], [], [], [0], [], [], [], [], [], [], [], [0, 1], [], [], []] [(t + 3), (t + 26)] [] [4, 10, 11, 14, 17, 20, 29, 30] (by kernel_rfl) (by simp <;> omega) (by simp <;> omega) ⟨fun _ _ _ _ st h0 hl hj hB1 => (hB1.mono st (fun h => absurd (hl _ h) (by simp <;> omega))), fun _ _ _ _ st h0 hl hj hR1 => (RdS.mono (e := 60) hR1 st h0), fun _ _ _ _ st h0 hl hj hB2 => (hB2.mono st (fun h => absurd (hl _ h) (by simp <;> omega))), fun _ _ _ _ st h0 hl hj hR2 => (RdS.mono (e := 60) hR2 st h0), fun _ _ _ _ st h0 hl hj hB3 => (hB3.mono st (fun h => absurd (hl _ h) (by simp <;> omega))), fun _ _ _ _ st h0 hl hj hR3 => (hR3.mono st h0 (hj 0 (by simp) _ rfl)), fun _ _ _ _ st h0 hl hj e0 => e0, fun _ _ _ _ st h0 hl hj e1 => e1, fun _ _ _ _ st h0 hl hj hR3 => (hR3.mono st h0 (hj 0 (by simp) _ rfl)), fun _ _ _ _ st h0 hl hj e2 => e2, fun _ _ _ _ st h0 hl hj e3 => e3, fun _ _ _ _ st h0 hl hj e4 => e4, fun _ _ _ _ st h0 hl hj e5 => e5, fun _ _ _ _ st h0 hl hj e6 => e6, fun _ _ _ _ st h0 hl hj hR3 => (hR3.mono st h0 (hj 0 (by simp) _ rfl)), fun _ _ _ _ st h0 hl hj e7 => e7, fun _ _ _ _ st h0 hl hj e8 => e8, fun _ _ _ _ st h0 hl hj e9 => e9, fun _ _ _ _ st h0 hl hj e10 => e10, fun _ _ _ _ st h0 hl hj e11 => e11, fun _ _ _ _ st h0 hl hj hR3 => (hR3.mono st h0 (hj 0 (by simp) _ rfl)), fun _ _ _ _ st h0 hl hj e12 => e12, fun _ _ _ _ st h0 hl hj e13 => e13, fun _ _ _ _ st h0 hl hj e14 => e14, fun _ _ _ _ st h0 hl hj e15 => e15, fun _ _ _ _ st h0 hl hj e16 => e16, fun _ _ _ _ st h0 hl hj e17 => e17, fun _ _ _ _ st h0 hl hj ⟨a18, c18, e18, hR18⟩ => ⟨a18, c18, e18, (hR18.mono st h0 (hj 1 (by simp) _ rfl))⟩, fun _ _ _ _ st h0 hl hj e19 => e19, fun _ _ _ _ st h0 hl hj hR3 => (hR3.mono st h0 (hj 0 (by simp) _ rfl)), fun _ _ _ _ st h0 hl hj ⟨a18, c18, e18, hR18⟩ => ⟨a18, c18, e18, (hR18.mono st h0 (hj 1 (by simp) _ rfl))⟩, fun _ _ _ _ st h0 hl hj e20 => e20, fun _ _ _ _ st h0 hl hj e21 => e21, fun _ _ _ _ st h0 hl hj e22 => e22, trivial⟩ ⟨hB1, hR1, hB2, hR2, hB3, hR3, trivial, trivial, trivial, trivial, trivial, trivial, trivial, trivial, trivial, trivial, trivial, trivial, trivial, trivial, trivial, trivial, trivial, trivial, trivial, trivial, trivial, trivial, trivial, trivial, trivial, trivial, trivial, trivial, trivial⟩ (by kernel_rfl) (fun vs => by kernel_rfl) ?_ ?_ ?_
    · intro j hj
      have hq : j = 0 ∨ j = 1 ∨ j = 2 ∨ j = 3 ∨ j = 4 ∨ j = 5 ∨ j = 6 ∨ j = 7 := by have h : j < 8 := hj; omega
      rcases hq with rfl | rfl | rfl | rfl | rfl | rfl | rfl | rfl
      · intro vs gq stq hl hf
        obtain ⟨v0, v1, v2, v3, v4, v5, v6, v7, v8, v9, v10, v11, v12, v13, v14, v15, v16, v17, v18, v19, v20, v21, v22, rfl⟩ := len_k23 hl
        have e1 := (show v1 = .int .i64 x44 from hf _ (List.mem_of_getElem? (i := 7) rfl) (by kernel_rfl))
        subst e1
        have e3 := (show v3 = .int .i64 x45 from hf _ (List.mem_of_getElem? (i := 10) rfl) (by kernel_rfl))
        subst e3
        show Option.isSome _ = true
        kernel_rfl
      · intro vs gq stq hl hf
        obtain ⟨v0, v1, v2, v3, v4, v5, v6, v7, v8, v9, v10, v11, v12, v13, v14, v15, v16, v17, v18, v19, v20, v21, v22, rfl⟩ := len_k23 hl
        have e4 := (show v4 = .bool false from hf _ (List.mem_of_getElem? (i := 11) rfl) (by kernel_rfl))
        subst e4
        have e6 := (show v6 = .int .i64 x46 from hf _ (List.mem_of_getElem? (i := 13) rfl) (by kernel_rfl))
        subst e6
        have e8 := (show v8 = .int .i64 x47 from hf _ (List.mem_of_getElem? (i := 16) rfl) (by kernel_rfl))
        subst e8
        show Option.isSome _ = true
        kernel_rfl
      · intro vs gq stq hl hf
        obtain ⟨v0, v1, v2, v3, v4, v5, v6, v7, v8, v9, v10, v11, v12, v13, v14, v15, v16, v17, v18, v19, v20, v21, v22, rfl⟩ := len_k23 hl
        have e4 := (show v4 = .bool false from hf _ (List.mem_of_getElem? (i := 11) rfl) (by kernel_rfl))
        subst e4
        have e6 := (show v6 = .int .i64 x46 from hf _ (List.mem_of_getElem? (i := 13) rfl) (by kernel_rfl))
        subst e6
        have e8 := (show v8 = .int .i64 x47 from hf _ (List.mem_of_getElem? (i := 16) rfl) (by kernel_rfl))
        subst e8
        show Option.isSome _ = true
        kernel_rfl
      · intro vs gq stq hl hf
        obtain ⟨v0, v1, v2, v3, v4, v5, v6, v7, v8, v9, v10, v11, v12, v13, v14, v15, v16, v17, v18, v19, v20, v21, v22, rfl⟩ := len_k23 hl
        have e9 := (show v9 = .bool false from hf _ (List.mem_of_getElem? (i := 17) rfl) (by kernel_rfl))
        subst e9
        show Option.isSome _ = true
        kernel_rfl
      · intro vs gq stq hl hf
        obtain ⟨v0, v1, v2, v3, v4, v5, v6, v7, v8, v9, v10, v11, v12, v13, v14, v15, v16, v17, v18, v19, v20, v21, v22, rfl⟩ := len_k23 hl
        have e9 := (show v9 = .bool false from hf _ (List.mem_of_getElem? (i := 17) rfl) (by kernel_rfl))
        subst e9
        show Option.isSome _ = true
        kernel_rfl
      · intro vs gq stq hl hf
        obtain ⟨v0, v1, v2, v3, v4, v5, v6, v7, v8, v9, v10, v11, v12, v13, v14, v15, v16, v17, v18, v19, v20, v21, v22, rfl⟩ := len_k23 hl
        have e9 := (show v9 = .bool false from hf _ (List.mem_of_getElem? (i := 17) rfl) (by kernel_rfl))
        subst e9
        have e14 := (show v14 = .bool (!(d37.1 == d38.1)) from hf _ (List.mem_of_getElem? (i := 23) rfl) (by kernel_rfl))
        subst e14
        show Option.isSome _ = true
        kernel_rfl
      · intro vs gq stq hl hf
        obtain ⟨v0, v1, v2, v3, v4, v5, v6, v7, v8, v9, v10, v11, v12, v13, v14, v15, v16, v17, v18, v19, v20, v21, v22, rfl⟩ := len_k23 hl
        have e15 := (show v15 = .bool false from hf _ (List.mem_of_getElem? (i := 24) rfl) (by kernel_rfl))
        subst e15
        have e19 := (show v19 = .bool q37 from hf _ (List.mem_of_getElem? (i := 28) rfl) (by kernel_rfl))
        subst e19
        have e22 := (show v22 = .bool q38 from hf _ (List.mem_of_getElem? (i := 33) rfl) (by kernel_rfl))
        subst e22
        show Option.isSome _ = true
        kernel_rfl
      · intro vs gq stq hl hf
        obtain ⟨v0, v1, v2, v3, v4, v5, v6, v7, v8, v9, v10, v11, v12, v13, v14, v15, v16, v17, v18, v19, v20, v21, v22, rfl⟩ := len_k23 hl
        have e15 := (show v15 = .bool false from hf _ (List.mem_of_getElem? (i := 24) rfl) (by kernel_rfl))
        subst e15
        have e19 := (show v19 = .bool q37 from hf _ (List.mem_of_getElem? (i := 28) rfl) (by kernel_rfl))
        subst e19
        have e22 := (show v22 = .bool q38 from hf _ (List.mem_of_getElem? (i := 33) rfl) (by kernel_rfl))
        subst e22
        show Option.isSome _ = true
        kernel_rfl
    · intro j hj
      have hq : j = 0 ∨ j = 1 ∨ j = 2 ∨ j = 3 ∨ j = 4 ∨ j = 5 ∨ j = 6 ∨ j = 7 ∨ j = 8 ∨ j = 9 ∨ j = 10 ∨ j = 11 ∨ j = 12 ∨ j = 13 ∨ j = 14 ∨ j = 15 ∨ j = 16 ∨ j = 17 ∨ j = 18 ∨ j = 19 ∨ j = 20 ∨ j = 21 ∨ j = 22 := by have h : j < 23 := hj; omega
      rcases hq with rfl | rfl | rfl | rfl | rfl | rfl | rfl | rfl | rfl | rfl | rfl | rfl | rfl | rfl | rfl | rfl | rfl | rfl | rfl | rfl | rfl | rfl | rfl
      · intro vs gq stq hl hf
        obtain ⟨v0, v1, v2, v3, v4, v5, v6, v7, v8, v9, v10, v11, v12, v13, v14, v15, v16, v17, v18, v19, v20, v21, v22, rfl⟩ := len_k23 hl
        have hB3 := (show Box gq (t + 4) b3 32 [encA .u8 d5, [.int .i64 x4], encA .i64 d6, [.slice a3 n3 c3]] [8, 1, 2, 1] from hf _ (List.mem_of_getElem? (i := 4) rfl) (by kernel_rfl))
        refine WP.loadB (v := AG [encA .u8 d5, [.int .i64 x4], encA .i64 d6, [.slice a3 n3 c3]]) hB3 (by kernel_rfl) (by kernel_rfl) ?_
        refine WP.done (by kernel_rfl) (Shown.ok (v := AG [encA .u8 d5, [.int .i64 x4], encA .i64 d6, [.slice a3 n3 c3]]) (by kernel_rfl) (Step.refl _ _) ?_)
        exact ⟨trivial, trivial, trivial, trivial, trivial, trivial, rfl, trivial, trivial, trivial, trivial, trivial, trivial, trivial, trivial, trivial, trivial, trivial, trivial, trivial, trivial, trivial, trivial, trivial, trivial, trivial, trivial, trivial, trivial, trivial, trivial, trivial, trivial, trivial, trivial⟩
      · intro vs gq stq hl hf
        obtain ⟨v0, v1, v2, v3, v4, v5, v6, v7, v8, v9, v10, v11, v12, v13, v14, v15, v16, v17, v18, v19, v20, v21, v22, rfl⟩ := len_k23 hl
        have hR3 := (show OwnS k_S_purse_Held gq (t + 3) 56 a3 n3 c3 l3 from hf _ (List.mem_of_getElem? (i := 5) rfl) (by kernel_rfl))
        have e0 := (show v0 = AG [encA .u8 d5, [.int .i64 x4], encA .i64 d6, [.slice a3 n3 c3]] from hf _ (List.mem_of_getElem? (i := 6) rfl) (by kernel_rfl))
        subst e0
        have hS13 : 0 ∉ ([(t + 3)] : List Nat) := by simp <;> omega
        have stl13 := GW.lend_step gq [(t + 3)]
        have hRl18 := hR3.lendTo hS13 (by simp)
        refine WP.regw (g' := GW.lend gq [(t + 3)]) rfl ?_
        have hcal51 := P.purse_Purse_Check (GW.lend gq [(t + 3)]) d5 x4 d6 l3 a3 n3 c3 hRl18 x44 hk51
        refine WP.callC hcal51 (by kernel_rfl) ?_
        rintro _ g98 st98 rfl
        have st99 := (GW.back_step st98).lentS
        have hO18 := hR3.backTo hS13 (by simp) st98 (fun x => x)
        refine WP.regw (g' := GW.back gq g98 [(t + 3)]) rfl ?_
        generalize GW.back gq g98 [(t + 3)] = g99 at *
        refine WP.done (by kernel_rfl) (Shown.ok (v := .int .i64 x44) (by kernel_rfl) st99 ?_)
        exact ⟨trivial, trivial, trivial, trivial, trivial, trivial, trivial, rfl, hO18, trivial, trivial, trivial, trivial, trivial, trivial, trivial, trivial, trivial, trivial, trivial, trivial, trivial, trivial, trivial, trivial, trivial, trivial, trivial, trivial, trivial, trivial, trivial, trivial, trivial, trivial⟩
      · intro vs gq stq hl hf
        obtain ⟨v0, v1, v2, v3, v4, v5, v6, v7, v8, v9, v10, v11, v12, v13, v14, v15, v16, v17, v18, v19, v20, v21, v22, rfl⟩ := len_k23 hl
        have hB1 := (show Box gq (t + 1) b1 26 [encA .u8 d1, [.int .i64 x1], encA .i64 d2, [.slice a1 n1 c1]] [8, 1, 2, 1] from hf _ (List.mem_of_getElem? (i := 0) rfl) (by kernel_rfl))
        refine WP.loadB (v := AG [encA .u8 d1, [.int .i64 x1], encA .i64 d2, [.slice a1 n1 c1]]) hB1 (by kernel_rfl) (by kernel_rfl) ?_
        refine WP.done (by kernel_rfl) (Shown.ok (v := AG [encA .u8 d1, [.int .i64 x1], encA .i64 d2, [.slice a1 n1 c1]]) (by kernel_rfl) (Step.refl _ _) ?_)
        exact ⟨trivial, trivial, trivial, trivial, trivial, trivial, trivial, trivial, trivial, rfl, trivial, trivial, trivial, trivial, trivial, trivial, trivial, trivial, trivial, trivial, trivial, trivial, trivial, trivial, trivial, trivial, trivial, trivial, trivial, trivial, trivial, trivial, trivial, trivial, trivial⟩
      · intro vs gq stq hl hf
        obtain ⟨v0, v1, v2, v3, v4, v5, v6, v7, v8, v9, v10, v11, v12, v13, v14, v15, v16, v17, v18, v19, v20, v21, v22, rfl⟩ := len_k23 hl
        have hR1 := (show RdS k_S_baizeref47_Held gq 60 a1 n1 c1 l1 from hf _ (List.mem_of_getElem? (i := 1) rfl) (by kernel_rfl))
        have e2 := (show v2 = AG [encA .u8 d1, [.int .i64 x1], encA .i64 d2, [.slice a1 n1 c1]] from hf _ (List.mem_of_getElem? (i := 9) rfl) (by kernel_rfl))
        subst e2
        have hcal52 := P.baizeref47_Check gq d1 x1 d2 l1 a1 n1 c1 hR1 x45 hk52
        refine WP.callC hcal52 (by kernel_rfl) ?_
        rintro _ g100 st100 rfl
        refine WP.done (by kernel_rfl) (Shown.ok (v := .int .i64 x45) (by kernel_rfl) st100.pure ?_)
        exact ⟨trivial, trivial, trivial, trivial, trivial, trivial, trivial, trivial, trivial, trivial, rfl, trivial, trivial, trivial, trivial, trivial, trivial, trivial, trivial, trivial, trivial, trivial, trivial, trivial, trivial, trivial, trivial, trivial, trivial, trivial, trivial, trivial, trivial, trivial, trivial⟩
      · intro vs gq stq hl hf
        obtain ⟨v0, v1, v2, v3, v4, v5, v6, v7, v8, v9, v10, v11, v12, v13, v14, v15, v16, v17, v18, v19, v20, v21, v22, rfl⟩ := len_k23 hl
        have e1 := (show v1 = .int .i64 x44 from hf _ (List.mem_of_getElem? (i := 7) rfl) (by kernel_rfl))
        subst e1
        have e3 := (show v3 = .int .i64 x45 from hf _ (List.mem_of_getElem? (i := 10) rfl) (by kernel_rfl))
        subst e3
        refine WP.still 1 (by kernel_rfl) ?_
        refine WP.done (by kernel_rfl) (Shown.ok (v := .bool (x44 != x45)) (by kernel_rfl) (Step.refl _ _) ?_)
        exact ⟨trivial, trivial, trivial, trivial, trivial, trivial, trivial, trivial, trivial, trivial, trivial, congrArg Value.bool h52, trivial, trivial, trivial, trivial, trivial, trivial, trivial, trivial, trivial, trivial, trivial, trivial, trivial, trivial, trivial, trivial, trivial, trivial, trivial, trivial, trivial, trivial, trivial⟩
      · intro vs gq stq hl hf
        obtain ⟨v0, v1, v2, v3, v4, v5, v6, v7, v8, v9, v10, v11, v12, v13, v14, v15, v16, v17, v18, v19, v20, v21, v22, rfl⟩ := len_k23 hl
        have hB3 := (show Box gq (t + 4) b3 32 [encA .u8 d5, [.int .i64 x4], encA .i64 d6, [.slice a3 n3 c3]] [8, 1, 2, 1] from hf _ (List.mem_of_getElem? (i := 4) rfl) (by kernel_rfl))
        have e4 := (show v4 = .bool false from hf _ (List.mem_of_getElem? (i := 11) rfl) (by kernel_rfl))
        subst e4
        refine WP.loadB (v := AG [encA .u8 d5, [.int .i64 x4], encA .i64 d6, [.slice a3 n3 c3]]) hB3 (by kernel_rfl) (by kernel_rfl) ?_
        refine WP.done (by kernel_rfl) (Shown.ok (v := AG [encA .u8 d5, [.int .i64 x4], encA .i64 d6, [.slice a3 n3 c3]]) (by kernel_rfl) (Step.refl _ _) ?_)
        exact ⟨trivial, trivial, trivial, trivial, trivial, trivial, trivial, trivial, trivial, trivial, trivial, trivial, rfl, trivial, trivial, trivial, trivial, trivial, trivial, trivial, trivial, trivial, trivial, trivial, trivial, trivial, trivial, trivial, trivial, trivial, trivial, trivial, trivial, trivial, trivial⟩
      · intro vs gq stq hl hf
        obtain ⟨v0, v1, v2, v3, v4, v5, v6, v7, v8, v9, v10, v11, v12, v13, v14, v15, v16, v17, v18, v19, v20, v21, v22, rfl⟩ := len_k23 hl
        have hR3 := (show OwnS k_S_purse_Held gq (t + 3) 56 a3 n3 c3 l3 from hf _ (List.mem_of_getElem? (i := 8) rfl) (by kernel_rfl))
        have e4 := (show v4 = .bool false from hf _ (List.mem_of_getElem? (i := 11) rfl) (by kernel_rfl))
        subst e4
        have e5 := (show v5 = AG [encA .u8 d5, [.int .i64 x4], encA .i64 d6, [.slice a3 n3 c3]] from hf _ (List.mem_of_getElem? (i := 12) rfl) (by kernel_rfl))
        subst e5
        have hS14 : 0 ∉ ([(t + 3)] : List Nat) := by simp <;> omega
        have stl14 := GW.lend_step gq [(t + 3)]
        have hRl19 := hR3.lendTo hS14 (by simp)
        refine WP.regw (g' := GW.lend gq [(t + 3)]) rfl ?_
        have hcal53 := P.purse_Purse_Total (GW.lend gq [(t + 3)]) d5 x4 d6 l3 a3 n3 c3 hRl19 x46 hk53
        refine WP.callC hcal53 (by kernel_rfl) ?_
        rintro _ g102 st102 rfl
        have st103 := (GW.back_step st102).lentS
        have hO19 := hR3.backTo hS14 (by simp) st102 (fun x => x)
        refine WP.regw (g' := GW.back gq g102 [(t + 3)]) rfl ?_
        generalize GW.back gq g102 [(t + 3)] = g103 at *
        refine WP.done (by kernel_rfl) (Shown.ok (v := .int .i64 x46) (by kernel_rfl) st103 ?_)
        exact ⟨trivial, trivial, trivial, trivial, trivial, trivial, trivial, trivial, trivial, trivial, trivial, trivial, trivial, rfl, hO19, trivial, trivial, trivial, trivial, trivial, trivial, trivial, trivial, trivial, trivial, trivial, trivial, trivial, trivial, trivial, trivial, trivial, trivial, trivial, trivial⟩
      · intro vs gq stq hl hf
        obtain ⟨v0, v1, v2, v3, v4, v5, v6, v7, v8, v9, v10, v11, v12, v13, v14, v15, v16, v17, v18, v19, v20, v21, v22, rfl⟩ := len_k23 hl
        have hB1 := (show Box gq (t + 1) b1 26 [encA .u8 d1, [.int .i64 x1], encA .i64 d2, [.slice a1 n1 c1]] [8, 1, 2, 1] from hf _ (List.mem_of_getElem? (i := 0) rfl) (by kernel_rfl))
        have e4 := (show v4 = .bool false from hf _ (List.mem_of_getElem? (i := 11) rfl) (by kernel_rfl))
        subst e4
        refine WP.loadB (v := AG [encA .u8 d1, [.int .i64 x1], encA .i64 d2, [.slice a1 n1 c1]]) hB1 (by kernel_rfl) (by kernel_rfl) ?_
        refine WP.done (by kernel_rfl) (Shown.ok (v := AG [encA .u8 d1, [.int .i64 x1], encA .i64 d2, [.slice a1 n1 c1]]) (by kernel_rfl) (Step.refl _ _) ?_)
        exact ⟨trivial, trivial, trivial, trivial, trivial, trivial, trivial, trivial, trivial, trivial, trivial, trivial, trivial, trivial, trivial, rfl, trivial, trivial, trivial, trivial, trivial, trivial, trivial, trivial, trivial, trivial, trivial, trivial, trivial, trivial, trivial, trivial, trivial, trivial, trivial⟩
      · intro vs gq stq hl hf
        obtain ⟨v0, v1, v2, v3, v4, v5, v6, v7, v8, v9, v10, v11, v12, v13, v14, v15, v16, v17, v18, v19, v20, v21, v22, rfl⟩ := len_k23 hl
        have hR1 := (show RdS k_S_baizeref47_Held gq 60 a1 n1 c1 l1 from hf _ (List.mem_of_getElem? (i := 1) rfl) (by kernel_rfl))
        have e4 := (show v4 = .bool false from hf _ (List.mem_of_getElem? (i := 11) rfl) (by kernel_rfl))
        subst e4
        have e7 := (show v7 = AG [encA .u8 d1, [.int .i64 x1], encA .i64 d2, [.slice a1 n1 c1]] from hf _ (List.mem_of_getElem? (i := 15) rfl) (by kernel_rfl))
        subst e7
        have hcal54 := P.baizeref47_Total gq d1 x1 d2 l1 a1 n1 c1 hR1 x47 hk54
        refine WP.callC hcal54 (by kernel_rfl) ?_
        rintro _ g104 st104 rfl
        refine WP.done (by kernel_rfl) (Shown.ok (v := .int .i64 x47) (by kernel_rfl) st104.pure ?_)
        exact ⟨trivial, trivial, trivial, trivial, trivial, trivial, trivial, trivial, trivial, trivial, trivial, trivial, trivial, trivial, trivial, trivial, rfl, trivial, trivial, trivial, trivial, trivial, trivial, trivial, trivial, trivial, trivial, trivial, trivial, trivial, trivial, trivial, trivial, trivial, trivial⟩
      · intro vs gq stq hl hf
        obtain ⟨v0, v1, v2, v3, v4, v5, v6, v7, v8, v9, v10, v11, v12, v13, v14, v15, v16, v17, v18, v19, v20, v21, v22, rfl⟩ := len_k23 hl
        have e4 := (show v4 = .bool false from hf _ (List.mem_of_getElem? (i := 11) rfl) (by kernel_rfl))
        subst e4
        have e6 := (show v6 = .int .i64 x46 from hf _ (List.mem_of_getElem? (i := 13) rfl) (by kernel_rfl))
        subst e6
        have e8 := (show v8 = .int .i64 x47 from hf _ (List.mem_of_getElem? (i := 16) rfl) (by kernel_rfl))
        subst e8
        refine WP.still 1 (by kernel_rfl) ?_
        refine WP.done (by kernel_rfl) (Shown.ok (v := .bool (x46 != x47)) (by kernel_rfl) (Step.refl _ _) ?_)
        exact ⟨trivial, trivial, trivial, trivial, trivial, trivial, trivial, trivial, trivial, trivial, trivial, trivial, trivial, trivial, trivial, trivial, trivial, congrArg Value.bool h53, trivial, trivial, trivial, trivial, trivial, trivial, trivial, trivial, trivial, trivial, trivial, trivial, trivial, trivial, trivial, trivial, trivial⟩
      · intro vs gq stq hl hf
        obtain ⟨v0, v1, v2, v3, v4, v5, v6, v7, v8, v9, v10, v11, v12, v13, v14, v15, v16, v17, v18, v19, v20, v21, v22, rfl⟩ := len_k23 hl
        have hB3 := (show Box gq (t + 4) b3 32 [encA .u8 d5, [.int .i64 x4], encA .i64 d6, [.slice a3 n3 c3]] [8, 1, 2, 1] from hf _ (List.mem_of_getElem? (i := 4) rfl) (by kernel_rfl))
        have e9 := (show v9 = .bool false from hf _ (List.mem_of_getElem? (i := 17) rfl) (by kernel_rfl))
        subst e9
        refine WP.loadB (v := AG [encA .u8 d5, [.int .i64 x4], encA .i64 d6, [.slice a3 n3 c3]]) hB3 (by kernel_rfl) (by kernel_rfl) ?_
        refine WP.done (by kernel_rfl) (Shown.ok (v := AG [encA .u8 d5, [.int .i64 x4], encA .i64 d6, [.slice a3 n3 c3]]) (by kernel_rfl) (Step.refl _ _) ?_)
        exact ⟨trivial, trivial, trivial, trivial, trivial, trivial, trivial, trivial, trivial, trivial, trivial, trivial, trivial, trivial, trivial, trivial, trivial, trivial, rfl, trivial, trivial, trivial, trivial, trivial, trivial, trivial, trivial, trivial, trivial, trivial, trivial, trivial, trivial, trivial, trivial⟩
      · intro vs gq stq hl hf
        obtain ⟨v0, v1, v2, v3, v4, v5, v6, v7, v8, v9, v10, v11, v12, v13, v14, v15, v16, v17, v18, v19, v20, v21, v22, rfl⟩ := len_k23 hl
        have hR3 := (show OwnS k_S_purse_Held gq (t + 3) 56 a3 n3 c3 l3 from hf _ (List.mem_of_getElem? (i := 14) rfl) (by kernel_rfl))
        have e9 := (show v9 = .bool false from hf _ (List.mem_of_getElem? (i := 17) rfl) (by kernel_rfl))
        subst e9
        have e10 := (show v10 = AG [encA .u8 d5, [.int .i64 x4], encA .i64 d6, [.slice a3 n3 c3]] from hf _ (List.mem_of_getElem? (i := 18) rfl) (by kernel_rfl))
        subst e10
        have hS15 : 0 ∉ ([(t + 3)] : List Nat) := by simp <;> omega
        have stl15 := GW.lend_step gq [(t + 3)]
        have hRl20 := hR3.lendTo hS15 (by simp)
        refine WP.regw (g' := GW.lend gq [(t + 3)]) rfl ?_
        have hcal55 := P.purse_Purse_Pays (GW.lend gq [(t + 3)]) d5 x4 d6 l3 x3 a3 n3 c3 hRl20 d37 hk55
        refine WP.callC hcal55 (by kernel_rfl) ?_
        rintro _ g106 st106 rfl
        have st107 := (GW.back_step st106).lentS
        have hO20 := hR3.backTo hS15 (by simp) st106 (fun x => x)
        refine WP.regw (g' := GW.back gq g106 [(t + 3)]) rfl ?_
        generalize GW.back gq g106 [(t + 3)] = g107 at *
        refine WP.done (by kernel_rfl) (Shown.ok (v := AG [encA .i64 d37]) (by kernel_rfl) st107 ?_)
        exact ⟨trivial, trivial, trivial, trivial, trivial, trivial, trivial, trivial, trivial, trivial, trivial, trivial, trivial, trivial, trivial, trivial, trivial, trivial, trivial, rfl, hO20, trivial, trivial, trivial, trivial, trivial, trivial, trivial, trivial, trivial, trivial, trivial, trivial, trivial, trivial⟩
      · intro vs gq stq hl hf
        obtain ⟨v0, v1, v2, v3, v4, v5, v6, v7, v8, v9, v10, v11, v12, v13, v14, v15, v16, v17, v18, v19, v20, v21, v22, rfl⟩ := len_k23 hl
        have hB1 := (show Box gq (t + 1) b1 26 [encA .u8 d1, [.int .i64 x1], encA .i64 d2, [.slice a1 n1 c1]] [8, 1, 2, 1] from hf _ (List.mem_of_getElem? (i := 0) rfl) (by kernel_rfl))
        have e9 := (show v9 = .bool false from hf _ (List.mem_of_getElem? (i := 17) rfl) (by kernel_rfl))
        subst e9
        refine WP.loadB (v := AG [encA .u8 d1, [.int .i64 x1], encA .i64 d2, [.slice a1 n1 c1]]) hB1 (by kernel_rfl) (by kernel_rfl) ?_
        refine WP.done (by kernel_rfl) (Shown.ok (v := AG [encA .u8 d1, [.int .i64 x1], encA .i64 d2, [.slice a1 n1 c1]]) (by kernel_rfl) (Step.refl _ _) ?_)
        exact ⟨trivial, trivial, trivial, trivial, trivial, trivial, trivial, trivial, trivial, trivial, trivial, trivial, trivial, trivial, trivial, trivial, trivial, trivial, trivial, trivial, trivial, rfl, trivial, trivial, trivial, trivial, trivial, trivial, trivial, trivial, trivial, trivial, trivial, trivial, trivial⟩
      · intro vs gq stq hl hf
        obtain ⟨v0, v1, v2, v3, v4, v5, v6, v7, v8, v9, v10, v11, v12, v13, v14, v15, v16, v17, v18, v19, v20, v21, v22, rfl⟩ := len_k23 hl
        have hR1 := (show RdS k_S_baizeref47_Held gq 60 a1 n1 c1 l1 from hf _ (List.mem_of_getElem? (i := 1) rfl) (by kernel_rfl))
        have e9 := (show v9 = .bool false from hf _ (List.mem_of_getElem? (i := 17) rfl) (by kernel_rfl))
        subst e9
        have e12 := (show v12 = AG [encA .u8 d1, [.int .i64 x1], encA .i64 d2, [.slice a1 n1 c1]] from hf _ (List.mem_of_getElem? (i := 21) rfl) (by kernel_rfl))
        subst e12
        have hcal56 := P.baizeref47_Pays gq d1 x1 d2 l1 x3 a1 n1 c1 hR1 d38 hk56
        refine WP.callC hcal56 (by kernel_rfl) ?_
        rintro _ g108 st108 rfl
        refine WP.done (by kernel_rfl) (Shown.ok (v := AG [encA .i64 d38]) (by kernel_rfl) st108.pure ?_)
        exact ⟨trivial, trivial, trivial, trivial, trivial, trivial, trivial, trivial, trivial, trivial, trivial, trivial, trivial, trivial, trivial, trivial, trivial, trivial, trivial, trivial, trivial, trivial, rfl, trivial, trivial, trivial, trivial, trivial, trivial, trivial, trivial, trivial, trivial, trivial, trivial⟩
      · intro vs gq stq hl hf
        obtain ⟨v0, v1, v2, v3, v4, v5, v6, v7, v8, v9, v10, v11, v12, v13, v14, v15, v16, v17, v18, v19, v20, v21, v22, rfl⟩ := len_k23 hl
        have e9 := (show v9 = .bool false from hf _ (List.mem_of_getElem? (i := 17) rfl) (by kernel_rfl))
        subst e9
        have e11 := (show v11 = AG [encA .i64 d37] from hf _ (List.mem_of_getElem? (i := 19) rfl) (by kernel_rfl))
        subst e11
        have e13 := (show v13 = AG [encA .i64 d38] from hf _ (List.mem_of_getElem? (i := 22) rfl) (by kernel_rfl))
        subst e13
        refine WP.neV (by kernel_rfl) (by kernel_rfl) (EqV.arr (d := 9998) (t := 34) (e := 3) (m := 3) (k := .i64) (x := d37) (y := d38) (by kernel_rfl) (by kernel_rfl)) ?_
        refine WP.done (by kernel_rfl) (Shown.ok (v := .bool (!(d37.1 == d38.1))) (by kernel_rfl) (Step.refl _ _) ?_)
        exact ⟨trivial, trivial, trivial, trivial, trivial, trivial, trivial, trivial, trivial, trivial, trivial, trivial, trivial, trivial, trivial, trivial, trivial, trivial, trivial, trivial, trivial, trivial, trivial, rfl, trivial, trivial, trivial, trivial, trivial, trivial, trivial, trivial, trivial, trivial, trivial⟩
      · intro vs gq stq hl hf
        obtain ⟨v0, v1, v2, v3, v4, v5, v6, v7, v8, v9, v10, v11, v12, v13, v14, v15, v16, v17, v18, v19, v20, v21, v22, rfl⟩ := len_k23 hl
        have e9 := (show v9 = .bool false from hf _ (List.mem_of_getElem? (i := 17) rfl) (by kernel_rfl))
        subst e9
        have e14 := (show v14 = .bool (!(d37.1 == d38.1)) from hf _ (List.mem_of_getElem? (i := 23) rfl) (by kernel_rfl))
        subst e14
        refine WP.still 1 (by kernel_rfl) ?_
        refine WP.done (by kernel_rfl) (Shown.ok (v := .bool (!(d37.1 == d38.1))) (by kernel_rfl) (Step.refl _ _) ?_)
        exact ⟨trivial, trivial, trivial, trivial, trivial, trivial, trivial, trivial, trivial, trivial, trivial, trivial, trivial, trivial, trivial, trivial, trivial, trivial, trivial, trivial, trivial, trivial, trivial, trivial, congrArg Value.bool h54, trivial, trivial, trivial, trivial, trivial, trivial, trivial, trivial, trivial, trivial⟩
      · intro vs gq stq hl hf
        obtain ⟨v0, v1, v2, v3, v4, v5, v6, v7, v8, v9, v10, v11, v12, v13, v14, v15, v16, v17, v18, v19, v20, v21, v22, rfl⟩ := len_k23 hl
        have hB3 := (show Box gq (t + 4) b3 32 [encA .u8 d5, [.int .i64 x4], encA .i64 d6, [.slice a3 n3 c3]] [8, 1, 2, 1] from hf _ (List.mem_of_getElem? (i := 4) rfl) (by kernel_rfl))
        have e15 := (show v15 = .bool false from hf _ (List.mem_of_getElem? (i := 24) rfl) (by kernel_rfl))
        subst e15
        refine WP.loadB (v := AG [encA .u8 d5, [.int .i64 x4], encA .i64 d6, [.slice a3 n3 c3]]) hB3 (by kernel_rfl) (by kernel_rfl) ?_
        refine WP.done (by kernel_rfl) (Shown.ok (v := AG [encA .u8 d5, [.int .i64 x4], encA .i64 d6, [.slice a3 n3 c3]]) (by kernel_rfl) (Step.refl _ _) ?_)
        exact ⟨trivial, trivial, trivial, trivial, trivial, trivial, trivial, trivial, trivial, trivial, trivial, trivial, trivial, trivial, trivial, trivial, trivial, trivial, trivial, trivial, trivial, trivial, trivial, trivial, trivial, rfl, trivial, trivial, trivial, trivial, trivial, trivial, trivial, trivial, trivial⟩
      · intro vs gq stq hl hf
        obtain ⟨v0, v1, v2, v3, v4, v5, v6, v7, v8, v9, v10, v11, v12, v13, v14, v15, v16, v17, v18, v19, v20, v21, v22, rfl⟩ := len_k23 hl
        have hB2 := (show Box gq (t + 2) b2 26 [encA .u8 d3, [.int .i64 x2], encA .i64 d4, [.slice a2 n2 c2]] [8, 1, 2, 1] from hf _ (List.mem_of_getElem? (i := 2) rfl) (by kernel_rfl))
        have e15 := (show v15 = .bool false from hf _ (List.mem_of_getElem? (i := 24) rfl) (by kernel_rfl))
        subst e15
        refine WP.loadB (v := AG [encA .u8 d3, [.int .i64 x2], encA .i64 d4, [.slice a2 n2 c2]]) hB2 (by kernel_rfl) (by kernel_rfl) ?_
        refine WP.done (by kernel_rfl) (Shown.ok (v := AG [encA .u8 d3, [.int .i64 x2], encA .i64 d4, [.slice a2 n2 c2]]) (by kernel_rfl) (Step.refl _ _) ?_)
        exact ⟨trivial, trivial, trivial, trivial, trivial, trivial, trivial, trivial, trivial, trivial, trivial, trivial, trivial, trivial, trivial, trivial, trivial, trivial, trivial, trivial, trivial, trivial, trivial, trivial, trivial, trivial, rfl, trivial, trivial, trivial, trivial, trivial, trivial, trivial, trivial⟩
      · intro vs gq stq hl hf
        obtain ⟨v0, v1, v2, v3, v4, v5, v6, v7, v8, v9, v10, v11, v12, v13, v14, v15, v16, v17, v18, v19, v20, v21, v22, rfl⟩ := len_k23 hl
        have hR2 := (show RdS k_S_baizeref47_Held gq 60 a2 n2 c2 l2 from hf _ (List.mem_of_getElem? (i := 3) rfl) (by kernel_rfl))
        have e15 := (show v15 = .bool false from hf _ (List.mem_of_getElem? (i := 24) rfl) (by kernel_rfl))
        subst e15
        have e17 := (show v17 = AG [encA .u8 d3, [.int .i64 x2], encA .i64 d4, [.slice a2 n2 c2]] from hf _ (List.mem_of_getElem? (i := 26) rfl) (by kernel_rfl))
        subst e17
        have hcal57 := P.baizelaw47_Own gq (t + 26) d3 x2 d4 l2 a2 n2 c2 hR2 d39 x48 d40 l18 hk57
        refine WP.callC hcal57 (by kernel_rfl) ?_
        rintro _ g110 st110 ⟨a18, n18, c18, rfl, hR18⟩
        obtain rfl := hR18.len
        refine WP.done (by kernel_rfl) (Shown.ok (v := AG [encA .u8 d39, [.int .i64 x48], encA .i64 d40, [.slice a18 l18.length c18]]) (by kernel_rfl) st110.pure ?_)
        exact ⟨trivial, trivial, trivial, trivial, trivial, trivial, trivial, trivial, trivial, trivial, trivial, trivial, trivial, trivial, trivial, trivial, trivial, trivial, trivial, trivial, trivial, trivial, trivial, trivial, trivial, trivial, trivial, ⟨a18, c18, rfl, hR18⟩, trivial, trivial, trivial, trivial, trivial, trivial, trivial⟩
      · intro vs gq stq hl hf
        obtain ⟨v0, v1, v2, v3, v4, v5, v6, v7, v8, v9, v10, v11, v12, v13, v14, v15, v16, v17, v18, v19, v20, v21, v22, rfl⟩ := len_k23 hl
        have hR3 := (show OwnS k_S_purse_Held gq (t + 3) 56 a3 n3 c3 l3 from hf _ (List.mem_of_getElem? (i := 20) rfl) (by kernel_rfl))
        have e15 := (show v15 = .bool false from hf _ (List.mem_of_getElem? (i := 24) rfl) (by kernel_rfl))
        subst e15
        have e16 := (show v16 = AG [encA .u8 d5, [.int .i64 x4], encA .i64 d6, [.slice a3 n3 c3]] from hf _ (List.mem_of_getElem? (i := 25) rfl) (by kernel_rfl))
        subst e16
        obtain ⟨a18, c18, e18, hR18⟩ := (show ∃ (a18 : Option Addr) (c18 : Nat), v18 = AG [encA .u8 d39, [.int .i64 x48], encA .i64 d40, [.slice a18 l18.length c18]] ∧ OwnS k_S_purse_Held gq (t + 26) 56 a18 l18.length c18 l18 from hf _ (List.mem_of_getElem? (i := 27) rfl) (by kernel_rfl))
        subst e18
        have hS16 : 0 ∉ ([(t + 3), (t + 26)] : List Nat) := by simp <;> omega
        have stl16 := GW.lend_step gq [(t + 3), (t + 26)]
        have hRl21 := hR3.lendTo hS16 (by simp)
        have hRl22 := hR18.lendTo hS16 (by simp)
        refine WP.regw (g' := GW.lend gq [(t + 3), (t + 26)]) rfl ?_
        have hcal58 := P.purse_Same (GW.lend gq [(t + 3), (t + 26)]) d5 x4 d6 l3 d39 x48 d40 l18 a3 n3 c3 a18 l18.length c18 hRl21 hRl22 q37 hk58
        refine WP.callC hcal58 (by kernel_rfl) ?_
        rintro _ g111 st111 rfl
        have st112 := (GW.back_step st111).lentS
        have hO21 := hR3.backTo hS16 (by simp) st111 (fun x => x)
        have hO22 := hR18.backTo hS16 (by simp) st111 (fun x => x)
        refine WP.regw (g' := GW.back gq g111 [(t + 3), (t + 26)]) rfl ?_
        generalize GW.back gq g111 [(t + 3), (t + 26)] = g112 at *
        refine WP.done (by kernel_rfl) (Shown.ok (v := .bool q37) (by kernel_rfl) st112 ?_)
        exact ⟨trivial, trivial, trivial, trivial, trivial, trivial, trivial, trivial, trivial, trivial, trivial, trivial, trivial, trivial, trivial, trivial, trivial, trivial, trivial, trivial, trivial, trivial, trivial, trivial, trivial, trivial, trivial, trivial, rfl, hO21, ⟨a18, c18, rfl, hO22⟩, trivial, trivial, trivial, trivial⟩
      · intro vs gq stq hl hf
        obtain ⟨v0, v1, v2, v3, v4, v5, v6, v7, v8, v9, v10, v11, v12, v13, v14, v15, v16, v17, v18, v19, v20, v21, v22, rfl⟩ := len_k23 hl
        have hB1 := (show Box gq (t + 1) b1 26 [encA .u8 d1, [.int .i64 x1], encA .i64 d2, [.slice a1 n1 c1]] [8, 1, 2, 1] from hf _ (List.mem_of_getElem? (i := 0) rfl) (by kernel_rfl))
        have e15 := (show v15 = .bool false from hf _ (List.mem_of_getElem? (i := 24) rfl) (by kernel_rfl))
        subst e15
        refine WP.loadB (v := AG [encA .u8 d1, [.int .i64 x1], encA .i64 d2, [.slice a1 n1 c1]]) hB1 (by kernel_rfl) (by kernel_rfl) ?_
        refine WP.done (by kernel_rfl) (Shown.ok (v := AG [encA .u8 d1, [.int .i64 x1], encA .i64 d2, [.slice a1 n1 c1]]) (by kernel_rfl) (Step.refl _ _) ?_)
        exact ⟨trivial, trivial, trivial, trivial, trivial, trivial, trivial, trivial, trivial, trivial, trivial, trivial, trivial, trivial, trivial, trivial, trivial, trivial, trivial, trivial, trivial, trivial, trivial, trivial, trivial, trivial, trivial, trivial, trivial, trivial, trivial, rfl, trivial, trivial, trivial⟩
      · intro vs gq stq hl hf
        obtain ⟨v0, v1, v2, v3, v4, v5, v6, v7, v8, v9, v10, v11, v12, v13, v14, v15, v16, v17, v18, v19, v20, v21, v22, rfl⟩ := len_k23 hl
        have hB2 := (show Box gq (t + 2) b2 26 [encA .u8 d3, [.int .i64 x2], encA .i64 d4, [.slice a2 n2 c2]] [8, 1, 2, 1] from hf _ (List.mem_of_getElem? (i := 2) rfl) (by kernel_rfl))
        have e15 := (show v15 = .bool false from hf _ (List.mem_of_getElem? (i := 24) rfl) (by kernel_rfl))
        subst e15
        refine WP.loadB (v := AG [encA .u8 d3, [.int .i64 x2], encA .i64 d4, [.slice a2 n2 c2]]) hB2 (by kernel_rfl) (by kernel_rfl) ?_
        refine WP.done (by kernel_rfl) (Shown.ok (v := AG [encA .u8 d3, [.int .i64 x2], encA .i64 d4, [.slice a2 n2 c2]]) (by kernel_rfl) (Step.refl _ _) ?_)
        exact ⟨trivial, trivial, trivial, trivial, trivial, trivial, trivial, trivial, trivial, trivial, trivial, trivial, trivial, trivial, trivial, trivial, trivial, trivial, trivial, trivial, trivial, trivial, trivial, trivial, trivial, trivial, trivial, trivial, trivial, trivial, trivial, trivial, rfl, trivial, trivial⟩
      · intro vs gq stq hl hf
        obtain ⟨v0, v1, v2, v3, v4, v5, v6, v7, v8, v9, v10, v11, v12, v13, v14, v15, v16, v17, v18, v19, v20, v21, v22, rfl⟩ := len_k23 hl
        have hR1 := (show RdS k_S_baizeref47_Held gq 60 a1 n1 c1 l1 from hf _ (List.mem_of_getElem? (i := 1) rfl) (by kernel_rfl))
        have hR2 := (show RdS k_S_baizeref47_Held gq 60 a2 n2 c2 l2 from hf _ (List.mem_of_getElem? (i := 3) rfl) (by kernel_rfl))
        have e15 := (show v15 = .bool false from hf _ (List.mem_of_getElem? (i := 24) rfl) (by kernel_rfl))
        subst e15
        have e20 := (show v20 = AG [encA .u8 d1, [.int .i64 x1], encA .i64 d2, [.slice a1 n1 c1]] from hf _ (List.mem_of_getElem? (i := 31) rfl) (by kernel_rfl))
        subst e20
        have e21 := (show v21 = AG [encA .u8 d3, [.int .i64 x2], encA .i64 d4, [.slice a2 n2 c2]] from hf _ (List.mem_of_getElem? (i := 32) rfl) (by kernel_rfl))
        subst e21
        have hcal59 := P.baizeref47_Same gq d1 x1 d2 l1 d3 x2 d4 l2 a1 n1 c1 a2 n2 c2 hR1 hR2 q38 hk59
        refine WP.callC hcal59 (by kernel_rfl) ?_
        rintro _ g113 st113 rfl
        refine WP.done (by kernel_rfl) (Shown.ok (v := .bool q38) (by kernel_rfl) st113.pure ?_)
        exact ⟨trivial, trivial, trivial, trivial, trivial, trivial, trivial, trivial, trivial, trivial, trivial, trivial, trivial, trivial, trivial, trivial, trivial, trivial, trivial, trivial, trivial, trivial, trivial, trivial, trivial, trivial, trivial, trivial, trivial, trivial, trivial, trivial, trivial, rfl, trivial⟩
    intro vs g114 st114 hl hf
    obtain ⟨v0, v1, v2, v3, v4, v5, v6, v7, v8, v9, v10, v11, v12, v13, v14, v15, v16, v17, v18, v19, v20, v21, v22, rfl⟩ := len_k23 hl
    have e15 := (show v15 = .bool false from hf _ (List.mem_of_getElem? (i := 24) rfl) (by kernel_rfl))
    subst e15
    have e19 := (show v19 = .bool q37 from hf _ (List.mem_of_getElem? (i := 28) rfl) (by kernel_rfl))
    subst e19
    have hR3 := (show OwnS k_S_purse_Held g114 (t + 3) 56 a3 n3 c3 l3 from hf _ (List.mem_of_getElem? (i := 29) rfl) (by kernel_rfl))
    have e22 := (show v22 = .bool q38 from hf _ (List.mem_of_getElem? (i := 33) rfl) (by kernel_rfl))
    subst e22
    replace hB1 := hB1.mono st114 (WL.no2 (by omega) (by omega))
    replace hR1 := hR1.mono st114 (WL.no2 (by omega) (by omega))
    replace hB2 := hB2.mono st114 (WL.no2 (by omega) (by omega))
    replace hR2 := hR2.mono st114 (WL.no2 (by omega) (by omega))
    replace hB3 := hB3.mono st114 (WL.no2 (by omega) (by omega))
    replace tot := tot.trans (st114.up2 (.inr (by omega)) (.inr (by omega)))
    refine NX.post ?_
    exact ⟨(!(q37 == q38)), ⟨by kernel_rfl, by kernel_rfl⟩, tot, hB1, hR1, hB2, hR2, hB3, hR3, hs⟩
  clear tot hs hB1 hR1 hB2 hR2 hB3 hR3
  rintro tm g ⟨q7, hF, tot, hB1, hR1, hB2, hR2, hB3, hR3, hs⟩
  clear ds
  obtain ⟨ds, rfl⟩ := hF.open
  clear hF
  unfold F.baizelaw47_PurseChecks.c2 at hs
  refine CP.cond (b := q7) (by kernel_rfl) (fun h6 => ?_) (fun h6 => ?_)
  · replace hs := of_if_t hs h6
    refine CP.seqR ?_
    refine WP.still 1 (by kernel_rfl) ?_
    refine WP.done (by kernel_rfl) ?_
    refine NX.then_n ?_
    refine CP.ret ?_
    refine NX.then_r ?_
    replace hs := Option.some.inj hs
    obtain rfl := hs
    exact NX.fin (v := .bool false) (Res.still (by kernel_rfl)) tot htL rfl
  replace hs := of_if_f hs h6
  refine CP.skip ?_
  refine NX.then_n ?_
  refine CP.seq ?_
  refine CP.seqR ?_
  refine WP.still 1 (by kernel_rfl) ?_
  refine WP.done (by kernel_rfl) ?_
  refine NX.then_n ?_
  refine CP.block ?_
  obtain ⟨g97, hw2, st97, hnew⟩ := hR3.freeze (by omega)
  refine CP.regw hw2 ?_
  replace hB1 := hB1.mono st97 (WL.no1 (by omega))
  replace hR1 := hR1.mono st97 (WL.no1 (by omega))
  replace hB2 := hB2.mono st97 (WL.no1 (by omega))
  replace hR2 := hR2.mono st97 (WL.no1 (by omega))
  replace hB3 := hB3.mono st97 (WL.no1 (by omega))
  replace tot := tot.trans (st97.up1 (.inr (by omega)))
  clear hR3
  have hR3 := hnew
  clear hnew
  generalize fuel = k1 at hs
  refine CP.loop (fun k1 tm g => ∃ (l8 : List S_purse_Held) (a8 : Option Addr) (n8 : Nat) (c8 : Nat) (x22 : Int), Fr 148 [(3, .pointer (some ⟨b1, 0, none⟩)), (4, .pointer (some ⟨b2, 0, none⟩)), (7, .pointer (some ⟨b3, 0, none⟩)), (8, .int .i64 x22)] tm ∧ Step (fun l => NoM l ∨ t ≤ l) g0 g ∧ Box g (t + 1) b1 26 [encA .u8 d1, [.int .i64 x1], encA .i64 d2, [.slice a1 n1 c1]] [8, 1, 2, 1] ∧ RdS k_S_baizeref47_Held g 60 a1 n1 c1 l1 ∧ Box g (t + 2) b2 26 [encA .u8 d3, [.int .i64 x2], encA .i64 d4, [.slice a2 n2 c2]] [8, 1, 2, 1] ∧ RdS k_S_baizeref47_Held g 60 a2 n2 c2 l2 ∧ Box g (t + 4) b3 32 [encA .u8 d5, [.int .i64 x4], encA .i64 d6, [.slice a8 n8 c8]] [8, 1, 2, 1] ∧ RdS k_S_purse_Held g 56 a8 n8 c8 l8 ∧ F.baizelaw47_PurseChecks.l1 d1 x1 d2 l1 l2 d5 x4 d6 k1 l8 x22 = some o1) k1 ?_ ?_ ?_
  · exact ⟨l3, a3, n3, c3, 0, ⟨by kernel_rfl, by kernel_rfl⟩, tot, hB1, hR1, hB2, hR2, hB3, hR3, hs⟩
  · rintro tm g ⟨l8, a8, n8, c8, x22, hF, tot, hB1, hR1, hB2, hR2, hB3, hR8, hs⟩
    exact absurd hs (by simp [F.baizelaw47_PurseChecks.l1])
  clear tot hs hB1 hR1 hB2 hR2 hB3 hR3
  rintro k1 tm g ⟨l8, a8, n8, c8, x22, hF, tot, hB1, hR1, hB2, hR2, hB3, hR8, hs⟩
  clear ds
  obtain ⟨ds, rfl⟩ := hF.open
  clear hF
  unfold F.baizelaw47_PurseChecks.l1 at hs
  refine CP.seq ?_
  refine CP.seqR ?_
  refine WP.still 2 (by kernel_rfl) ?_
  refine WP.loadB (v := .slice a2 n2 c2) hB2 (by kernel_rfl) (by kernel_rfl) ?_
  refine WP.len (a := a2) (cp := c2) hR2.len (by kernel_rfl) ?_
  refine WP.still 1 (by kernel_rfl) ?_
  refine WP.done (by kernel_rfl) ?_
  refine NX.then_n ?_
  refine CP.cond (b := decide (x22 < (l2.length : Int))) (by kernel_rfl) (fun h31 => ?_) (fun h31 => ?_)
  · replace hs := of_if_t hs h31
    refine CP.skip ?_
    refine NX.then_n ?_
    refine CP.seq ?_
    refine CP.block ?_
    refine CP.seq ?_
    by_cases hc8 : (0 : Int) ≤ x22 ∧ x22 < (l2.length : Int)
    case neg => rw [if_neg hc8] at hs; cases hs
    replace hs := of_if_p hs hc8
    replace hs := Option.bind_eq_some_iff.1 hs
    obtain ⟨⟨d26, x33, x34, x35, q25⟩, hk35, hs⟩ := hs
    dsimp only at hs
    obtain ⟨b17, u8, ha8⟩ := hR2.at hc8
    refine CP.drawL (by kernel_rfl) [0, 2, 4, 6, 7, 11, 12] N.baizelaw47_PurseChecks_0 [⟨none, [], [], fun l g => Box g (t + 2) b2 26 [encA .u8 d3, [.int .i64 x2], encA .i64 d4, [.slice a2 n2 c2]] [8, 1, 2, 1]⟩, ⟨none, [], [], fun l g => RdS k_S_baizeref47_Held g 60 a2 n2 c2 l2⟩, ⟨none, [], [], fun l g => Box g (t + 4) b3 32 [encA .u8 d5, [.int .i64 x4], encA .i64 d6, [.slice a8 n8 c8]] [8, 1, 2, 1]⟩, ⟨none, [], [], fun l g => RdS k_S_purse_Held g 56 a8 n8 c8 l8⟩, ⟨some 0, [], [0], fun l g => l.getD 0 undef = AG [encA .u8 d5, [.int .i64 x4], encA .i64 d6, [.slice a8 n8 c8]]⟩, ⟨some 1, [], [1], fun l g => l.getD 0 undef = .slice a2 n2 c2⟩, ⟨some 2, [], [2], fun l g => l.getD 0 undef = .pointer (some ⟨b17, u8 + x22.toNat * 11, none⟩)⟩, ⟨some 3, [], [3], fun l g => l.getD 0 undef = AG [encA .u8 ((getI l2 x22).f1)]⟩, ⟨some 4, [], [4], fun l g => l.getD 0 undef = .tuple #[AG [encA .u8 d26, [.int .i64 x33], [.int .i64 x34], [.int .i64 x35]], .bool q25]⟩, ⟨some 5, [0], [5], fun l g => ∃ (b18 : Nat), l.getD 0 undef = .pointer (some ⟨b18, 0, none⟩) ∧ Box g (t + 18) b18 56 [encA .u8 (zA 8), [.int .i64 0], [.int .i64 0], [.int .i64 0]] [8, 1, 1, 1]⟩, ⟨some 6, [0], [5], fun l g => ∃ (b18 : Nat), l.getD 0 undef = .pointer (some ⟨b18, 0, none⟩) ∧ Box g (t + 18) b18 56 [encA .u8 d26, [.int .i64 x33], [.int .i64 x34], [.int .i64 x35]] [8, 1, 1, 1]⟩] [[], [], [], [], [], [], [0]] [(t + 18)] [1, 3] [5, 8, 9, 10, 13] (by kernel_rfl) (by simp <;> omega) (by simp) ⟨fun _ _ _ _ st h0 hl hj hB2 => (hB2.mono st (fun h => absurd (hl _ h) (by simp <;> omega))), fun _ _ _ _ st h0 hl hj hR2 => (RdS.mono (e := 60) hR2 st h0), fun _ _ _ _ st h0 hl hj hB3 => (hB3.mono st (fun h => absurd (hl _ h) (by simp <;> omega))), fun _ _ _ _ st h0 hl hj hR8 => (RdS.mono (e := 56) hR8 st h0), fun _ _ _ _ st h0 hl hj e0 => e0, fun _ _ _ _ st h0 hl hj e1 => e1, fun _ _ _ _ st h0 hl hj e2 => e2, fun _ _ _ _ st h0 hl hj e3 => e3, fun _ _ _ _ st h0 hl hj e4 => e4, fun _ _ _ _ st h0 hl hj ⟨b18, e5, hB17⟩ => ⟨b18, e5, (hB17.mono st (hj 0 (by simp) _ rfl))⟩, fun _ _ _ _ st h0 hl hj ⟨b18, e5, hB17⟩ => ⟨b18, e5, (hB17.mono st (hj 0 (by simp) _ rfl))⟩, trivial⟩ ⟨hB2, hR2, hB3, hR8, trivial, trivial, trivial, trivial, trivial, trivial, trivial, trivial⟩ (by kernel_rfl) (fun vs => by kernel_rfl) ?_ ?_ ?_
    · intro j hj
      have hq : j = 0 ∨ j = 1 ∨ j = 2 ∨ j = 3 ∨ j = 4 := by have h : j < 5 := hj; omega
      rcases hq with rfl | rfl | rfl | rfl | rfl
      · intro vs gq stq hl hf
        obtain ⟨v0, v1, v2, v3, v4, v5, v6, rfl⟩ := len_k7 hl
        have e2 := (show v2 = .pointer (some ⟨b17, u8 + x22.toNat * 11, none⟩) from hf _ (List.mem_of_getElem? (i := 6) rfl) (by kernel_rfl))
        subst e2
        show Option.isSome _ = true
        kernel_rfl
      · intro vs gq stq hl hf
        obtain ⟨v0, v1, v2, v3, v4, v5, v6, rfl⟩ := len_k7 hl
        have e4 := (show v4 = .tuple #[AG [encA .u8 d26, [.int .i64 x33], [.int .i64 x34], [.int .i64 x35]], .bool q25] from hf _ (List.mem_of_getElem? (i := 8) rfl) (by kernel_rfl))
        subst e4
        show Option.isSome _ = true
        kernel_rfl
      · intro vs gq stq hl hf
        obtain ⟨v0, v1, v2, v3, v4, v5, v6, rfl⟩ := len_k7 hl
        have e4 := (show v4 = .tuple #[AG [encA .u8 d26, [.int .i64 x33], [.int .i64 x34], [.int .i64 x35]], .bool q25] from hf _ (List.mem_of_getElem? (i := 8) rfl) (by kernel_rfl))
        subst e4
        show Option.isSome _ = true
        kernel_rfl
      · intro vs gq stq hl hf
        obtain ⟨v0, v1, v2, v3, v4, v5, v6, rfl⟩ := len_k7 hl
        have e4 := (show v4 = .tuple #[AG [encA .u8 d26, [.int .i64 x33], [.int .i64 x34], [.int .i64 x35]], .bool q25] from hf _ (List.mem_of_getElem? (i := 8) rfl) (by kernel_rfl))
        subst e4
        show Option.isSome _ = true
        kernel_rfl
      · intro vs gq stq hl hf
        obtain ⟨v0, v1, v2, v3, v4, v5, v6, rfl⟩ := len_k7 hl
        have e4 := (show v4 = .tuple #[AG [encA .u8 d26, [.int .i64 x33], [.int .i64 x34], [.int .i64 x35]], .bool q25] from hf _ (List.mem_of_getElem? (i := 8) rfl) (by kernel_rfl))
        subst e4
        show Option.isSome _ = true
        kernel_rfl
    · intro j hj
      have hq : j = 0 ∨ j = 1 ∨ j = 2 ∨ j = 3 ∨ j = 4 ∨ j = 5 ∨ j = 6 := by have h : j < 7 := hj; omega
      rcases hq with rfl | rfl | rfl | rfl | rfl | rfl | rfl
      · intro vs gq stq hl hf
        obtain ⟨v0, v1, v2, v3, v4, v5, v6, rfl⟩ := len_k7 hl
        have hB3 := (show Box gq (t + 4) b3 32 [encA .u8 d5, [.int .i64 x4], encA .i64 d6, [.slice a8 n8 c8]] [8, 1, 2, 1] from hf _ (List.mem_of_getElem? (i := 2) rfl) (by kernel_rfl))
        refine WP.loadB (v := AG [encA .u8 d5, [.int .i64 x4], encA .i64 d6, [.slice a8 n8 c8]]) hB3 (by kernel_rfl) (by kernel_rfl) ?_
        refine WP.done (by kernel_rfl) (Shown.ok (v := AG [encA .u8 d5, [.int .i64 x4], encA .i64 d6, [.slice a8 n8 c8]]) (by kernel_rfl) (Step.refl _ _) ?_)
        exact ⟨trivial, trivial, trivial, trivial, rfl, trivial, trivial, trivial, trivial, trivial, trivial, trivial⟩
      · intro vs gq stq hl hf
        obtain ⟨v0, v1, v2, v3, v4, v5, v6, rfl⟩ := len_k7 hl
        have hB2 := (show Box gq (t + 2) b2 26 [encA .u8 d3, [.int .i64 x2], encA .i64 d4, [.slice a2 n2 c2]] [8, 1, 2, 1] from hf _ (List.mem_of_getElem? (i := 0) rfl) (by kernel_rfl))
        refine WP.loadB (v := .slice a2 n2 c2) hB2 (by kernel_rfl) (by kernel_rfl) ?_
        refine WP.done (by kernel_rfl) (Shown.ok (v := .slice a2 n2 c2) (by kernel_rfl) (Step.refl _ _) ?_)
        exact ⟨trivial, trivial, trivial, trivial, trivial, rfl, trivial, trivial, trivial, trivial, trivial, trivial⟩
      · intro vs gq stq hl hf
        obtain ⟨v0, v1, v2, v3, v4, v5, v6, rfl⟩ := len_k7 hl
        have hR2 := (show RdS k_S_baizeref47_Held gq 60 a2 n2 c2 l2 from hf _ (List.mem_of_getElem? (i := 1) rfl) (by kernel_rfl))
        have e1 := (show v1 = .slice a2 n2 c2 from hf _ (List.mem_of_getElem? (i := 5) rfl) (by kernel_rfl))
        subst e1
        refine WP.indexA (t := 24) (e := 60) (sz := 11) (cap := c2) (k := .i64) (i := x22) hR2.len ha8 (by kernel_rfl) (by kernel_rfl) hc8 ?_
        refine WP.done (by kernel_rfl) (Shown.ok (v := .pointer (some ⟨b17, u8 + x22.toNat * 11, none⟩)) (by kernel_rfl) (Step.refl _ _) ?_)
        exact ⟨trivial, trivial, trivial, trivial, trivial, trivial, rfl, trivial, trivial, trivial, trivial, trivial⟩
      · intro vs gq stq hl hf
        obtain ⟨v0, v1, v2, v3, v4, v5, v6, rfl⟩ := len_k7 hl
        have hR2 := (show RdS k_S_baizeref47_Held gq 60 a2 n2 c2 l2 from hf _ (List.mem_of_getElem? (i := 1) rfl) (by kernel_rfl))
        have e2 := (show v2 = .pointer (some ⟨b17, u8 + x22.toNat * 11, none⟩) from hf _ (List.mem_of_getElem? (i := 6) rfl) (by kernel_rfl))
        subst e2
        obtain ⟨cs8, hcR8, hcV8⟩ := hR2.src.view (getI_some hc8) ha8
        replace hcR8 := k_S_baizeref47_Held.opn hcR8
        refine WP.loadV [encA .u8 ((getI l2 x22).f1), [.int .i64 ((getI l2 x22).f2)], [.int .i64 ((getI l2 x22).f3)], [.int .i64 ((getI l2 x22).f4)]] [8, 1, 1, 1] hcV8 hcR8 (by simp [len_encA]) (f := 0) (ty := 22) (agg := true) (size := 8) (rs := [encA .u8 ((getI l2 x22).f1)]) (v := AG [encA .u8 ((getI l2 x22).f1)]) (by kernel_rfl) (by kernel_rfl) (by kernel_rfl) (by kernel_rfl) ?_
        refine WP.done (by kernel_rfl) (Shown.ok (v := AG [encA .u8 ((getI l2 x22).f1)]) (by kernel_rfl) (Step.refl _ _) ?_)
        exact ⟨trivial, trivial, trivial, trivial, trivial, trivial, trivial, rfl, trivial, trivial, trivial, trivial⟩
      · intro vs gq stq hl hf
        obtain ⟨v0, v1, v2, v3, v4, v5, v6, rfl⟩ := len_k7 hl
        have hR8 := (show RdS k_S_purse_Held gq 56 a8 n8 c8 l8 from hf _ (List.mem_of_getElem? (i := 3) rfl) (by kernel_rfl))
        have e0 := (show v0 = AG [encA .u8 d5, [.int .i64 x4], encA .i64 d6, [.slice a8 n8 c8]] from hf _ (List.mem_of_getElem? (i := 4) rfl) (by kernel_rfl))
        subst e0
        have e3 := (show v3 = AG [encA .u8 ((getI l2 x22).f1)] from hf _ (List.mem_of_getElem? (i := 7) rfl) (by kernel_rfl))
        subst e3
        have hcal35 := P.purse_Purse_Find gq d5 x4 d6 l8 ((getI l2 x22).f1) a8 n8 c8 hR8 d26 x33 x34 x35 q25 hk35
        refine WP.callC hcal35 (by kernel_rfl) ?_
        rintro _ g60 st60 rfl
        refine WP.done (by kernel_rfl) (Shown.ok (v := .tuple #[AG [encA .u8 d26, [.int .i64 x33], [.int .i64 x34], [.int .i64 x35]], .bool q25]) (by kernel_rfl) st60.pure ?_)
        exact ⟨trivial, trivial, trivial, trivial, trivial, trivial, trivial, trivial, rfl, trivial, trivial, trivial⟩
      · intro vs gq stq hl hf
        obtain ⟨v0, v1, v2, v3, v4, v5, v6, rfl⟩ := len_k7 hl
        refine WP.alloc (T := 56) (t + 18) [encA .u8 (zA 8), [.int .i64 0], [.int .i64 0], [.int .i64 0]] [8, 1, 1, 1] (by kernel_rfl) (by simp [len_encA]) ?_
        intro g61 b18 st61 hB17
        refine WP.done (by kernel_rfl) (Shown.ok (v := .pointer (some ⟨b18, 0, none⟩)) (by kernel_rfl) st61.pure ?_)
        exact ⟨trivial, trivial, trivial, trivial, trivial, trivial, trivial, trivial, trivial, ⟨b18, rfl, hB17⟩, trivial, trivial⟩
      · intro vs gq stq hl hf
        obtain ⟨v0, v1, v2, v3, v4, v5, v6, rfl⟩ := len_k7 hl
        have e4 := (show v4 = .tuple #[AG [encA .u8 d26, [.int .i64 x33], [.int .i64 x34], [.int .i64 x35]], .bool q25] from hf _ (List.mem_of_getElem? (i := 8) rfl) (by kernel_rfl))
        subst e4
        obtain ⟨b18, e5, hB17⟩ := (show ∃ (b18 : Nat), v5 = .pointer (some ⟨b18, 0, none⟩) ∧ Box gq (t + 18) b18 56 [encA .u8 (zA 8), [.int .i64 0], [.int .i64 0], [.int .i64 0]] [8, 1, 1, 1] from hf _ (List.mem_of_getElem? (i := 9) rfl) (by kernel_rfl))
        subst e5
        refine WP.storeB (ty := 56) (off := 0) (v := AG [encA .u8 d26, [.int .i64 x33], [.int .i64 x34], [.int .i64 x35]]) hB17 [encA .u8 d26, [.int .i64 x33], [.int .i64 x34], [.int .i64 x35]] [8, 1, 1, 1] (by kernel_rfl) (by kernel_rfl) (by simp [len_encA]) (by kernel_rfl) [encA .u8 d26, [.int .i64 x33], [.int .i64 x34], [.int .i64 x35]] (by kernel_rfl) (.arr (.one rfl (.one rfl (.one rfl .nil)))) ?_
        intro g62 st62 hB18
        refine WP.done (by kernel_rfl) (Shown.ok (v := undef) (by kernel_rfl) st62 ?_)
        exact ⟨trivial, trivial, trivial, trivial, trivial, trivial, trivial, trivial, trivial, trivial, ⟨b18, rfl, hB18⟩, trivial⟩
    intro vs g63 st63 hl hf
    obtain ⟨v0, v1, v2, v3, v4, v5, v6, rfl⟩ := len_k7 hl
    have e4 := (show v4 = .tuple #[AG [encA .u8 d26, [.int .i64 x33], [.int .i64 x34], [.int .i64 x35]], .bool q25] from hf _ (List.mem_of_getElem? (i := 8) rfl) (by kernel_rfl))
    subst e4
    obtain ⟨b18, e5, hB17⟩ := (show ∃ (b18 : Nat), v5 = .pointer (some ⟨b18, 0, none⟩) ∧ Box g63 (t + 18) b18 56 [encA .u8 d26, [.int .i64 x33], [.int .i64 x34], [.int .i64 x35]] [8, 1, 1, 1] from hf _ (List.mem_of_getElem? (i := 10) rfl) (by kernel_rfl))
    subst e5
    replace hB1 := hB1.mono st63 (WL.no1 (by omega))
    replace hR1 := hR1.mono st63 (WL.no1 (by omega))
    replace hB2 := hB2.mono st63 (WL.no1 (by omega))
    replace hR2 := hR2.mono st63 (WL.no1 (by omega))
    replace hB3 := hB3.mono st63 (WL.no1 (by omega))
    replace hR8 := hR8.mono st63 (WL.no1 (by omega))
    replace tot := tot.trans (st63.up1 (.inr (by omega)))
    refine NX.then_n ?_
    refine CP.refr 148 [(3, .pointer (some ⟨b1, 0, none⟩)), (4, .pointer (some ⟨b2, 0, none⟩)), (7, .pointer (some ⟨b3, 0, none⟩)), (8, .int .i64 x22), (9, .pointer (some ⟨b18, 0, none⟩)), (10, .bool q25)] (by kernel_rfl) (by kernel_rfl) ?_
    clear ds
    intro ds
    refine CP.seq ?_
    by_cases hc9 : (0 : Int) ≤ x22 ∧ x22 < (l2.length : Int)
    case neg => rw [if_neg hc9] at hs; cases hs
    replace hs := of_if_p hs hc9
    replace hs := Option.bind_eq_some_iff.1 hs
    obtain ⟨x36, hk36, hs⟩ := hs
    obtain ⟨b19, u9, ha9⟩ := hR2.at hc9
    refine CP.drawL (by kernel_rfl) [0, 2, 4, 6, 7] N.baizelaw47_PurseChecks_1 [⟨none, [], [], fun l g => Box g (t + 1) b1 26 [encA .u8 d1, [.int .i64 x1], encA .i64 d2, [.slice a1 n1 c1]] [8, 1, 2, 1]⟩, ⟨none, [], [], fun l g => RdS k_S_baizeref47_Held g 60 a1 n1 c1 l1⟩, ⟨none, [], [], fun l g => Box g (t + 2) b2 26 [encA .u8 d3, [.int .i64 x2], encA .i64 d4, [.slice a2 n2 c2]] [8, 1, 2, 1]⟩, ⟨none, [], [], fun l g => RdS k_S_baizeref47_Held g 60 a2 n2 c2 l2⟩, ⟨some 0, [], [0], fun l g => l.getD 0 undef = AG [encA .u8 d1, [.int .i64 x1], encA .i64 d2, [.slice a1 n1 c1]]⟩, ⟨some 1, [], [1], fun l g => l.getD 0 undef = .slice a2 n2 c2⟩, ⟨some 2, [], [2], fun l g => l.getD 0 undef = .pointer (some ⟨b19, u9 + x22.toNat * 11, none⟩)⟩, ⟨some 3, [], [3], fun l g => l.getD 0 undef = AG [encA .u8 ((getI l2 x22).f1)]⟩, ⟨some 4, [], [4], fun l g => l.getD 0 undef = .int .i64 x36⟩] [[], [], [], [], []] [] [1, 3] [5, 8] (by kernel_rfl) (by simp) (by simp) ⟨fun _ _ _ _ st h0 hl hj hB1 => (hB1.mono st (fun h => absurd (hl _ h) (by simp))), fun _ _ _ _ st h0 hl hj hR1 => (RdS.mono (e := 60) hR1 st h0), fun _ _ _ _ st h0 hl hj hB2 => (hB2.mono st (fun h => absurd (hl _ h) (by simp))), fun _ _ _ _ st h0 hl hj hR2 => (RdS.mono (e := 60) hR2 st h0), fun _ _ _ _ st h0 hl hj e0 => e0, fun _ _ _ _ st h0 hl hj e1 => e1, fun _ _ _ _ st h0 hl hj e2 => e2, fun _ _ _ _ st h0 hl hj e3 => e3, fun _ _ _ _ st h0 hl hj e4 => e4, trivial⟩ ⟨hB1, hR1, hB2, hR2, trivial, trivial, trivial, trivial, trivial, trivial⟩ (by kernel_rfl) (fun vs => by kernel_rfl) ?_ ?_ ?_
    · intro j hj
      have hq : j = 0 ∨ j = 1 := by have h : j < 2 := hj; omega
      rcases hq with rfl | rfl
      · intro vs gq stq hl hf
        obtain ⟨v0, v1, v2, v3, v4, rfl⟩ := len_k5 hl
        have e2 := (show v2 = .pointer (some ⟨b19, u9 + x22.toNat * 11, none⟩) from hf _ (List.mem_of_getElem? (i := 6) rfl) (by kernel_rfl))
        subst e2
        show Option.isSome _ = true
        kernel_rfl
      · intro vs gq stq hl hf
        obtain ⟨v0, v1, v2, v3, v4, rfl⟩ := len_k5 hl
        have e4 := (show v4 = .int .i64 x36 from hf _ (List.mem_of_getElem? (i := 8) rfl) (by kernel_rfl))
        subst e4
        show Option.isSome _ = true
        kernel_rfl
    · intro j hj
      have hq : j = 0 ∨ j = 1 ∨ j = 2 ∨ j = 3 ∨ j = 4 := by have h : j < 5 := hj; omega
      rcases hq with rfl | rfl | rfl | rfl | rfl
      · intro vs gq stq hl hf
        obtain ⟨v0, v1, v2, v3, v4, rfl⟩ := len_k5 hl
        have hB1 := (show Box gq (t + 1) b1 26 [encA .u8 d1, [.int .i64 x1], encA .i64 d2, [.slice a1 n1 c1]] [8, 1, 2, 1] from hf _ (List.mem_of_getElem? (i := 0) rfl) (by kernel_rfl))
        refine WP.loadB (v := AG [encA .u8 d1, [.int .i64 x1], encA .i64 d2, [.slice a1 n1 c1]]) hB1 (by kernel_rfl) (by kernel_rfl) ?_
        refine WP.done (by kernel_rfl) (Shown.ok (v := AG [encA .u8 d1, [.int .i64 x1], encA .i64 d2, [.slice a1 n1 c1]]) (by kernel_rfl) (Step.refl _ _) ?_)
        exact ⟨trivial, trivial, trivial, trivial, rfl, trivial, trivial, trivial, trivial, trivial⟩
      · intro vs gq stq hl hf
        obtain ⟨v0, v1, v2, v3, v4, rfl⟩ := len_k5 hl
        have hB2 := (show Box gq (t + 2) b2 26 [encA .u8 d3, [.int .i64 x2], encA .i64 d4, [.slice a2 n2 c2]] [8, 1, 2, 1] from hf _ (List.mem_of_getElem? (i := 2) rfl) (by kernel_rfl))
        refine WP.loadB (v := .slice a2 n2 c2) hB2 (by kernel_rfl) (by kernel_rfl) ?_
        refine WP.done (by kernel_rfl) (Shown.ok (v := .slice a2 n2 c2) (by kernel_rfl) (Step.refl _ _) ?_)
        exact ⟨trivial, trivial, trivial, trivial, trivial, rfl, trivial, trivial, trivial, trivial⟩
      · intro vs gq stq hl hf
        obtain ⟨v0, v1, v2, v3, v4, rfl⟩ := len_k5 hl
        have hR2 := (show RdS k_S_baizeref47_Held gq 60 a2 n2 c2 l2 from hf _ (List.mem_of_getElem? (i := 3) rfl) (by kernel_rfl))
        have e1 := (show v1 = .slice a2 n2 c2 from hf _ (List.mem_of_getElem? (i := 5) rfl) (by kernel_rfl))
        subst e1
        refine WP.indexA (t := 24) (e := 60) (sz := 11) (cap := c2) (k := .i64) (i := x22) hR2.len ha9 (by kernel_rfl) (by kernel_rfl) hc9 ?_
        refine WP.done (by kernel_rfl) (Shown.ok (v := .pointer (some ⟨b19, u9 + x22.toNat * 11, none⟩)) (by kernel_rfl) (Step.refl _ _) ?_)
        exact ⟨trivial, trivial, trivial, trivial, trivial, trivial, rfl, trivial, trivial, trivial⟩
      · intro vs gq stq hl hf
        obtain ⟨v0, v1, v2, v3, v4, rfl⟩ := len_k5 hl
        have hR2 := (show RdS k_S_baizeref47_Held gq 60 a2 n2 c2 l2 from hf _ (List.mem_of_getElem? (i := 3) rfl) (by kernel_rfl))
        have e2 := (show v2 = .pointer (some ⟨b19, u9 + x22.toNat * 11, none⟩) from hf _ (List.mem_of_getElem? (i := 6) rfl) (by kernel_rfl))
        subst e2
        obtain ⟨cs9, hcR9, hcV9⟩ := hR2.src.view (getI_some hc9) ha9
        replace hcR9 := k_S_baizeref47_Held.opn hcR9
        refine WP.loadV [encA .u8 ((getI l2 x22).f1), [.int .i64 ((getI l2 x22).f2)], [.int .i64 ((getI l2 x22).f3)], [.int .i64 ((getI l2 x22).f4)]] [8, 1, 1, 1] hcV9 hcR9 (by simp [len_encA]) (f := 0) (ty := 22) (agg := true) (size := 8) (rs := [encA .u8 ((getI l2 x22).f1)]) (v := AG [encA .u8 ((getI l2 x22).f1)]) (by kernel_rfl) (by kernel_rfl) (by kernel_rfl) (by kernel_rfl) ?_
        refine WP.done (by kernel_rfl) (Shown.ok (v := AG [encA .u8 ((getI l2 x22).f1)]) (by kernel_rfl) (Step.refl _ _) ?_)
        exact ⟨trivial, trivial, trivial, trivial, trivial, trivial, trivial, rfl, trivial, trivial⟩
      · intro vs gq stq hl hf
        obtain ⟨v0, v1, v2, v3, v4, rfl⟩ := len_k5 hl
        have hR1 := (show RdS k_S_baizeref47_Held gq 60 a1 n1 c1 l1 from hf _ (List.mem_of_getElem? (i := 1) rfl) (by kernel_rfl))
        have e0 := (show v0 = AG [encA .u8 d1, [.int .i64 x1], encA .i64 d2, [.slice a1 n1 c1]] from hf _ (List.mem_of_getElem? (i := 4) rfl) (by kernel_rfl))
        subst e0
        have e3 := (show v3 = AG [encA .u8 ((getI l2 x22).f1)] from hf _ (List.mem_of_getElem? (i := 7) rfl) (by kernel_rfl))
        subst e3
        have hcal36 := P.baizeref47_Place gq d1 x1 d2 l1 ((getI l2 x22).f1) a1 n1 c1 hR1 x36 hk36
        refine WP.callC hcal36 (by kernel_rfl) ?_
        rintro _ g64 st64 rfl
        refine WP.done (by kernel_rfl) (Shown.ok (v := .int .i64 x36) (by kernel_rfl) st64.pure ?_)
        exact ⟨trivial, trivial, trivial, trivial, trivial, trivial, trivial, trivial, rfl, trivial⟩
    intro vs g65 st65 hl hf
    obtain ⟨v0, v1, v2, v3, v4, rfl⟩ := len_k5 hl
    have e4 := (show v4 = .int .i64 x36 from hf _ (List.mem_of_getElem? (i := 8) rfl) (by kernel_rfl))
    subst e4
    replace hB1 := hB1.mono st65.toNo (fun x => x)
    replace hR1 := hR1.mono st65.toNo (fun x => x)
    replace hB2 := hB2.mono st65.toNo (fun x => x)
    replace hR2 := hR2.mono st65.toNo (fun x => x)
    replace hB3 := hB3.mono st65.toNo (fun x => x)
    replace hR8 := hR8.mono st65.toNo (fun x => x)
    replace hB17 := hB17.mono st65.toNo (fun x => x)
    replace tot := tot.trans st65.toNo.pure
    refine NX.then_n ?_
    refine CP.refr 148 [(3, .pointer (some ⟨b1, 0, none⟩)), (4, .pointer (some ⟨b2, 0, none⟩)), (7, .pointer (some ⟨b3, 0, none⟩)), (8, .int .i64 x22), (9, .pointer (some ⟨b18, 0, none⟩)), (10, .bool q25), (11, .int .i64 x36)] (by kernel_rfl) (by kernel_rfl) ?_
    clear ds
    intro ds
    refine CP.cut (fun tm g => ∃ (q26 : Bool), Fr 148 [(3, .pointer (some ⟨b1, 0, none⟩)), (4, .pointer (some ⟨b2, 0, none⟩)), (7, .pointer (some ⟨b3, 0, none⟩)), (8, .int .i64 x22), (106, .bool q26)] tm ∧ Step (fun l => NoM l ∨ t ≤ l) g0 g ∧ Box g (t + 1) b1 26 [encA .u8 d1, [.int .i64 x1], encA .i64 d2, [.slice a1 n1 c1]] [8, 1, 2, 1] ∧ RdS k_S_baizeref47_Held g 60 a1 n1 c1 l1 ∧ Box g (t + 2) b2 26 [encA .u8 d3, [.int .i64 x2], encA .i64 d4, [.slice a2 n2 c2]] [8, 1, 2, 1] ∧ RdS k_S_baizeref47_Held g 60 a2 n2 c2 l2 ∧ Box g (t + 4) b3 32 [encA .u8 d5, [.int .i64 x4], encA .i64 d6, [.slice a8 n8 c8]] [8, 1, 2, 1] ∧ RdS k_S_purse_Held g 56 a8 n8 c8 l8 ∧ (F.baizelaw47_PurseChecks.c3 (F.baizelaw47_PurseChecks.l1 d1 x1 d2 l1 l2 d5 x4 d6 k1) l8 x22 q26) = some o1) ?_ ?_
    · refine bool_split (b := (!(q25 == (decide (x36 ≥ 0))))) (fun h38 => ?_) (fun h38 => ?_)
      · replace hs := of_if_t hs h38
        refine CP.drawL (by kernel_rfl) [4] N.baizelaw47_PurseChecks_2 [⟨some 0, [], [0], fun l g => l.getD 0 undef = .bool true⟩] [[]] [] [0, 1, 2, 3] [5, 6, 7, 8, 9, 10, 11, 12, 13, 14, 15, 16, 17, 18, 19, 20, 21, 22, 23, 24, 25] (by kernel_rfl) (by simp) (by simp) ⟨fun _ _ _ _ st h0 hl hj e0 => e0, trivial⟩ ⟨trivial, trivial⟩ (by kernel_rfl) (fun vs => by kernel_rfl) ?_ ?_ ?_
        · intro j hj
          have hq : j = 0 ∨ j = 1 ∨ j = 2 ∨ j = 3 ∨ j = 4 ∨ j = 5 ∨ j = 6 ∨ j = 7 ∨ j = 8 ∨ j = 9 ∨ j = 10 ∨ j = 11 ∨ j = 12 ∨ j = 13 ∨ j = 14 ∨ j = 15 ∨ j = 16 ∨ j = 17 ∨ j = 18 ∨ j = 19 ∨ j = 20 := by have h : j < 21 := hj; omega
          rcases hq with rfl | rfl | rfl | rfl | rfl | rfl | rfl | rfl | rfl | rfl | rfl | rfl | rfl | rfl | rfl | rfl | rfl | rfl | rfl | rfl | rfl
          · intro vs gq stq hl hf
            obtain ⟨v0, rfl⟩ := len_k1 hl
            have e0 := (show v0 = .bool true from hf _ (List.mem_of_getElem? (i := 0) rfl) (by kernel_rfl))
            subst e0
            show Option.isSome _ = true
            kernel_rfl
          · intro vs gq stq hl hf
            obtain ⟨v0, rfl⟩ := len_k1 hl
            have e0 := (show v0 = .bool true from hf _ (List.mem_of_getElem? (i := 0) rfl) (by kernel_rfl))
            subst e0
            show Option.isSome _ = true
            kernel_rfl
          · intro vs gq stq hl hf
            obtain ⟨v0, rfl⟩ := len_k1 hl
            have e0 := (show v0 = .bool true from hf _ (List.mem_of_getElem? (i := 0) rfl) (by kernel_rfl))
            subst e0
            show Option.isSome _ = true
            kernel_rfl
          · intro vs gq stq hl hf
            obtain ⟨v0, rfl⟩ := len_k1 hl
            have e0 := (show v0 = .bool true from hf _ (List.mem_of_getElem? (i := 0) rfl) (by kernel_rfl))
            subst e0
            show Option.isSome _ = true
            kernel_rfl
          · intro vs gq stq hl hf
            obtain ⟨v0, rfl⟩ := len_k1 hl
            have e0 := (show v0 = .bool true from hf _ (List.mem_of_getElem? (i := 0) rfl) (by kernel_rfl))
            subst e0
            show Option.isSome _ = true
            kernel_rfl
          · intro vs gq stq hl hf
            obtain ⟨v0, rfl⟩ := len_k1 hl
            have e0 := (show v0 = .bool true from hf _ (List.mem_of_getElem? (i := 0) rfl) (by kernel_rfl))
            subst e0
            show Option.isSome _ = true
            kernel_rfl
          · intro vs gq stq hl hf
            obtain ⟨v0, rfl⟩ := len_k1 hl
            have e0 := (show v0 = .bool true from hf _ (List.mem_of_getElem? (i := 0) rfl) (by kernel_rfl))
            subst e0
            show Option.isSome _ = true
            kernel_rfl
          · intro vs gq stq hl hf
            obtain ⟨v0, rfl⟩ := len_k1 hl
            have e0 := (show v0 = .bool true from hf _ (List.mem_of_getElem? (i := 0) rfl) (by kernel_rfl))
            subst e0
            show Option.isSome _ = true
            kernel_rfl
          · intro vs gq stq hl hf
            obtain ⟨v0, rfl⟩ := len_k1 hl
            have e0 := (show v0 = .bool true from hf _ (List.mem_of_getElem? (i := 0) rfl) (by kernel_rfl))
            subst e0
            show Option.isSome _ = true
            kernel_rfl
          · intro vs gq stq hl hf
            obtain ⟨v0, rfl⟩ := len_k1 hl
            have e0 := (show v0 = .bool true from hf _ (List.mem_of_getElem? (i := 0) rfl) (by kernel_rfl))
            subst e0
            show Option.isSome _ = true
            kernel_rfl
          · intro vs gq stq hl hf
            obtain ⟨v0, rfl⟩ := len_k1 hl
            have e0 := (show v0 = .bool true from hf _ (List.mem_of_getElem? (i := 0) rfl) (by kernel_rfl))
            subst e0
            show Option.isSome _ = true
            kernel_rfl
          · intro vs gq stq hl hf
            obtain ⟨v0, rfl⟩ := len_k1 hl
            have e0 := (show v0 = .bool true from hf _ (List.mem_of_getElem? (i := 0) rfl) (by kernel_rfl))
            subst e0
            show Option.isSome _ = true
            kernel_rfl
          · intro vs gq stq hl hf
            obtain ⟨v0, rfl⟩ := len_k1 hl
            have e0 := (show v0 = .bool true from hf _ (List.mem_of_getElem? (i := 0) rfl) (by kernel_rfl))
            subst e0
            show Option.isSome _ = true
            kernel_rfl
          · intro vs gq stq hl hf
            obtain ⟨v0, rfl⟩ := len_k1 hl
            have e0 := (show v0 = .bool true from hf _ (List.mem_of_getElem? (i := 0) rfl) (by kernel_rfl))
            subst e0
            show Option.isSome _ = true
            kernel_rfl
          · intro vs gq stq hl hf
            obtain ⟨v0, rfl⟩ := len_k1 hl
            have e0 := (show v0 = .bool true from hf _ (List.mem_of_getElem? (i := 0) rfl) (by kernel_rfl))
            subst e0
            show Option.isSome _ = true
            kernel_rfl
          · intro vs gq stq hl hf
            obtain ⟨v0, rfl⟩ := len_k1 hl
            have e0 := (show v0 = .bool true from hf _ (List.mem_of_getElem? (i := 0) rfl) (by kernel_rfl))
            subst e0
            show Option.isSome _ = true
            kernel_rfl
          · intro vs gq stq hl hf
            obtain ⟨v0, rfl⟩ := len_k1 hl
            have e0 := (show v0 = .bool true from hf _ (List.mem_of_getElem? (i := 0) rfl) (by kernel_rfl))
            subst e0
            show Option.isSome _ = true
            kernel_rfl
          · intro vs gq stq hl hf
            obtain ⟨v0, rfl⟩ := len_k1 hl
            have e0 := (show v0 = .bool true from hf _ (List.mem_of_getElem? (i := 0) rfl) (by kernel_rfl))
            subst e0
            show Option.isSome _ = true
            kernel_rfl
          · intro vs gq stq hl hf
            obtain ⟨v0, rfl⟩ := len_k1 hl
            have e0 := (show v0 = .bool true from hf _ (List.mem_of_getElem? (i := 0) rfl) (by kernel_rfl))
            subst e0
            show Option.isSome _ = true
            kernel_rfl
          · intro vs gq stq hl hf
            obtain ⟨v0, rfl⟩ := len_k1 hl
            have e0 := (show v0 = .bool true from hf _ (List.mem_of_getElem? (i := 0) rfl) (by kernel_rfl))
            subst e0
            show Option.isSome _ = true
            kernel_rfl
          · intro vs gq stq hl hf
            obtain ⟨v0, rfl⟩ := len_k1 hl
            have e0 := (show v0 = .bool true from hf _ (List.mem_of_getElem? (i := 0) rfl) (by kernel_rfl))
            subst e0
            show Option.isSome _ = true
            kernel_rfl
        · intro j hj
          have hq : j = 0 := by have h : j < 1 := hj; omega
          rcases hq with rfl
          · intro vs gq stq hl hf
            obtain ⟨v0, rfl⟩ := len_k1 hl
            refine WP.still 1 (by kernel_rfl) ?_
            refine WP.done (by kernel_rfl) (Shown.ok (v := .bool (!(q25 == (decide (x36 ≥ 0))))) (by kernel_rfl) (Step.refl _ _) ?_)
            exact ⟨congrArg Value.bool h38, trivial⟩
        intro vs g67 st67 hl hf
        obtain ⟨v0, rfl⟩ := len_k1 hl
        have e0 := (show v0 = .bool true from hf _ (List.mem_of_getElem? (i := 0) rfl) (by kernel_rfl))
        subst e0
        replace hB1 := hB1.mono st67.toNo (fun x => x)
        replace hR1 := hR1.mono st67.toNo (fun x => x)
        replace hB2 := hB2.mono st67.toNo (fun x => x)
        replace hR2 := hR2.mono st67.toNo (fun x => x)
        replace hB3 := hB3.mono st67.toNo (fun x => x)
        replace hR8 := hR8.mono st67.toNo (fun x => x)
        replace tot := tot.trans st67.toNo.pure
        refine NX.post ?_
        exact ⟨true, ⟨by kernel_rfl, by kernel_rfl⟩, tot, hB1, hR1, hB2, hR2, hB3, hR8, hs⟩
      replace hs := of_if_f hs h38
      refine bool_split (b := q25) (fun h39 => ?_) (fun h39 => ?_)
      · replace hs := of_if_t hs h39
        replace hs := Option.bind_eq_some_iff.1 hs
        obtain ⟨⟨d29, x38, d30, l14⟩, hk38, hs⟩ := hs
        dsimp only at hs
        by_cases hc11 : (0 : Int) ≤ x36 ∧ x36 < (l14.length : Int)
        case neg => rw [if_neg hc11] at hs; cases hs
        replace hs := of_if_p hs hc11
        refine bool_split (b := (!((d26.1 == ((getI l14 x36).f1).1) && ((x33 == ((getI l14 x36).f2)) && ((x34 == ((getI l14 x36).f3)) && (x35 == ((getI l14 x36).f4))))))) (fun h40 => ?_) (fun h40 => ?_)
        · replace hs := of_if_t hs h40
          refine CP.drawL (by kernel_rfl) [4, 6, 7, 8, 9, 10, 12, 13, 14, 17] N.baizelaw47_PurseChecks_2 [⟨none, [], [], fun l g => Box g (t + 1) b1 26 [encA .u8 d1, [.int .i64 x1], encA .i64 d2, [.slice a1 n1 c1]] [8, 1, 2, 1]⟩, ⟨none, [], [], fun l g => RdS k_S_baizeref47_Held g 60 a1 n1 c1 l1⟩, ⟨none, [], [], fun l g => Box g (t + 18) b18 56 [encA .u8 d26, [.int .i64 x33], [.int .i64 x34], [.int .i64 x35]] [8, 1, 1, 1]⟩, ⟨some 0, [], [0], fun l g => l.getD 0 undef = .bool false⟩, ⟨some 1, [], [1], fun l g => l.getD 0 undef = .bool true⟩, ⟨some 2, [], [2], fun l g => l.getD 0 undef = AG [encA .u8 d26, [.int .i64 x33], [.int .i64 x34], [.int .i64 x35]]⟩, ⟨some 3, [], [3], fun l g => l.getD 0 undef = AG [encA .u8 d1, [.int .i64 x1], encA .i64 d2, [.slice a1 n1 c1]]⟩, ⟨some 4, [], [4], fun l g => ∃ (a14 : Option Addr) (c14 : Nat), l.getD 0 undef = AG [encA .u8 d29, [.int .i64 x38], encA .i64 d30, [.slice a14 l14.length c14]] ∧ OwnS k_S_purse_Held g (t + 20) 56 a14 l14.length c14 l14⟩, ⟨some 5, [], [5, 4], fun l g => ∃ (a14 : Option Addr) (c14 : Nat), l.getD 0 undef = .slice a14 l14.length c14 ∧ l.getD 1 undef = AG [encA .u8 d29, [.int .i64 x38], encA .i64 d30, [.slice a14 l14.length c14]] ∧ OwnS k_S_purse_Held g (t + 20) 56 a14 l14.length c14 l14⟩, ⟨some 6, [], [6, 5, 4], fun l g => ∃ (b21 : Nat) (u11 : Nat) (a14 : Option Addr) (c14 : Nat), l.getD 0 undef = .pointer (some ⟨b21, u11 + x36.toNat * 11, none⟩) ∧ l.getD 1 undef = .slice a14 l14.length c14 ∧ l.getD 2 undef = AG [encA .u8 d29, [.int .i64 x38], encA .i64 d30, [.slice a14 l14.length c14]] ∧ a14 = some ⟨b21, u11, none⟩ ∧ OwnS k_S_purse_Held g (t + 20) 56 a14 l14.length c14 l14⟩, ⟨some 7, [], [7], fun l g => l.getD 0 undef = AG [encA .u8 ((getI l14 x36).f1), [.int .i64 ((getI l14 x36).f2)], [.int .i64 ((getI l14 x36).f3)], [.int .i64 ((getI l14 x36).f4)]]⟩, ⟨some 8, [], [8], fun l g => l.getD 0 undef = .bool (!((d26.1 == ((getI l14 x36).f1).1) && ((x33 == ((getI l14 x36).f2)) && ((x34 == ((getI l14 x36).f3)) && (x35 == ((getI l14 x36).f4))))))⟩, ⟨some 9, [], [9], fun l g => l.getD 0 undef = .bool true⟩] [[], [], [], [], [], [], [], [], [], []] [] [0, 1, 2, 3] [5, 11, 15, 16, 18, 19, 20, 21, 22, 23, 24, 25] (by kernel_rfl) (by simp) (by simp) ⟨fun _ _ _ _ st h0 hl hj hB1 => (hB1.mono st (fun h => absurd (hl _ h) (by simp))), fun _ _ _ _ st h0 hl hj hR1 => (RdS.mono (e := 60) hR1 st h0), fun _ _ _ _ st h0 hl hj hB17 => (hB17.mono st (fun h => absurd (hl _ h) (by simp))), fun _ _ _ _ st h0 hl hj e0 => e0, fun _ _ _ _ st h0 hl hj e1 => e1, fun _ _ _ _ st h0 hl hj e2 => e2, fun _ _ _ _ st h0 hl hj e3 => e3, fun _ _ _ _ st h0 hl hj ⟨a14, c14, e4, hR14⟩ => ⟨a14, c14, e4, (hR14.mono st h0 (fun h => absurd (hl _ h) (by simp)))⟩, fun _ _ _ _ st h0 hl hj ⟨a14, c14, e5, e4, hR14⟩ => ⟨a14, c14, e5, e4, (hR14.mono st h0 (fun h => absurd (hl _ h) (by simp)))⟩, fun _ _ _ _ st h0 hl hj ⟨b21, u11, a14, c14, e6, e5, e4, ha11, hR14⟩ => ⟨b21, u11, a14, c14, e6, e5, e4, ha11, (hR14.mono st h0 (fun h => absurd (hl _ h) (by simp)))⟩, fun _ _ _ _ st h0 hl hj e7 => e7, fun _ _ _ _ st h0 hl hj e8 => e8, fun _ _ _ _ st h0 hl hj e9 => e9, trivial⟩ ⟨hB1, hR1, hB17, trivial, trivial, trivial, trivial, trivial, trivial, trivial, trivial, trivial, trivial, trivial⟩ (by kernel_rfl) (fun vs => by kernel_rfl) ?_ ?_ ?_
          · intro j hj
            have hq : j = 0 ∨ j = 1 ∨ j = 2 ∨ j = 3 ∨ j = 4 ∨ j = 5 ∨ j = 6 ∨ j = 7 ∨ j = 8 ∨ j = 9 ∨ j = 10 ∨ j = 11 := by have h : j < 12 := hj; omega
            rcases hq with rfl | rfl | rfl | rfl | rfl | rfl | rfl | rfl | rfl | rfl | rfl | rfl
            · intro vs gq stq hl hf
              obtain ⟨v0, v1, v2, v3, v4, v5, v6, v7, v8, v9, rfl⟩ := len_k10 hl
              have e0 := (show v0 = .bool false from hf _ (List.mem_of_getElem? (i := 3) rfl) (by kernel_rfl))
              subst e0
              show Option.isSome _ = true
              kernel_rfl
            · intro vs gq stq hl hf
              obtain ⟨v0, v1, v2, v3, v4, v5, v6, v7, v8, v9, rfl⟩ := len_k10 hl
              have e1 := (show v1 = .bool true from hf _ (List.mem_of_getElem? (i := 4) rfl) (by kernel_rfl))
              subst e1
              show Option.isSome _ = true
              kernel_rfl
            · intro vs gq stq hl hf
              obtain ⟨v0, v1, v2, v3, v4, v5, v6, v7, v8, v9, rfl⟩ := len_k10 hl
              have e0 := (show v0 = .bool false from hf _ (List.mem_of_getElem? (i := 3) rfl) (by kernel_rfl))
              subst e0
              have e1 := (show v1 = .bool true from hf _ (List.mem_of_getElem? (i := 4) rfl) (by kernel_rfl))
              subst e1
              have e8 := (show v8 = .bool (!((d26.1 == ((getI l14 x36).f1).1) && ((x33 == ((getI l14 x36).f2)) && ((x34 == ((getI l14 x36).f3)) && (x35 == ((getI l14 x36).f4)))))) from hf _ (List.mem_of_getElem? (i := 11) rfl) (by kernel_rfl))
              subst e8
              show Option.isSome _ = true
              kernel_rfl
            · intro vs gq stq hl hf
              obtain ⟨v0, v1, v2, v3, v4, v5, v6, v7, v8, v9, rfl⟩ := len_k10 hl
              have e0 := (show v0 = .bool false from hf _ (List.mem_of_getElem? (i := 3) rfl) (by kernel_rfl))
              subst e0
              have e1 := (show v1 = .bool true from hf _ (List.mem_of_getElem? (i := 4) rfl) (by kernel_rfl))
              subst e1
              have e8 := (show v8 = .bool (!((d26.1 == ((getI l14 x36).f1).1) && ((x33 == ((getI l14 x36).f2)) && ((x34 == ((getI l14 x36).f3)) && (x35 == ((getI l14 x36).f4)))))) from hf _ (List.mem_of_getElem? (i := 11) rfl) (by kernel_rfl))
              subst e8
              show Option.isSome _ = true
              kernel_rfl
            · intro vs gq stq hl hf
              obtain ⟨v0, v1, v2, v3, v4, v5, v6, v7, v8, v9, rfl⟩ := len_k10 hl
              have e9 := (show v9 = .bool true from hf _ (List.mem_of_getElem? (i := 12) rfl) (by kernel_rfl))
              subst e9
              show Option.isSome _ = true
              kernel_rfl
            · intro vs gq stq hl hf
              obtain ⟨v0, v1, v2, v3, v4, v5, v6, v7, v8, v9, rfl⟩ := len_k10 hl
              have e9 := (show v9 = .bool true from hf _ (List.mem_of_getElem? (i := 12) rfl) (by kernel_rfl))
              subst e9
              show Option.isSome _ = true
              kernel_rfl
            · intro vs gq stq hl hf
              obtain ⟨v0, v1, v2, v3, v4, v5, v6, v7, v8, v9, rfl⟩ := len_k10 hl
              have e9 := (show v9 = .bool true from hf _ (List.mem_of_getElem? (i := 12) rfl) (by kernel_rfl))
              subst e9
              show Option.isSome _ = true
              kernel_rfl
            · intro vs gq stq hl hf
              obtain ⟨v0, v1, v2, v3, v4, v5, v6, v7, v8, v9, rfl⟩ := len_k10 hl
              have e9 := (show v9 = .bool true from hf _ (List.mem_of_getElem? (i := 12) rfl) (by kernel_rfl))
              subst e9
              show Option.isSome _ = true
              kernel_rfl
            · intro vs gq stq hl hf
              obtain ⟨v0, v1, v2, v3, v4, v5, v6, v7, v8, v9, rfl⟩ := len_k10 hl
              have e9 := (show v9 = .bool true from hf _ (List.mem_of_getElem? (i := 12) rfl) (by kernel_rfl))
              subst e9
              show Option.isSome _ = true
              kernel_rfl
            · intro vs gq stq hl hf
              obtain ⟨v0, v1, v2, v3, v4, v5, v6, v7, v8, v9, rfl⟩ := len_k10 hl
              have e9 := (show v9 = .bool true from hf _ (List.mem_of_getElem? (i := 12) rfl) (by kernel_rfl))
              subst e9
              show Option.isSome _ = true
              kernel_rfl
            · intro vs gq stq hl hf
              obtain ⟨v0, v1, v2, v3, v4, v5, v6, v7, v8, v9, rfl⟩ := len_k10 hl
              have e9 := (show v9 = .bool true from hf _ (List.mem_of_getElem? (i := 12) rfl) (by kernel_rfl))
              subst e9
              show Option.isSome _ = true
              kernel_rfl
            · intro vs gq stq hl hf
              obtain ⟨v0, v1, v2, v3, v4, v5, v6, v7, v8, v9, rfl⟩ := len_k10 hl
              have e9 := (show v9 = .bool true from hf _ (List.mem_of_getElem? (i := 12) rfl) (by kernel_rfl))
              subst e9
              show Option.isSome _ = true
              kernel_rfl
          · intro j hj
            have hq : j = 0 ∨ j = 1 ∨ j = 2 ∨ j = 3 ∨ j = 4 ∨ j = 5 ∨ j = 6 ∨ j = 7 ∨ j = 8 ∨ j = 9 := by have h : j < 10 := hj; omega
            rcases hq with rfl | rfl | rfl | rfl | rfl | rfl | rfl | rfl | rfl | rfl
            · intro vs gq stq hl hf
              obtain ⟨v0, v1, v2, v3, v4, v5, v6, v7, v8, v9, rfl⟩ := len_k10 hl
              refine WP.still 1 (by kernel_rfl) ?_
              refine WP.done (by kernel_rfl) (Shown.ok (v := .bool (!(q25 == (decide (x36 ≥ 0))))) (by kernel_rfl) (Step.refl _ _) ?_)
              exact ⟨trivial, trivial, trivial, congrArg Value.bool h38, trivial, trivial, trivial, trivial, trivial, trivial, trivial, trivial, trivial, trivial⟩
            · intro vs gq stq hl hf
              obtain ⟨v0, v1, v2, v3, v4, v5, v6, v7, v8, v9, rfl⟩ := len_k10 hl
              have e0 := (show v0 = .bool false from hf _ (List.mem_of_getElem? (i := 3) rfl) (by kernel_rfl))
              subst e0
              refine WP.still 1 (by kernel_rfl) ?_
              refine WP.done (by kernel_rfl) (Shown.ok (v := .bool q25) (by kernel_rfl) (Step.refl _ _) ?_)
              exact ⟨trivial, trivial, trivial, trivial, congrArg Value.bool h39, trivial, trivial, trivial, trivial, trivial, trivial, trivial, trivial, trivial⟩
            · intro vs gq stq hl hf
              obtain ⟨v0, v1, v2, v3, v4, v5, v6, v7, v8, v9, rfl⟩ := len_k10 hl
              have hB17 := (show Box gq (t + 18) b18 56 [encA .u8 d26, [.int .i64 x33], [.int .i64 x34], [.int .i64 x35]] [8, 1, 1, 1] from hf _ (List.mem_of_getElem? (i := 2) rfl) (by kernel_rfl))
              have e1 := (show v1 = .bool true from hf _ (List.mem_of_getElem? (i := 4) rfl) (by kernel_rfl))
              subst e1
              refine WP.loadB (v := AG [encA .u8 d26, [.int .i64 x33], [.int .i64 x34], [.int .i64 x35]]) hB17 (by kernel_rfl) (by kernel_rfl) ?_
              refine WP.done (by kernel_rfl) (Shown.ok (v := AG [encA .u8 d26, [.int .i64 x33], [.int .i64 x34], [.int .i64 x35]]) (by kernel_rfl) (Step.refl _ _) ?_)
              exact ⟨trivial, trivial, trivial, trivial, trivial, rfl, trivial, trivial, trivial, trivial, trivial, trivial, trivial, trivial⟩
            · intro vs gq stq hl hf
              obtain ⟨v0, v1, v2, v3, v4, v5, v6, v7, v8, v9, rfl⟩ := len_k10 hl
              have hB1 := (show Box gq (t + 1) b1 26 [encA .u8 d1, [.int .i64 x1], encA .i64 d2, [.slice a1 n1 c1]] [8, 1, 2, 1] from hf _ (List.mem_of_getElem? (i := 0) rfl) (by kernel_rfl))
              have e1 := (show v1 = .bool true from hf _ (List.mem_of_getElem? (i := 4) rfl) (by kernel_rfl))
              subst e1
              refine WP.loadB (v := AG [encA .u8 d1, [.int .i64 x1], encA .i64 d2, [.slice a1 n1 c1]]) hB1 (by kernel_rfl) (by kernel_rfl) ?_
              refine WP.done (by kernel_rfl) (Shown.ok (v := AG [encA .u8 d1, [.int .i64 x1], encA .i64 d2, [.slice a1 n1 c1]]) (by kernel_rfl) (Step.refl _ _) ?_)
              exact ⟨trivial, trivial, trivial, trivial, trivial, trivial, rfl, trivial, trivial, trivial, trivial, trivial, trivial, trivial⟩
            · intro vs gq stq hl hf
              obtain ⟨v0, v1, v2, v3, v4, v5, v6, v7, v8, v9, rfl⟩ := len_k10 hl
              have hR1 := (show RdS k_S_baizeref47_Held gq 60 a1 n1 c1 l1 from hf _ (List.mem_of_getElem? (i := 1) rfl) (by kernel_rfl))
              have e1 := (show v1 = .bool true from hf _ (List.mem_of_getElem? (i := 4) rfl) (by kernel_rfl))
              subst e1
              have e3 := (show v3 = AG [encA .u8 d1, [.int .i64 x1], encA .i64 d2, [.slice a1 n1 c1]] from hf _ (List.mem_of_getElem? (i := 6) rfl) (by kernel_rfl))
              subst e3
              have hcal38 := P.baizelaw47_Own gq (t + 20) d1 x1 d2 l1 a1 n1 c1 hR1 d29 x38 d30 l14 hk38
              refine WP.callC hcal38 (by kernel_rfl) ?_
              rintro _ g68 st68 ⟨a14, n14, c14, rfl, hR14⟩
              obtain rfl := hR14.len
              refine WP.done (by kernel_rfl) (Shown.ok (v := AG [encA .u8 d29, [.int .i64 x38], encA .i64 d30, [.slice a14 l14.length c14]]) (by kernel_rfl) st68.pure ?_)
              exact ⟨trivial, trivial, trivial, trivial, trivial, trivial, trivial, ⟨a14, c14, rfl, hR14⟩, trivial, trivial, trivial, trivial, trivial, trivial⟩
            · intro vs gq stq hl hf
              obtain ⟨v0, v1, v2, v3, v4, v5, v6, v7, v8, v9, rfl⟩ := len_k10 hl
              have e1 := (show v1 = .bool true from hf _ (List.mem_of_getElem? (i := 4) rfl) (by kernel_rfl))
              subst e1
              obtain ⟨a14, c14, e4, hR14⟩ := (show ∃ (a14 : Option Addr) (c14 : Nat), v4 = AG [encA .u8 d29, [.int .i64 x38], encA .i64 d30, [.slice a14 l14.length c14]] ∧ OwnS k_S_purse_Held gq (t + 20) 56 a14 l14.length c14 l14 from hf _ (List.mem_of_getElem? (i := 7) rfl) (by kernel_rfl))
              subst e4
              refine WP.field (t := 32) (segs := [encA .u8 d29, [.int .i64 x38], encA .i64 d30, [.slice a14 l14.length c14]]) (ns := [8, 1, 2, 1]) (v := .slice a14 l14.length c14) (by simp [len_encA]) (by kernel_rfl) (by kernel_rfl) ?_
              refine WP.done (by kernel_rfl) (Shown.ok (v := .slice a14 l14.length c14) (by kernel_rfl) (Step.refl _ _) ?_)
              exact ⟨trivial, trivial, trivial, trivial, trivial, trivial, trivial, trivial, ⟨a14, c14, rfl, rfl, hR14⟩, trivial, trivial, trivial, trivial, trivial⟩
            · intro vs gq stq hl hf
              obtain ⟨v0, v1, v2, v3, v4, v5, v6, v7, v8, v9, rfl⟩ := len_k10 hl
              have e1 := (show v1 = .bool true from hf _ (List.mem_of_getElem? (i := 4) rfl) (by kernel_rfl))
              subst e1
              obtain ⟨a14, c14, e5, e4, hR14⟩ := (show ∃ (a14 : Option Addr) (c14 : Nat), v5 = .slice a14 l14.length c14 ∧ v4 = AG [encA .u8 d29, [.int .i64 x38], encA .i64 d30, [.slice a14 l14.length c14]] ∧ OwnS k_S_purse_Held gq (t + 20) 56 a14 l14.length c14 l14 from hf _ (List.mem_of_getElem? (i := 8) rfl) (by kernel_rfl))
              subst e5
              subst e4
              obtain ⟨b21, u11, ha11⟩ := hR14.at hc11
              refine WP.indexA (t := 30) (e := 56) (sz := 11) (cap := c14) (k := .i64) (i := x36) hR14.len ha11 (by kernel_rfl) (by kernel_rfl) hc11 ?_
              refine WP.done (by kernel_rfl) (Shown.ok (v := .pointer (some ⟨b21, u11 + x36.toNat * 11, none⟩)) (by kernel_rfl) (Step.refl _ _) ?_)
              exact ⟨trivial, trivial, trivial, trivial, trivial, trivial, trivial, trivial, trivial, ⟨b21, u11, a14, c14, rfl, rfl, rfl, ha11, hR14⟩, trivial, trivial, trivial, trivial⟩
            · intro vs gq stq hl hf
              obtain ⟨v0, v1, v2, v3, v4, v5, v6, v7, v8, v9, rfl⟩ := len_k10 hl
              have e1 := (show v1 = .bool true from hf _ (List.mem_of_getElem? (i := 4) rfl) (by kernel_rfl))
              subst e1
              obtain ⟨b21, u11, a14, c14, e6, e5, e4, ha11, hR14⟩ := (show ∃ (b21 : Nat) (u11 : Nat) (a14 : Option Addr) (c14 : Nat), v6 = .pointer (some ⟨b21, u11 + x36.toNat * 11, none⟩) ∧ v5 = .slice a14 l14.length c14 ∧ v4 = AG [encA .u8 d29, [.int .i64 x38], encA .i64 d30, [.slice a14 l14.length c14]] ∧ a14 = some ⟨b21, u11, none⟩ ∧ OwnS k_S_purse_Held gq (t + 20) 56 a14 l14.length c14 l14 from hf _ (List.mem_of_getElem? (i := 9) rfl) (by kernel_rfl))
              subst e6
              subst e5
              subst e4
              obtain ⟨cs11, hcR11, hcV11⟩ := hR14.src.view (getI_some hc11) ha11
              replace hcR11 := k_S_purse_Held.opn hcR11
              refine WP.loadV [encA .u8 ((getI l14 x36).f1), [.int .i64 ((getI l14 x36).f2)], [.int .i64 ((getI l14 x36).f3)], [.int .i64 ((getI l14 x36).f4)]] [8, 1, 1, 1] hcV11 hcR11 (by simp [len_encA]) (f := 0) (ty := 56) (agg := true) (size := 11) (rs := [encA .u8 ((getI l14 x36).f1), [.int .i64 ((getI l14 x36).f2)], [.int .i64 ((getI l14 x36).f3)], [.int .i64 ((getI l14 x36).f4)]]) (v := AG [encA .u8 ((getI l14 x36).f1), [.int .i64 ((getI l14 x36).f2)], [.int .i64 ((getI l14 x36).f3)], [.int .i64 ((getI l14 x36).f4)]]) (by kernel_rfl) (by kernel_rfl) (by kernel_rfl) (by kernel_rfl) ?_
              refine WP.done (by kernel_rfl) (Shown.ok (v := AG [encA .u8 ((getI l14 x36).f1), [.int .i64 ((getI l14 x36).f2)], [.int .i64 ((getI l14 x36).f3)], [.int .i64 ((getI l14 x36).f4)]]) (by kernel_rfl) (Step.refl _ _) ?_)
              exact ⟨trivial, trivial, trivial, trivial, trivial, trivial, trivial, trivial, trivial, trivial, rfl, trivial, trivial, trivial⟩
            · intro vs gq stq hl hf
              obtain ⟨v0, v1, v2, v3, v4, v5, v6, v7, v8, v9, rfl⟩ := len_k10 hl
              have e1 := (show v1 = .bool true from hf _ (List.mem_of_getElem? (i := 4) rfl) (by kernel_rfl))
              subst e1
              have e2 := (show v2 = AG [encA .u8 d26, [.int .i64 x33], [.int .i64 x34], [.int .i64 x35]] from hf _ (List.mem_of_getElem? (i := 5) rfl) (by kernel_rfl))
              subst e2
              have e7 := (show v7 = AG [encA .u8 ((getI l14 x36).f1), [.int .i64 ((getI l14 x36).f2)], [.int .i64 ((getI l14 x36).f3)], [.int .i64 ((getI l14 x36).f4)]] from hf _ (List.mem_of_getElem? (i := 10) rfl) (by kernel_rfl))
              subst e7
              refine WP.neV (by kernel_rfl) (by kernel_rfl) (EqV.struct (d := 9999) (t := 56) (xs := [encA .u8 d26, [.int .i64 x33], [.int .i64 x34], [.int .i64 x35]]) (ys := [encA .u8 ((getI l14 x36).f1), [.int .i64 ((getI l14 x36).f2)], [.int .i64 ((getI l14 x36).f3)], [.int .i64 ((getI l14 x36).f4)]]) (by kernel_rfl) (by kernel_rfl) (EqFi.cons (ns := [8, 1, 1, 1]) (ms := [8, 1, 1, 1]) (t' := 29) (x := AG [encA .u8 d26]) (y := AG [encA .u8 ((getI l14 x36).f1)]) (by simp [len_encA]) (by simp [len_encA]) (by kernel_rfl) (by kernel_rfl) (EqV.arr (d := 9997) (t := 29) (e := 5) (m := 8) (k := .u8) (x := d26) (y := (getI l14 x36).f1) (by kernel_rfl) (by kernel_rfl)) (EqFi.cons (ns := [8, 1, 1, 1]) (ms := [8, 1, 1, 1]) (t' := 3) (x := .int .i64 x33) (y := .int .i64 ((getI l14 x36).f2)) (by simp [len_encA]) (by simp [len_encA]) (by kernel_rfl) (by kernel_rfl) (EqV.int (d := 9998) (k' := .i64) (by kernel_rfl)) (EqFi.cons (ns := [8, 1, 1, 1]) (ms := [8, 1, 1, 1]) (t' := 3) (x := .int .i64 x34) (y := .int .i64 ((getI l14 x36).f3)) (by simp [len_encA]) (by simp [len_encA]) (by kernel_rfl) (by kernel_rfl) (EqV.int (d := 9998) (k' := .i64) (by kernel_rfl)) (EqFi.one (ns := [8, 1, 1, 1]) (ms := [8, 1, 1, 1]) (t' := 3) (x := .int .i64 x35) (y := .int .i64 ((getI l14 x36).f4)) (by simp [len_encA]) (by simp [len_encA]) (by kernel_rfl) (by kernel_rfl) (EqV.int (d := 9998) (k' := .i64) (by kernel_rfl)) (Nat.le_of_ble_eq_true rfl)))))) ?_
              refine WP.done (by kernel_rfl) (Shown.ok (v := .bool (!((d26.1 == ((getI l14 x36).f1).1) && ((x33 == ((getI l14 x36).f2)) && ((x34 == ((getI l14 x36).f3)) && (x35 == ((getI l14 x36).f4))))))) (by kernel_rfl) (Step.refl _ _) ?_)
              exact ⟨trivial, trivial, trivial, trivial, trivial, trivial, trivial, trivial, trivial, trivial, trivial, rfl, trivial, trivial⟩
            · intro vs gq stq hl hf
              obtain ⟨v0, v1, v2, v3, v4, v5, v6, v7, v8, v9, rfl⟩ := len_k10 hl
              have e0 := (show v0 = .bool false from hf _ (List.mem_of_getElem? (i := 3) rfl) (by kernel_rfl))
              subst e0
              have e1 := (show v1 = .bool true from hf _ (List.mem_of_getElem? (i := 4) rfl) (by kernel_rfl))
              subst e1
              have e8 := (show v8 = .bool (!((d26.1 == ((getI l14 x36).f1).1) && ((x33 == ((getI l14 x36).f2)) && ((x34 == ((getI l14 x36).f3)) && (x35 == ((getI l14 x36).f4)))))) from hf _ (List.mem_of_getElem? (i := 11) rfl) (by kernel_rfl))
              subst e8
              refine WP.still 1 (by kernel_rfl) ?_
              refine WP.done (by kernel_rfl) (Shown.ok (v := .bool (!((d26.1 == ((getI l14 x36).f1).1) && ((x33 == ((getI l14 x36).f2)) && ((x34 == ((getI l14 x36).f3)) && (x35 == ((getI l14 x36).f4))))))) (by kernel_rfl) (Step.refl _ _) ?_)
              exact ⟨trivial, trivial, trivial, trivial, trivial, trivial, trivial, trivial, trivial, trivial, trivial, trivial, congrArg Value.bool h40, trivial⟩
          intro vs g69 st69 hl hf
          obtain ⟨v0, v1, v2, v3, v4, v5, v6, v7, v8, v9, rfl⟩ := len_k10 hl
          have e0 := (show v0 = .bool false from hf _ (List.mem_of_getElem? (i := 3) rfl) (by kernel_rfl))
          subst e0
          have e1 := (show v1 = .bool true from hf _ (List.mem_of_getElem? (i := 4) rfl) (by kernel_rfl))
          subst e1
          have e2 := (show v2 = AG [encA .u8 d26, [.int .i64 x33], [.int .i64 x34], [.int .i64 x35]] from hf _ (List.mem_of_getElem? (i := 5) rfl) (by kernel_rfl))
          subst e2
          have e3 := (show v3 = AG [encA .u8 d1, [.int .i64 x1], encA .i64 d2, [.slice a1 n1 c1]] from hf _ (List.mem_of_getElem? (i := 6) rfl) (by kernel_rfl))
          subst e3
          obtain ⟨b21, u11, a14, c14, e6, e5, e4, ha11, hR14⟩ := (show ∃ (b21 : Nat) (u11 : Nat) (a14 : Option Addr) (c14 : Nat), v6 = .pointer (some ⟨b21, u11 + x36.toNat * 11, none⟩) ∧ v5 = .slice a14 l14.length c14 ∧ v4 = AG [encA .u8 d29, [.int .i64 x38], encA .i64 d30, [.slice a14 l14.length c14]] ∧ a14 = some ⟨b21, u11, none⟩ ∧ OwnS k_S_purse_Held g69 (t + 20) 56 a14 l14.length c14 l14 from hf _ (List.mem_of_getElem? (i := 9) rfl) (by kernel_rfl))
          subst e6
          subst e5
          subst e4
          have e7 := (show v7 = AG [encA .u8 ((getI l14 x36).f1), [.int .i64 ((getI l14 x36).f2)], [.int .i64 ((getI l14 x36).f3)], [.int .i64 ((getI l14 x36).f4)]] from hf _ (List.mem_of_getElem? (i := 10) rfl) (by kernel_rfl))
          subst e7
          have e8 := (show v8 = .bool (!((d26.1 == ((getI l14 x36).f1).1) && ((x33 == ((getI l14 x36).f2)) && ((x34 == ((getI l14 x36).f3)) && (x35 == ((getI l14 x36).f4)))))) from hf _ (List.mem_of_getElem? (i := 11) rfl) (by kernel_rfl))
          subst e8
          have e9 := (show v9 = .bool true from hf _ (List.mem_of_getElem? (i := 12) rfl) (by kernel_rfl))
          subst e9
          replace hB1 := hB1.mono st69.toNo (fun x => x)
          replace hR1 := hR1.mono st69.toNo (fun x => x)
          replace hB2 := hB2.mono st69.toNo (fun x => x)
          replace hR2 := hR2.mono st69.toNo (fun x => x)
          replace hB3 := hB3.mono st69.toNo (fun x => x)
          replace hR8 := hR8.mono st69.toNo (fun x => x)
          replace tot := tot.trans st69.toNo.pure
          refine NX.post ?_
          exact ⟨true, ⟨by kernel_rfl, by kernel_rfl⟩, tot, hB1, hR1, hB2, hR2, hB3, hR8, hs⟩
        replace hs := of_if_f hs h40
        refine bool_split (b := (!q25)) (fun h41 => ?_) (fun h41 => ?_)
        · replace hs := of_if_t hs h41
          refine CP.drawL (by kernel_rfl) [4, 6, 7, 8, 9, 10, 12, 13, 14, 17, 20, 21, 22, 23] N.baizelaw47_PurseChecks_2 [⟨none, [], [], fun l g => Box g (t + 1) b1 26 [encA .u8 d1, [.int .i64 x1], encA .i64 d2, [.slice a1 n1 c1]] [8, 1, 2, 1]⟩, ⟨none, [], [], fun l g => RdS k_S_baizeref47_Held g 60 a1 n1 c1 l1⟩, ⟨none, [], [], fun l g => Box g (t + 18) b18 56 [encA .u8 d26, [.int .i64 x33], [.int .i64 x34], [.int .i64 x35]] [8, 1, 1, 1]⟩, ⟨some 0, [], [0], fun l g => l.getD 0 undef = .bool false⟩, ⟨some 1, [], [1], fun l g => l.getD 0 undef = .bool true⟩, ⟨some 2, [], [2], fun l g => l.getD 0 undef = AG [encA .u8 d26, [.int .i64 x33], [.int .i64 x34], [.int .i64 x35]]⟩, ⟨some 3, [], [3], fun l g => l.getD 0 undef = AG [encA .u8 d1, [.int .i64 x1], encA .i64 d2, [.slice a1 n1 c1]]⟩, ⟨some 4, [], [4], fun l g => ∃ (a14 : Option Addr) (c14 : Nat), l.getD 0 undef = AG [encA .u8 d29, [.int .i64 x38], encA .i64 d30, [.slice a14 l14.length c14]] ∧ OwnS k_S_purse_Held g (t + 20) 56 a14 l14.length c14 l14⟩, ⟨some 5, [], [5, 4], fun l g => ∃ (a14 : Option Addr) (c14 : Nat), l.getD 0 undef = .slice a14 l14.length c14 ∧ l.getD 1 undef = AG [encA .u8 d29, [.int .i64 x38], encA .i64 d30, [.slice a14 l14.length c14]] ∧ OwnS k_S_purse_Held g (t + 20) 56 a14 l14.length c14 l14⟩, ⟨some 6, [], [6, 5, 4], fun l g => ∃ (b21 : Nat) (u11 : Nat) (a14 : Option Addr) (c14 : Nat), l.getD 0 undef = .pointer (some ⟨b21, u11 + x36.toNat * 11, none⟩) ∧ l.getD 1 undef = .slice a14 l14.length c14 ∧ l.getD 2 undef = AG [encA .u8 d29, [.int .i64 x38], encA .i64 d30, [.slice a14 l14.length c14]] ∧ a14 = some ⟨b21, u11, none⟩ ∧ OwnS k_S_purse_Held g (t + 20) 56 a14 l14.length c14 l14⟩, ⟨some 7, [], [7], fun l g => l.getD 0 undef = AG [encA .u8 ((getI l14 x36).f1), [.int .i64 ((getI l14 x36).f2)], [.int .i64 ((getI l14 x36).f3)], [.int .i64 ((getI l14 x36).f4)]]⟩, ⟨some 8, [], [8], fun l g => l.getD 0 undef = .bool (!((d26.1 == ((getI l14 x36).f1).1) && ((x33 == ((getI l14 x36).f2)) && ((x34 == ((getI l14 x36).f3)) && (x35 == ((getI l14 x36).f4))))))⟩, ⟨some 9, [], [9], fun l g => l.getD 0 undef = .bool false⟩, ⟨some 10, [], [10], fun l g => l.getD 0 undef = .bool true⟩, ⟨some 11, [], [11], fun l g => l.getD 0 undef = AG [encA .u8 d26, [.int .i64 x33], [.int .i64 x34], [.int .i64 x35]]⟩, ⟨some 12, [], [12], fun l g => l.getD 0 undef = AG [encA .u8 (zA 8), [.int .i64 0], [.int .i64 0], [.int .i64 0]]⟩, ⟨some 13, [], [13], fun l g => l.getD 0 undef = .bool (!((d26.1 == (zA 8).1) && ((x33 == 0) && ((x34 == 0) && (x35 == 0)))))⟩] [[], [], [], [], [], [], [], [], [], [], [], [], [], []] [] [0, 1, 2, 3] [5, 11, 15, 16, 18, 19, 24, 25] (by kernel_rfl) (by simp) (by simp) ⟨fun _ _ _ _ st h0 hl hj hB1 => (hB1.mono st (fun h => absurd (hl _ h) (by simp))), fun _ _ _ _ st h0 hl hj hR1 => (RdS.mono (e := 60) hR1 st h0), fun _ _ _ _ st h0 hl hj hB17 => (hB17.mono st (fun h => absurd (hl _ h) (by simp))), fun _ _ _ _ st h0 hl hj e0 => e0, fun _ _ _ _ st h0 hl hj e1 => e1, fun _ _ _ _ st h0 hl hj e2 => e2, fun _ _ _ _ st h0 hl hj e3 => e3, fun _ _ _ _ st h0 hl hj ⟨a14, c14, e4, hR14⟩ => ⟨a14, c14, e4, (hR14.mono st h0 (fun h => absurd (hl _ h) (by simp)))⟩, fun _ _ _ _ st h0 hl hj ⟨a14, c14, e5, e4, hR14⟩ => ⟨a14, c14, e5, e4, (hR14.mono st h0 (fun h => absurd (hl _ h) (by simp)))⟩, fun _ _ _ _ st h0 hl hj ⟨b21, u11, a14, c14, e6, e5, e4, ha11, hR14⟩ => ⟨b21, u11, a14, c14, e6, e5, e4, ha11, (hR14.mono st h0 (fun h => absurd (hl _ h) (by simp)))⟩, fun _ _ _ _ st h0 hl hj e7 => e7, fun _ _ _ _ st h0 hl hj e8 => e8, fun _ _ _ _ st h0 hl hj e9 => e9, fun _ _ _ _ st h0 hl hj e10 => e10, fun _ _ _ _ st h0 hl hj e11 => e11, fun _ _ _ _ st h0 hl hj e12 => e12, fun _ _ _ _ st h0 hl hj e13 => e13, trivial⟩ ⟨hB1, hR1, hB17, trivial, trivial, trivial, trivial, trivial, trivial, trivial, trivial, trivial, trivial, trivial, trivial, trivial, trivial, trivial⟩ (by kernel_rfl) (fun vs => by kernel_rfl) ?_ ?_ ?_
          · intro j hj
            have hq : j = 0 ∨ j = 1 ∨ j = 2 ∨ j = 3 ∨ j = 4 ∨ j = 5 ∨ j = 6 ∨ j = 7 := by have h : j < 8 := hj; omega
            rcases hq with rfl | rfl | rfl | rfl | rfl | rfl | rfl | rfl
            · intro vs gq stq hl hf
              obtain ⟨v0, v1, v2, v3, v4, v5, v6, v7, v8, v9, v10, v11, v12, v13, rfl⟩ := len_k14 hl
              have e0 := (show v0 = .bool false from hf _ (List.mem_of_getElem? (i := 3) rfl) (by kernel_rfl))
              subst e0
              show Option.isSome _ = true
              kernel_rfl
            · intro vs gq stq hl hf
              obtain ⟨v0, v1, v2, v3, v4, v5, v6, v7, v8, v9, v10, v11, v12, v13, rfl⟩ := len_k14 hl
              have e1 := (show v1 = .bool true from hf _ (List.mem_of_getElem? (i := 4) rfl) (by kernel_rfl))
              subst e1
              show Option.isSome _ = true
              kernel_rfl
            · intro vs gq stq hl hf
              obtain ⟨v0, v1, v2, v3, v4, v5, v6, v7, v8, v9, v10, v11, v12, v13, rfl⟩ := len_k14 hl
              have e0 := (show v0 = .bool false from hf _ (List.mem_of_getElem? (i := 3) rfl) (by kernel_rfl))
              subst e0
              have e1 := (show v1 = .bool true from hf _ (List.mem_of_getElem? (i := 4) rfl) (by kernel_rfl))
              subst e1
              have e8 := (show v8 = .bool (!((d26.1 == ((getI l14 x36).f1).1) && ((x33 == ((getI l14 x36).f2)) && ((x34 == ((getI l14 x36).f3)) && (x35 == ((getI l14 x36).f4)))))) from hf _ (List.mem_of_getElem? (i := 11) rfl) (by kernel_rfl))
              subst e8
              show Option.isSome _ = true
              kernel_rfl
            · intro vs gq stq hl hf
              obtain ⟨v0, v1, v2, v3, v4, v5, v6, v7, v8, v9, v10, v11, v12, v13, rfl⟩ := len_k14 hl
              have e0 := (show v0 = .bool false from hf _ (List.mem_of_getElem? (i := 3) rfl) (by kernel_rfl))
              subst e0
              have e1 := (show v1 = .bool true from hf _ (List.mem_of_getElem? (i := 4) rfl) (by kernel_rfl))
              subst e1
              have e8 := (show v8 = .bool (!((d26.1 == ((getI l14 x36).f1).1) && ((x33 == ((getI l14 x36).f2)) && ((x34 == ((getI l14 x36).f3)) && (x35 == ((getI l14 x36).f4)))))) from hf _ (List.mem_of_getElem? (i := 11) rfl) (by kernel_rfl))
              subst e8
              show Option.isSome _ = true
              kernel_rfl
            · intro vs gq stq hl hf
              obtain ⟨v0, v1, v2, v3, v4, v5, v6, v7, v8, v9, v10, v11, v12, v13, rfl⟩ := len_k14 hl
              have e9 := (show v9 = .bool false from hf _ (List.mem_of_getElem? (i := 12) rfl) (by kernel_rfl))
              subst e9
              show Option.isSome _ = true
              kernel_rfl
            · intro vs gq stq hl hf
              obtain ⟨v0, v1, v2, v3, v4, v5, v6, v7, v8, v9, v10, v11, v12, v13, rfl⟩ := len_k14 hl
              have e9 := (show v9 = .bool false from hf _ (List.mem_of_getElem? (i := 12) rfl) (by kernel_rfl))
              subst e9
              show Option.isSome _ = true
              kernel_rfl
            · intro vs gq stq hl hf
              obtain ⟨v0, v1, v2, v3, v4, v5, v6, v7, v8, v9, v10, v11, v12, v13, rfl⟩ := len_k14 hl
              have e9 := (show v9 = .bool false from hf _ (List.mem_of_getElem? (i := 12) rfl) (by kernel_rfl))
              subst e9
              have e10 := (show v10 = .bool true from hf _ (List.mem_of_getElem? (i := 13) rfl) (by kernel_rfl))
              subst e10
              have e13 := (show v13 = .bool (!((d26.1 == (zA 8).1) && ((x33 == 0) && ((x34 == 0) && (x35 == 0))))) from hf _ (List.mem_of_getElem? (i := 16) rfl) (by kernel_rfl))
              subst e13
              show Option.isSome _ = true
              kernel_rfl
            · intro vs gq stq hl hf
              obtain ⟨v0, v1, v2, v3, v4, v5, v6, v7, v8, v9, v10, v11, v12, v13, rfl⟩ := len_k14 hl
              have e9 := (show v9 = .bool false from hf _ (List.mem_of_getElem? (i := 12) rfl) (by kernel_rfl))
              subst e9
              have e10 := (show v10 = .bool true from hf _ (List.mem_of_getElem? (i := 13) rfl) (by kernel_rfl))
              subst e10
              have e13 := (show v13 = .bool (!((d26.1 == (zA 8).1) && ((x33 == 0) && ((x34 == 0) && (x35 == 0))))) from hf _ (List.mem_of_getElem? (i := 16) rfl) (by kernel_rfl))
              subst e13
              show Option.isSome _ = true
              kernel_rfl
          · intro j hj
            have hq : j = 0 ∨ j = 1 ∨ j = 2 ∨ j = 3 ∨ j = 4 ∨ j = 5 ∨ j = 6 ∨ j = 7 ∨ j = 8 ∨ j = 9 ∨ j = 10 ∨ j = 11 ∨ j = 12 ∨ j = 13 := by have h : j < 14 := hj; omega
            rcases hq with rfl | rfl | rfl | rfl | rfl | rfl | rfl | rfl | rfl | rfl | rfl | rfl | rfl | rfl
            · intro vs gq stq hl hf
              obtain ⟨v0, v1, v2, v3, v4, v5, v6, v7, v8, v9, v10, v11, v12, v13, rfl⟩ := len_k14 hl
              refine WP.still 1 (by kernel_rfl) ?_
              refine WP.done (by kernel_rfl) (Shown.ok (v := .bool (!(q25 == (decide (x36 ≥ 0))))) (by kernel_rfl) (Step.refl _ _) ?_)
              exact ⟨trivial, trivial, trivial, congrArg Value.bool h38, trivial, trivial, trivial, trivial, trivial, trivial, trivial, trivial, trivial, trivial, trivial, trivial, trivial, trivial⟩
            · intro vs gq stq hl hf
              obtain ⟨v0, v1, v2, v3, v4, v5, v6, v7, v8, v9, v10, v11, v12, v13, rfl⟩ := len_k14 hl
              have e0 := (show v0 = .bool false from hf _ (List.mem_of_getElem? (i := 3) rfl) (by kernel_rfl))
              subst e0
              refine WP.still 1 (by kernel_rfl) ?_
              refine WP.done (by kernel_rfl) (Shown.ok (v := .bool q25) (by kernel_rfl) (Step.refl _ _) ?_)
              exact ⟨trivial, trivial, trivial, trivial, congrArg Value.bool h39, trivial, trivial, trivial, trivial, trivial, trivial, trivial, trivial, trivial, trivial, trivial, trivial, trivial⟩
            · intro vs gq stq hl hf
              obtain ⟨v0, v1, v2, v3, v4, v5, v6, v7, v8, v9, v10, v11, v12, v13, rfl⟩ := len_k14 hl
              have hB17 := (show Box gq (t + 18) b18 56 [encA .u8 d26, [.int .i64 x33], [.int .i64 x34], [.int .i64 x35]] [8, 1, 1, 1] from hf _ (List.mem_of_getElem? (i := 2) rfl) (by kernel_rfl))
              have e1 := (show v1 = .bool true from hf _ (List.mem_of_getElem? (i := 4) rfl) (by kernel_rfl))
              subst e1
              refine WP.loadB (v := AG [encA .u8 d26, [.int .i64 x33], [.int .i64 x34], [.int .i64 x35]]) hB17 (by kernel_rfl) (by kernel_rfl) ?_
              refine WP.done (by kernel_rfl) (Shown.ok (v := AG [encA .u8 d26, [.int .i64 x33], [.int .i64 x34], [.int .i64 x35]]) (by kernel_rfl) (Step.refl _ _) ?_)
              exact ⟨trivial, trivial, trivial, trivial, trivial, rfl, trivial, trivial, trivial, trivial, trivial, trivial, trivial, trivial, trivial, trivial, trivial, trivial⟩
            · intro vs gq stq hl hf
              obtain ⟨v0, v1, v2, v3, v4, v5, v6, v7, v8, v9, v10, v11, v12, v13, rfl⟩ := len_k14 hl
              have hB1 := (show Box gq (t + 1) b1 26 [encA .u8 d1, [.int .i64 x1], encA .i64 d2, [.slice a1 n1 c1]] [8, 1, 2, 1] from hf _ (List.mem_of_getElem? (i := 0) rfl) (by kernel_rfl))
              have e1 := (show v1 = .bool true from hf _ (List.mem_of_getElem? (i := 4) rfl) (by kernel_rfl))
              subst e1
              refine WP.loadB (v := AG [encA .u8 d1, [.int .i64 x1], encA .i64 d2, [.slice a1 n1 c1]]) hB1 (by kernel_rfl) (by kernel_rfl) ?_
              refine WP.done (by kernel_rfl) (Shown.ok (v := AG [encA .u8 d1, [.int .i64 x1], encA .i64 d2, [.slice a1 n1 c1]]) (by kernel_rfl) (Step.refl _ _) ?_)
              exact ⟨trivial, trivial, trivial, trivial, trivial, trivial, rfl, trivial, trivial, trivial, trivial, trivial, trivial, trivial, trivial, trivial, trivial, trivial⟩
            · intro vs gq stq hl hf
              obtain ⟨v0, v1, v2, v3, v4, v5, v6, v7, v8, v9, v10, v11, v12, v13, rfl⟩ := len_k14 hl
              have hR1 := (show RdS k_S_baizeref47_Held gq 60 a1 n1 c1 l1 from hf _ (List.mem_of_getElem? (i := 1) rfl) (by kernel_rfl))
              have e1 := (show v1 = .bool true from hf _ (List.mem_of_getElem? (i := 4) rfl) (by kernel_rfl))
              subst e1
              have e3 := (show v3 = AG [encA .u8 d1, [.int .i64 x1], encA .i64 d2, [.slice a1 n1 c1]] from hf _ (List.mem_of_getElem? (i := 6) rfl) (by kernel_rfl))
              subst e3
              have hcal38 := P.baizelaw47_Own gq (t + 20) d1 x1 d2 l1 a1 n1 c1 hR1 d29 x38 d30 l14 hk38
              refine WP.callC hcal38 (by kernel_rfl) ?_
              rintro _ g68 st68 ⟨a14, n14, c14, rfl, hR14⟩
              obtain rfl := hR14.len
              refine WP.done (by kernel_rfl) (Shown.ok (v := AG [encA .u8 d29, [.int .i64 x38], encA .i64 d30, [.slice a14 l14.length c14]]) (by kernel_rfl) st68.pure ?_)
              exact ⟨trivial, trivial, trivial, trivial, trivial, trivial, trivial, ⟨a14, c14, rfl, hR14⟩, trivial, trivial, trivial, trivial, trivial, trivial, trivial, trivial, trivial, trivial⟩
            · intro vs gq stq hl hf
              obtain ⟨v0, v1, v2, v3, v4, v5, v6, v7, v8, v9, v10, v11, v12, v13, rfl⟩ := len_k14 hl
              have e1 := (show v1 = .bool true from hf _ (List.mem_of_getElem? (i := 4) rfl) (by kernel_rfl))
              subst e1
              obtain ⟨a14, c14, e4, hR14⟩ := (show ∃ (a14 : Option Addr) (c14 : Nat), v4 = AG [encA .u8 d29, [.int .i64 x38], encA .i64 d30, [.slice a14 l14.length c14]] ∧ OwnS k_S_purse_Held gq (t + 20) 56 a14 l14.length c14 l14 from hf _ (List.mem_of_getElem? (i := 7) rfl) (by kernel_rfl))
              subst e4
              refine WP.field (t := 32) (segs := [encA .u8 d29, [.int .i64 x38], encA .i64 d30, [.slice a14 l14.length c14]]) (ns := [8, 1, 2, 1]) (v := .slice a14 l14.length c14) (by simp [len_encA]) (by kernel_rfl) (by kernel_rfl) ?_
              refine WP.done (by kernel_rfl) (Shown.ok (v := .slice a14 l14.length c14) (by kernel_rfl) (Step.refl _ _) ?_)
              exact ⟨trivial, trivial, trivial, trivial, trivial, trivial, trivial, trivial, ⟨a14, c14, rfl, rfl, hR14⟩, trivial, trivial, trivial, trivial, trivial, trivial, trivial, trivial, trivial⟩
            · intro vs gq stq hl hf
              obtain ⟨v0, v1, v2, v3, v4, v5, v6, v7, v8, v9, v10, v11, v12, v13, rfl⟩ := len_k14 hl
              have e1 := (show v1 = .bool true from hf _ (List.mem_of_getElem? (i := 4) rfl) (by kernel_rfl))
              subst e1
              obtain ⟨a14, c14, e5, e4, hR14⟩ := (show ∃ (a14 : Option Addr) (c14 : Nat), v5 = .slice a14 l14.length c14 ∧ v4 = AG [encA .u8 d29, [.int .i64 x38], encA .i64 d30, [.slice a14 l14.length c14]] ∧ OwnS k_S_purse_Held gq (t + 20) 56 a14 l14.length c14 l14 from hf _ (List.mem_of_getElem? (i := 8) rfl) (by kernel_rfl))
              subst e5
              subst e4
              obtain ⟨b21, u11, ha11⟩ := hR14.at hc11
              refine WP.indexA (t := 30) (e := 56) (sz := 11) (cap := c14) (k := .i64) (i := x36) hR14.len ha11 (by kernel_rfl) (by kernel_rfl) hc11 ?_
              refine WP.done (by kernel_rfl) (Shown.ok (v := .pointer (some ⟨b21, u11 + x36.toNat * 11, none⟩)) (by kernel_rfl) (Step.refl _ _) ?_)
              exact ⟨trivial, trivial, trivial, trivial, trivial, trivial, trivial, trivial, trivial, ⟨b21, u11, a14, c14, rfl, rfl, rfl, ha11, hR14⟩, trivial, trivial, trivial, trivial, trivial, trivial, trivial, trivial⟩
            · intro vs gq stq hl hf
              obtain ⟨v0, v1, v2, v3, v4, v5, v6, v7, v8, v9, v10, v11, v12, v13, rfl⟩ := len_k14 hl
              have e1 := (show v1 = .bool true from hf _ (List.mem_of_getElem? (i := 4) rfl) (by kernel_rfl))
              subst e1
              obtain ⟨b21, u11, a14, c14, e6, e5, e4, ha11, hR14⟩ := (show ∃ (b21 : Nat) (u11 : Nat) (a14 : Option Addr) (c14 : Nat), v6 = .pointer (some ⟨b21, u11 + x36.toNat * 11, none⟩) ∧ v5 = .slice a14 l14.length c14 ∧ v4 = AG [encA .u8 d29, [.int .i64 x38], encA .i64 d30, [.slice a14 l14.length c14]] ∧ a14 = some ⟨b21, u11, none⟩ ∧ OwnS k_S_purse_Held gq (t + 20) 56 a14 l14.length c14 l14 from hf _ (List.mem_of_getElem? (i := 9) rfl) (by kernel_rfl))
              subst e6
              subst e5
              subst e4
              obtain ⟨cs11, hcR11, hcV11⟩ := hR14.src.view (getI_some hc11) ha11
              replace hcR11 := k_S_purse_Held.opn hcR11
              refine WP.loadV [encA .u8 ((getI l14 x36).f1), [.int .i64 ((getI l14 x36).f2)], [.int .i64 ((getI l14 x36).f3)], [.int .i64 ((getI l14 x36).f4)]] [8, 1, 1, 1] hcV11 hcR11 (by simp [len_encA]) (f := 0) (ty := 56) (agg := true) (size := 11) (rs := [encA .u8 ((getI l14 x36).f1), [.int .i64 ((getI l14 x36).f2)], [.int .i64 ((getI l14 x36).f3)], [.int .i64 ((getI l14 x36).f4)]]) (v := AG [encA .u8 ((getI l14 x36).f1), [.int .i64 ((getI l14 x36).f2)], [.int .i64 ((getI l14 x36).f3)], [.int .i64 ((getI l14 x36).f4)]]) (by kernel_rfl) (by kernel_rfl) (by kernel_rfl) (by kernel_rfl) ?_
              refine WP.done (by kernel_rfl) (Shown.ok (v := AG [encA .u8 ((getI l14 x36).f1), [.int .i64 ((getI l14 x36).f2)], [.int .i64 ((getI l14 x36).f3)], [.int .i64 ((getI l14 x36).f4)]]) (by kernel_rfl) (Step.refl _ _) ?_)
              exact ⟨trivial, trivial, trivial, trivial, trivial, trivial, trivial, trivial, trivial, trivial, rfl, trivial, trivial, trivial, trivial, trivial, trivial, trivial⟩
            · intro vs gq stq hl hf
              obtain ⟨v0, v1, v2, v3, v4, v5, v6, v7, v8, v9, v10, v11, v12, v13, rfl⟩ := len_k14 hl
              have e1 := (show v1 = .bool true from hf _ (List.mem_of_getElem? (i := 4) rfl) (by kernel_rfl))
              subst e1
              have e2 := (show v2 = AG [encA .u8 d26, [.int .i64 x33], [.int .i64 x34], [.int .i64 x35]] from hf _ (List.mem_of_getElem? (i := 5) rfl) (by kernel_rfl))
              subst e2
              have e7 := (show v7 = AG [encA .u8 ((getI l14 x36).f1), [.int .i64 ((getI l14 x36).f2)], [.int .i64 ((getI l14 x36).f3)], [.int .i64 ((getI l14 x36).f4)]] from hf _ (List.mem_of_getElem? (i := 10) rfl) (by kernel_rfl))
              subst e7
              refine WP.neV (by kernel_rfl) (by kernel_rfl) (EqV.struct (d := 9999) (t := 56) (xs := [encA .u8 d26, [.int .i64 x33], [.int .i64 x34], [.int .i64 x35]]) (ys := [encA .u8 ((getI l14 x36).f1), [.int .i64 ((getI l14 x36).f2)], [.int .i64 ((getI l14 x36).f3)], [.int .i64 ((getI l14 x36).f4)]]) (by kernel_rfl) (by kernel_rfl) (EqFi.cons (ns := [8, 1, 1, 1]) (ms := [8, 1, 1, 1]) (t' := 29) (x := AG [encA .u8 d26]) (y := AG [encA .u8 ((getI l14 x36).f1)]) (by simp [len_encA]) (by simp [len_encA]) (by kernel_rfl) (by kernel_rfl) (EqV.arr (d := 9997) (t := 29) (e := 5) (m := 8) (k := .u8) (x := d26) (y := (getI l14 x36).f1) (by kernel_rfl) (by kernel_rfl)) (EqFi.cons (ns := [8, 1, 1, 1]) (ms := [8, 1, 1, 1]) (t' := 3) (x := .int .i64 x33) (y := .int .i64 ((getI l14 x36).f2)) (by simp [len_encA]) (by simp [len_encA]) (by kernel_rfl) (by kernel_rfl) (EqV.int (d := 9998) (k' := .i64) (by kernel_rfl)) (EqFi.cons (ns := [8, 1, 1, 1]) (ms := [8, 1, 1, 1]) (t' := 3) (x := .int .i64 x34) (y := .int .i64 ((getI l14 x36).f3)) (by simp [len_encA]) (by simp [len_encA]) (by kernel_rfl) (by kernel_rfl) (EqV.int (d := 9998) (k' := .i64) (by kernel_rfl)) (EqFi.one (ns := [8, 1, 1, 1]) (ms := [8, 1, 1, 1]) (t' := 3) (x := .int .i64 x35) (y := .int .i64 ((getI l14 x36).f4)) (by simp [len_encA]) (by simp [len_encA]) (by kernel_rfl) (by kernel_rfl) (EqV.int (d := 9998) (k' := .i64) (by kernel_rfl)) (Nat.le_of_ble_eq_true rfl)))))) ?_
              refine WP.done (by kernel_rfl) (Shown.ok (v := .bool (!((d26.1 == ((getI l14 x36).f1).1) && ((x33 == ((getI l14 x36).f2)) && ((x34 == ((getI l14 x36).f3)) && (x35 == ((getI l14 x36).f4))))))) (by kernel_rfl) (Step.refl _ _) ?_)
              exact ⟨trivial, trivial, trivial, trivial, trivial, trivial, trivial, trivial, trivial, trivial, trivial, rfl, trivial, trivial, trivial, trivial, trivial, trivial⟩
            · intro vs gq stq hl hf
              obtain ⟨v0, v1, v2, v3, v4, v5, v6, v7, v8, v9, v10, v11, v12, v13, rfl⟩ := len_k14 hl
              have e0 := (show v0 = .bool false from hf _ (List.mem_of_getElem? (i := 3) rfl) (by kernel_rfl))
              subst e0
              have e1 := (show v1 = .bool true from hf _ (List.mem_of_getElem? (i := 4) rfl) (by kernel_rfl))
              subst e1
              have e8 := (show v8 = .bool (!((d26.1 == ((getI l14 x36).f1).1) && ((x33 == ((getI l14 x36).f2)) && ((x34 == ((getI l14 x36).f3)) && (x35 == ((getI l14 x36).f4)))))) from hf _ (List.mem_of_getElem? (i := 11) rfl) (by kernel_rfl))
              subst e8
              refine WP.still 1 (by kernel_rfl) ?_
              refine WP.done (by kernel_rfl) (Shown.ok (v := .bool (!((d26.1 == ((getI l14 x36).f1).1) && ((x33 == ((getI l14 x36).f2)) && ((x34 == ((getI l14 x36).f3)) && (x35 == ((getI l14 x36).f4))))))) (by kernel_rfl) (Step.refl _ _) ?_)
              exact ⟨trivial, trivial, trivial, trivial, trivial, trivial, trivial, trivial, trivial, trivial, trivial, trivial, congrArg Value.bool h40, trivial, trivial, trivial, trivial, trivial⟩
            · intro vs gq stq hl hf
              obtain ⟨v0, v1, v2, v3, v4, v5, v6, v7, v8, v9, v10, v11, v12, v13, rfl⟩ := len_k14 hl
              have e9 := (show v9 = .bool false from hf _ (List.mem_of_getElem? (i := 12) rfl) (by kernel_rfl))
              subst e9
              refine WP.still 1 (by kernel_rfl) ?_
              refine WP.done (by kernel_rfl) (Shown.ok (v := .bool (!q25)) (by kernel_rfl) (Step.refl _ _) ?_)
              exact ⟨trivial, trivial, trivial, trivial, trivial, trivial, trivial, trivial, trivial, trivial, trivial, trivial, trivial, congrArg Value.bool h41, trivial, trivial, trivial, trivial⟩
            · intro vs gq stq hl hf
              obtain ⟨v0, v1, v2, v3, v4, v5, v6, v7, v8, v9, v10, v11, v12, v13, rfl⟩ := len_k14 hl
              have hB17 := (show Box gq (t + 18) b18 56 [encA .u8 d26, [.int .i64 x33], [.int .i64 x34], [.int .i64 x35]] [8, 1, 1, 1] from hf _ (List.mem_of_getElem? (i := 2) rfl) (by kernel_rfl))
              have e10 := (show v10 = .bool true from hf _ (List.mem_of_getElem? (i := 13) rfl) (by kernel_rfl))
              subst e10
              refine WP.loadB (v := AG [encA .u8 d26, [.int .i64 x33], [.int .i64 x34], [.int .i64 x35]]) hB17 (by kernel_rfl) (by kernel_rfl) ?_
              refine WP.done (by kernel_rfl) (Shown.ok (v := AG [encA .u8 d26, [.int .i64 x33], [.int .i64 x34], [.int .i64 x35]]) (by kernel_rfl) (Step.refl _ _) ?_)
              exact ⟨trivial, trivial, trivial, trivial, trivial, trivial, trivial, trivial, trivial, trivial, trivial, trivial, trivial, trivial, rfl, trivial, trivial, trivial⟩
            · intro vs gq stq hl hf
              obtain ⟨v0, v1, v2, v3, v4, v5, v6, v7, v8, v9, v10, v11, v12, v13, rfl⟩ := len_k14 hl
              have e10 := (show v10 = .bool true from hf _ (List.mem_of_getElem? (i := 13) rfl) (by kernel_rfl))
              subst e10
              refine WP.buildS (places := #[(0, 8), (8, 1), (9, 1), (10, 1)]) (t := 56) [encA .u8 (zA 8), [.int .i64 0], [.int .i64 0], [.int .i64 0]] [8, 1, 1, 1] (by kernel_rfl) (by kernel_rfl) (by simp [len_encA]) (by kernel_rfl) (.nil) ?_
              refine WP.done (by kernel_rfl) (Shown.ok (v := AG [encA .u8 (zA 8), [.int .i64 0], [.int .i64 0], [.int .i64 0]]) (by kernel_rfl) (Step.refl _ _) ?_)
              exact ⟨trivial, trivial, trivial, trivial, trivial, trivial, trivial, trivial, trivial, trivial, trivial, trivial, trivial, trivial, trivial, rfl, trivial, trivial⟩
            · intro vs gq stq hl hf
              obtain ⟨v0, v1, v2, v3, v4, v5, v6, v7, v8, v9, v10, v11, v12, v13, rfl⟩ := len_k14 hl
              have e10 := (show v10 = .bool true from hf _ (List.mem_of_getElem? (i := 13) rfl) (by kernel_rfl))
              subst e10
              have e11 := (show v11 = AG [encA .u8 d26, [.int .i64 x33], [.int .i64 x34], [.int .i64 x35]] from hf _ (List.mem_of_getElem? (i := 14) rfl) (by kernel_rfl))
              subst e11
              have e12 := (show v12 = AG [encA .u8 (zA 8), [.int .i64 0], [.int .i64 0], [.int .i64 0]] from hf _ (List.mem_of_getElem? (i := 15) rfl) (by kernel_rfl))
              subst e12
              refine WP.neV (by kernel_rfl) (by kernel_rfl) (EqV.struct (d := 9999) (t := 56) (xs := [encA .u8 d26, [.int .i64 x33], [.int .i64 x34], [.int .i64 x35]]) (ys := [encA .u8 (zA 8), [.int .i64 0], [.int .i64 0], [.int .i64 0]]) (by kernel_rfl) (by kernel_rfl) (EqFi.cons (ns := [8, 1, 1, 1]) (ms := [8, 1, 1, 1]) (t' := 29) (x := AG [encA .u8 d26]) (y := AG [encA .u8 (zA 8)]) (by simp [len_encA]) (by simp [len_encA]) (by kernel_rfl) (by kernel_rfl) (EqV.arr (d := 9997) (t := 29) (e := 5) (m := 8) (k := .u8) (x := d26) (y := (zA 8)) (by kernel_rfl) (by kernel_rfl)) (EqFi.cons (ns := [8, 1, 1, 1]) (ms := [8, 1, 1, 1]) (t' := 3) (x := .int .i64 x33) (y := .int .i64 0) (by simp [len_encA]) (by simp [len_encA]) (by kernel_rfl) (by kernel_rfl) (EqV.int (d := 9998) (k' := .i64) (by kernel_rfl)) (EqFi.cons (ns := [8, 1, 1, 1]) (ms := [8, 1, 1, 1]) (t' := 3) (x := .int .i64 x34) (y := .int .i64 0) (by simp [len_encA]) (by simp [len_encA]) (by kernel_rfl) (by kernel_rfl) (EqV.int (d := 9998) (k' := .i64) (by kernel_rfl)) (EqFi.one (ns := [8, 1, 1, 1]) (ms := [8, 1, 1, 1]) (t' := 3) (x := .int .i64 x35) (y := .int .i64 0) (by simp [len_encA]) (by simp [len_encA]) (by kernel_rfl) (by kernel_rfl) (EqV.int (d := 9998) (k' := .i64) (by kernel_rfl)) (Nat.le_of_ble_eq_true rfl)))))) ?_
              refine WP.done (by kernel_rfl) (Shown.ok (v := .bool (!((d26.1 == (zA 8).1) && ((x33 == 0) && ((x34 == 0) && (x35 == 0)))))) (by kernel_rfl) (Step.refl _ _) ?_)
              exact ⟨trivial, trivial, trivial, trivial, trivial, trivial, trivial, trivial, trivial, trivial, trivial, trivial, trivial, trivial, trivial, trivial, rfl, trivial⟩
          intro vs g70 st70 hl hf
          obtain ⟨v0, v1, v2, v3, v4, v5, v6, v7, v8, v9, v10, v11, v12, v13, rfl⟩ := len_k14 hl
          have e0 := (show v0 = .bool false from hf _ (List.mem_of_getElem? (i := 3) rfl) (by kernel_rfl))
          subst e0
          have e1 := (show v1 = .bool true from hf _ (List.mem_of_getElem? (i := 4) rfl) (by kernel_rfl))
          subst e1
          have e2 := (show v2 = AG [encA .u8 d26, [.int .i64 x33], [.int .i64 x34], [.int .i64 x35]] from hf _ (List.mem_of_getElem? (i := 5) rfl) (by kernel_rfl))
          subst e2
          have e3 := (show v3 = AG [encA .u8 d1, [.int .i64 x1], encA .i64 d2, [.slice a1 n1 c1]] from hf _ (List.mem_of_getElem? (i := 6) rfl) (by kernel_rfl))
          subst e3
          obtain ⟨b21, u11, a14, c14, e6, e5, e4, ha11, hR14⟩ := (show ∃ (b21 : Nat) (u11 : Nat) (a14 : Option Addr) (c14 : Nat), v6 = .pointer (some ⟨b21, u11 + x36.toNat * 11, none⟩) ∧ v5 = .slice a14 l14.length c14 ∧ v4 = AG [encA .u8 d29, [.int .i64 x38], encA .i64 d30, [.slice a14 l14.length c14]] ∧ a14 = some ⟨b21, u11, none⟩ ∧ OwnS k_S_purse_Held g70 (t + 20) 56 a14 l14.length c14 l14 from hf _ (List.mem_of_getElem? (i := 9) rfl) (by kernel_rfl))
          subst e6
          subst e5
          subst e4
          have e7 := (show v7 = AG [encA .u8 ((getI l14 x36).f1), [.int .i64 ((getI l14 x36).f2)], [.int .i64 ((getI l14 x36).f3)], [.int .i64 ((getI l14 x36).f4)]] from hf _ (List.mem_of_getElem? (i := 10) rfl) (by kernel_rfl))
          subst e7
          have e8 := (show v8 = .bool (!((d26.1 == ((getI l14 x36).f1).1) && ((x33 == ((getI l14 x36).f2)) && ((x34 == ((getI l14 x36).f3)) && (x35 == ((getI l14 x36).f4)))))) from hf _ (List.mem_of_getElem? (i := 11) rfl) (by kernel_rfl))
          subst e8
          have e9 := (show v9 = .bool false from hf _ (List.mem_of_getElem? (i := 12) rfl) (by kernel_rfl))
          subst e9
          have e10 := (show v10 = .bool true from hf _ (List.mem_of_getElem? (i := 13) rfl) (by kernel_rfl))
          subst e10
          have e11 := (show v11 = AG [encA .u8 d26, [.int .i64 x33], [.int .i64 x34], [.int .i64 x35]] from hf _ (List.mem_of_getElem? (i := 14) rfl) (by kernel_rfl))
          subst e11
          have e12 := (show v12 = AG [encA .u8 (zA 8), [.int .i64 0], [.int .i64 0], [.int .i64 0]] from hf _ (List.mem_of_getElem? (i := 15) rfl) (by kernel_rfl))
          subst e12
          have e13 := (show v13 = .bool (!((d26.1 == (zA 8).1) && ((x33 == 0) && ((x34 == 0) && (x35 == 0))))) from hf _ (List.mem_of_getElem? (i := 16) rfl) (by kernel_rfl))
          subst e13
          replace hB1 := hB1.mono st70.toNo (fun x => x)
          replace hR1 := hR1.mono st70.toNo (fun x => x)
          replace hB2 := hB2.mono st70.toNo (fun x => x)
          replace hR2 := hR2.mono st70.toNo (fun x => x)
          replace hB3 := hB3.mono st70.toNo (fun x => x)
          replace hR8 := hR8.mono st70.toNo (fun x => x)
          replace tot := tot.trans st70.toNo.pure
          refine NX.post ?_
          exact ⟨(!((d26.1 == (zA 8).1) && ((x33 == 0) && ((x34 == 0) && (x35 == 0))))), ⟨by kernel_rfl, by kernel_rfl⟩, tot, hB1, hR1, hB2, hR2, hB3, hR8, hs⟩
        replace hs := of_if_f hs h41
        refine CP.drawL (by kernel_rfl) [4, 6, 7, 8, 9, 10, 12, 13, 14, 17, 20] N.baizelaw47_PurseChecks_2 [⟨none, [], [], fun l g => Box g (t + 1) b1 26 [encA .u8 d1, [.int .i64 x1], encA .i64 d2, [.slice a1 n1 c1]] [8, 1, 2, 1]⟩, ⟨none, [], [], fun l g => RdS k_S_baizeref47_Held g 60 a1 n1 c1 l1⟩, ⟨none, [], [], fun l g => Box g (t + 18) b18 56 [encA .u8 d26, [.int .i64 x33], [.int .i64 x34], [.int .i64 x35]] [8, 1, 1, 1]⟩, ⟨some 0, [], [0], fun l g => l.getD 0 undef = .bool false⟩, ⟨some 1, [], [1], fun l g => l.getD 0 undef = .bool true⟩, ⟨some 2, [], [2], fun l g => l.getD 0 undef = AG [encA .u8 d26, [.int .i64 x33], [.int .i64 x34], [.int .i64 x35]]⟩, ⟨some 3, [], [3], fun l g => l.getD 0 undef = AG [encA .u8 d1, [.int .i64 x1], encA .i64 d2, [.slice a1 n1 c1]]⟩, ⟨some 4, [], [4], fun l g => ∃ (a14 : Option Addr) (c14 : Nat), l.getD 0 undef = AG [encA .u8 d29, [.int .i64 x38], encA .i64 d30, [.slice a14 l14.length c14]] ∧ OwnS k_S_purse_Held g (t + 20) 56 a14 l14.length c14 l14⟩, ⟨some 5, [], [5, 4], fun l g => ∃ (a14 : Option Addr) (c14 : Nat), l.getD 0 undef = .slice a14 l14.length c14 ∧ l.getD 1 undef = AG [encA .u8 d29, [.int .i64 x38], encA .i64 d30, [.slice a14 l14.length c14]] ∧ OwnS k_S_purse_Held g (t + 20) 56 a14 l14.length c14 l14⟩, ⟨some 6, [], [6, 5, 4], fun l g => ∃ (b21 : Nat) (u11 : Nat) (a14 : Option Addr) (c14 : Nat), l.getD 0 undef = .pointer (some ⟨b21, u11 + x36.toNat * 11, none⟩) ∧ l.getD 1 undef = .slice a14 l14.length c14 ∧ l.getD 2 undef = AG [encA .u8 d29, [.int .i64 x38], encA .i64 d30, [.slice a14 l14.length c14]] ∧ a14 = some ⟨b21, u11, none⟩ ∧ OwnS k_S_purse_Held g (t + 20) 56 a14 l14.length c14 l14⟩, ⟨some 7, [], [7], fun l g => l.getD 0 undef = AG [encA .u8 ((getI l14 x36).f1), [.int .i64 ((getI l14 x36).f2)], [.int .i64 ((getI l14 x36).f3)], [.int .i64 ((getI l14 x36).f4)]]⟩, ⟨some 8, [], [8], fun l g => l.getD 0 undef = .bool (!((d26.1 == ((getI l14 x36).f1).1) && ((x33 == ((getI l14 x36).f2)) && ((x34 == ((getI l14 x36).f3)) && (x35 == ((getI l14 x36).f4))))))⟩, ⟨some 9, [], [9], fun l g => l.getD 0 undef = .bool false⟩, ⟨some 10, [], [10], fun l g => l.getD 0 undef = .bool false⟩] [[], [], [], [], [], [], [], [], [], [], []] [] [0, 1, 2, 3] [5, 11, 15, 16, 18, 19, 21, 22, 23, 24, 25] (by kernel_rfl) (by simp) (by simp) ⟨fun _ _ _ _ st h0 hl hj hB1 => (hB1.mono st (fun h => absurd (hl _ h) (by simp))), fun _ _ _ _ st h0 hl hj hR1 => (RdS.mono (e := 60) hR1 st h0), fun _ _ _ _ st h0 hl hj hB17 => (hB17.mono st (fun h => absurd (hl _ h) (by simp))), fun _ _ _ _ st h0 hl hj e0 => e0, fun _ _ _ _ st h0 hl hj e1 => e1, fun _ _ _ _ st h0 hl hj e2 => e2, fun _ _ _ _ st h0 hl hj e3 => e3, fun _ _ _ _ st h0 hl hj ⟨a14, c14, e4, hR14⟩ => ⟨a14, c14, e4, (hR14.mono st h0 (fun h => absurd (hl _ h) (by simp)))⟩, fun _ _ _ _ st h0 hl hj ⟨a14, c14, e5, e4, hR14⟩ => ⟨a14, c14, e5, e4, (hR14.mono st h0 (fun h => absurd (hl _ h) (by simp)))⟩, fun _ _ _ _ st h0 hl hj ⟨b21, u11, a14, c14, e6, e5, e4, ha11, hR14⟩ => ⟨b21, u11, a14, c14, e6, e5, e4, ha11, (hR14.mono st h0 (fun h => absurd (hl _ h) (by simp)))⟩, fun _ _ _ _ st h0 hl hj e7 => e7, fun _ _ _ _ st h0 hl hj e8 => e8, fun _ _ _ _ st h0 hl hj e9 => e9, fun _ _ _ _ st h0 hl hj e10 => e10, trivial⟩ ⟨hB1, hR1, hB17, trivial, trivial, trivial, trivial, trivial, trivial, trivial, trivial, trivial, trivial, trivial, trivial⟩ (by kernel_rfl) (fun vs => by kernel_rfl) ?_ ?_ ?_
        · intro j hj
          have hq : j = 0 ∨ j = 1 ∨ j = 2 ∨ j = 3 ∨ j = 4 ∨ j = 5 ∨ j = 6 ∨ j = 7 ∨ j = 8 ∨ j = 9 ∨ j = 10 := by have h : j < 11 := hj; omega
          rcases hq with rfl | rfl | rfl | rfl | rfl | rfl | rfl | rfl | rfl | rfl | rfl
          · intro vs gq stq hl hf
            obtain ⟨v0, v1, v2, v3, v4, v5, v6, v7, v8, v9, v10, rfl⟩ := len_k11 hl
            have e0 := (show v0 = .bool false from hf _ (List.mem_of_getElem? (i := 3) rfl) (by kernel_rfl))
            subst e0
            show Option.isSome _ = true
            kernel_rfl
          · intro vs gq stq hl hf
            obtain ⟨v0, v1, v2, v3, v4, v5, v6, v7, v8, v9, v10, rfl⟩ := len_k11 hl
            have e1 := (show v1 = .bool true from hf _ (List.mem_of_getElem? (i := 4) rfl) (by kernel_rfl))
            subst e1
            show Option.isSome _ = true
            kernel_rfl
          · intro vs gq stq hl hf
            obtain ⟨v0, v1, v2, v3, v4, v5, v6, v7, v8, v9, v10, rfl⟩ := len_k11 hl
            have e0 := (show v0 = .bool false from hf _ (List.mem_of_getElem? (i := 3) rfl) (by kernel_rfl))
            subst e0
            have e1 := (show v1 = .bool true from hf _ (List.mem_of_getElem? (i := 4) rfl) (by kernel_rfl))
            subst e1
            have e8 := (show v8 = .bool (!((d26.1 == ((getI l14 x36).f1).1) && ((x33 == ((getI l14 x36).f2)) && ((x34 == ((getI l14 x36).f3)) && (x35 == ((getI l14 x36).f4)))))) from hf _ (List.mem_of_getElem? (i := 11) rfl) (by kernel_rfl))
            subst e8
            show Option.isSome _ = true
            kernel_rfl
          · intro vs gq stq hl hf
            obtain ⟨v0, v1, v2, v3, v4, v5, v6, v7, v8, v9, v10, rfl⟩ := len_k11 hl
            have e0 := (show v0 = .bool false from hf _ (List.mem_of_getElem? (i := 3) rfl) (by kernel_rfl))
            subst e0
            have e1 := (show v1 = .bool true from hf _ (List.mem_of_getElem? (i := 4) rfl) (by kernel_rfl))
            subst e1
            have e8 := (show v8 = .bool (!((d26.1 == ((getI l14 x36).f1).1) && ((x33 == ((getI l14 x36).f2)) && ((x34 == ((getI l14 x36).f3)) && (x35 == ((getI l14 x36).f4)))))) from hf _ (List.mem_of_getElem? (i := 11) rfl) (by kernel_rfl))
            subst e8
            show Option.isSome _ = true
            kernel_rfl
          · intro vs gq stq hl hf
            obtain ⟨v0, v1, v2, v3, v4, v5, v6, v7, v8, v9, v10, rfl⟩ := len_k11 hl
            have e9 := (show v9 = .bool false from hf _ (List.mem_of_getElem? (i := 12) rfl) (by kernel_rfl))
            subst e9
            show Option.isSome _ = true
            kernel_rfl
          · intro vs gq stq hl hf
            obtain ⟨v0, v1, v2, v3, v4, v5, v6, v7, v8, v9, v10, rfl⟩ := len_k11 hl
            have e9 := (show v9 = .bool false from hf _ (List.mem_of_getElem? (i := 12) rfl) (by kernel_rfl))
            subst e9
            show Option.isSome _ = true
            kernel_rfl
          · intro vs gq stq hl hf
            obtain ⟨v0, v1, v2, v3, v4, v5, v6, v7, v8, v9, v10, rfl⟩ := len_k11 hl
            have e10 := (show v10 = .bool false from hf _ (List.mem_of_getElem? (i := 13) rfl) (by kernel_rfl))
            subst e10
            show Option.isSome _ = true
            kernel_rfl
          · intro vs gq stq hl hf
            obtain ⟨v0, v1, v2, v3, v4, v5, v6, v7, v8, v9, v10, rfl⟩ := len_k11 hl
            have e10 := (show v10 = .bool false from hf _ (List.mem_of_getElem? (i := 13) rfl) (by kernel_rfl))
            subst e10
            show Option.isSome _ = true
            kernel_rfl
          · intro vs gq stq hl hf
            obtain ⟨v0, v1, v2, v3, v4, v5, v6, v7, v8, v9, v10, rfl⟩ := len_k11 hl
            have e10 := (show v10 = .bool false from hf _ (List.mem_of_getElem? (i := 13) rfl) (by kernel_rfl))
            subst e10
            show Option.isSome _ = true
            kernel_rfl
          · intro vs gq stq hl hf
            obtain ⟨v0, v1, v2, v3, v4, v5, v6, v7, v8, v9, v10, rfl⟩ := len_k11 hl
            have e9 := (show v9 = .bool false from hf _ (List.mem_of_getElem? (i := 12) rfl) (by kernel_rfl))
            subst e9
            have e10 := (show v10 = .bool false from hf _ (List.mem_of_getElem? (i := 13) rfl) (by kernel_rfl))
            subst e10
            show Option.isSome _ = true
            kernel_rfl
          · intro vs gq stq hl hf
            obtain ⟨v0, v1, v2, v3, v4, v5, v6, v7, v8, v9, v10, rfl⟩ := len_k11 hl
            have e9 := (show v9 = .bool false from hf _ (List.mem_of_getElem? (i := 12) rfl) (by kernel_rfl))
            subst e9
            have e10 := (show v10 = .bool false from hf _ (List.mem_of_getElem? (i := 13) rfl) (by kernel_rfl))
            subst e10
            show Option.isSome _ = true
            kernel_rfl
        · intro j hj
          have hq : j = 0 ∨ j = 1 ∨ j = 2 ∨ j = 3 ∨ j = 4 ∨ j = 5 ∨ j = 6 ∨ j = 7 ∨ j = 8 ∨ j = 9 ∨ j = 10 := by have h : j < 11 := hj; omega
          rcases hq with rfl | rfl | rfl | rfl | rfl | rfl | rfl | rfl | rfl | rfl | rfl
          · intro vs gq stq hl hf
            obtain ⟨v0, v1, v2, v3, v4, v5, v6, v7, v8, v9, v10, rfl⟩ := len_k11 hl
            refine WP.still 1 (by kernel_rfl) ?_
            refine WP.done (by kernel_rfl) (Shown.ok (v := .bool (!(q25 == (decide (x36 ≥ 0))))) (by kernel_rfl) (Step.refl _ _) ?_)
            exact ⟨trivial, trivial, trivial, congrArg Value.bool h38, trivial, trivial, trivial, trivial, trivial, trivial, trivial, trivial, trivial, trivial, trivial⟩
          · intro vs gq stq hl hf
            obtain ⟨v0, v1, v2, v3, v4, v5, v6, v7, v8, v9, v10, rfl⟩ := len_k11 hl
            have e0 := (show v0 = .bool false from hf _ (List.mem_of_getElem? (i := 3) rfl) (by kernel_rfl))
            subst e0
            refine WP.still 1 (by kernel_rfl) ?_
            refine WP.done (by kernel_rfl) (Shown.ok (v := .bool q25) (by kernel_rfl) (Step.refl _ _) ?_)
            exact ⟨trivial, trivial, trivial, trivial, congrArg Value.bool h39, trivial, trivial, trivial, trivial, trivial, trivial, trivial, trivial, trivial, trivial⟩
          · intro vs gq stq hl hf
            obtain ⟨v0, v1, v2, v3, v4, v5, v6, v7, v8, v9, v10, rfl⟩ := len_k11 hl
            have hB17 := (show Box gq (t + 18) b18 56 [encA .u8 d26, [.int .i64 x33], [.int .i64 x34], [.int .i64 x35]] [8, 1, 1, 1] from hf _ (List.mem_of_getElem? (i := 2) rfl) (by kernel_rfl))
            have e1 := (show v1 = .bool true from hf _ (List.mem_of_getElem? (i := 4) rfl) (by kernel_rfl))
            subst e1
            refine WP.loadB (v := AG [encA .u8 d26, [.int .i64 x33], [.int .i64 x34], [.int .i64 x35]]) hB17 (by kernel_rfl) (by kernel_rfl) ?_
            refine WP.done (by kernel_rfl) (Shown.ok (v := AG [encA .u8 d26, [.int .i64 x33], [.int .i64 x34], [.int .i64 x35]]) (by kernel_rfl) (Step.refl _ _) ?_)
            exact ⟨trivial, trivial, trivial, trivial, trivial, rfl, trivial, trivial, trivial, trivial, trivial, trivial, trivial, trivial, trivial⟩
          · intro vs gq stq hl hf
            obtain ⟨v0, v1, v2, v3, v4, v5, v6, v7, v8, v9, v10, rfl⟩ := len_k11 hl
            have hB1 := (show Box gq (t + 1) b1 26 [encA .u8 d1, [.int .i64 x1], encA .i64 d2, [.slice a1 n1 c1]] [8, 1, 2, 1] from hf _ (List.mem_of_getElem? (i := 0) rfl) (by kernel_rfl))
            have e1 := (show v1 = .bool true from hf _ (List.mem_of_getElem? (i := 4) rfl) (by kernel_rfl))
            subst e1
            refine WP.loadB (v := AG [encA .u8 d1, [.int .i64 x1], encA .i64 d2, [.slice a1 n1 c1]]) hB1 (by kernel_rfl) (by kernel_rfl) ?_
            refine WP.done (by kernel_rfl) (Shown.ok (v := AG [encA .u8 d1, [.int .i64 x1], encA .i64 d2, [.slice a1 n1 c1]]) (by kernel_rfl) (Step.refl _ _) ?_)
            exact ⟨trivial, trivial, trivial, trivial, trivial, trivial, rfl, trivial, trivial, trivial, trivial, trivial, trivial, trivial, trivial⟩
          · intro vs gq stq hl hf
            obtain ⟨v0, v1, v2, v3, v4, v5, v6, v7, v8, v9, v10, rfl⟩ := len_k11 hl
            have hR1 := (show RdS k_S_baizeref47_Held gq 60 a1 n1 c1 l1 from hf _ (List.mem_of_getElem? (i := 1) rfl) (by kernel_rfl))
            have e1 := (show v1 = .bool true from hf _ (List.mem_of_getElem? (i := 4) rfl) (by kernel_rfl))
            subst e1
            have e3 := (show v3 = AG [encA .u8 d1, [.int .i64 x1], encA .i64 d2, [.slice a1 n1 c1]] from hf _ (List.mem_of_getElem? (i := 6) rfl) (by kernel_rfl))
            subst e3
            have hcal38 := P.baizelaw47_Own gq (t + 20) d1 x1 d2 l1 a1 n1 c1 hR1 d29 x38 d30 l14 hk38
            refine WP.callC hcal38 (by kernel_rfl) ?_
            rintro _ g68 st68 ⟨a14, n14, c14, rfl, hR14⟩
            obtain rfl := hR14.len
            refine WP.done (by kernel_rfl) (Shown.ok (v := AG [encA .u8 d29, [.int .i64 x38], encA .i64 d30, [.slice a14 l14.length c14]]) (by kernel_rfl) st68.pure ?_)
            exact ⟨trivial, trivial, trivial, trivial, trivial, trivial, trivial, ⟨a14, c14, rfl, hR14⟩, trivial, trivial, trivial, trivial, trivial, trivial, trivial⟩
          · intro vs gq stq hl hf
            obtain ⟨v0, v1, v2, v3, v4, v5, v6, v7, v8, v9, v10, rfl⟩ := len_k11 hl
            have e1 := (show v1 = .bool true from hf _ (List.mem_of_getElem? (i := 4) rfl) (by kernel_rfl))
            subst e1
            obtain ⟨a14, c14, e4, hR14⟩ := (show ∃ (a14 : Option Addr) (c14 : Nat), v4 = AG [encA .u8 d29, [.int .i64 x38], encA .i64 d30, [.slice a14 l14.length c14]] ∧ OwnS k_S_purse_Held gq (t + 20) 56 a14 l14.length c14 l14 from hf _ (List.mem_of_getElem? (i := 7) rfl) (by kernel_rfl))
            subst e4
            refine WP.field (t := 32) (segs := [encA .u8 d29, [.int .i64 x38], encA .i64 d30, [.slice a14 l14.length c14]]) (ns := [8, 1, 2, 1]) (v := .slice a14 l14.length c14) (by simp [len_encA]) (by kernel_rfl) (by kernel_rfl) ?_
            refine WP.done (by kernel_rfl) (Shown.ok (v := .slice a14 l14.length c14) (by kernel_rfl) (Step.refl _ _) ?_)
            exact ⟨trivial, trivial, trivial, trivial, trivial, trivial, trivial, trivial, ⟨a14, c14, rfl, rfl, hR14⟩, trivial, trivial, trivial, trivial, trivial, trivial⟩
          · intro vs gq stq hl hf
            obtain ⟨v0, v1, v2, v3, v4, v5, v6, v7, v8, v9, v10, rfl⟩ := len_k11 hl
            have e1 := (show v1 = .bool true from hf _ (List.mem_of_getElem? (i := 4) rfl) (by kernel_rfl))
            subst e1
            obtain ⟨a14, c14, e5, e4, hR14⟩ := (show ∃ (a14 : Option Addr) (c14 : Nat), v5 = .slice a14 l14.length c14 ∧ v4 = AG [encA .u8 d29, [.int .i64 x38], encA .i64 d30, [.slice a14 l14.length c14]] ∧ OwnS k_S_purse_Held gq (t + 20) 56 a14 l14.length c14 l14 from hf _ (List.mem_of_getElem? (i := 8) rfl) (by kernel_rfl))
            subst e5
            subst e4
            obtain ⟨b21, u11, ha11⟩ := hR14.at hc11
            refine WP.indexA (t := 30) (e := 56) (sz := 11) (cap := c14) (k := .i64) (i := x36) hR14.len ha11 (by kernel_rfl) (by kernel_rfl) hc11 ?_
            refine WP.done (by kernel_rfl) (Shown.ok (v := .pointer (some ⟨b21, u11 + x36.toNat * 11, none⟩)) (by kernel_rfl) (Step.refl _ _) ?_)
            exact ⟨trivial, trivial, trivial, trivial, trivial, trivial, trivial, trivial, trivial, ⟨b21, u11, a14, c14, rfl, rfl, rfl, ha11, hR14⟩, trivial, trivial, trivial, trivial, trivial⟩
          · intro vs gq stq hl hf
            obtain ⟨v0, v1, v2, v3, v4, v5, v6, v7, v8, v9, v10, rfl⟩ := len_k11 hl
            have e1 := (show v1 = .bool true from hf _ (List.mem_of_getElem? (i := 4) rfl) (by kernel_rfl))
            subst e1
            obtain ⟨b21, u11, a14, c14, e6, e5, e4, ha11, hR14⟩ := (show ∃ (b21 : Nat) (u11 : Nat) (a14 : Option Addr) (c14 : Nat), v6 = .pointer (some ⟨b21, u11 + x36.toNat * 11, none⟩) ∧ v5 = .slice a14 l14.length c14 ∧ v4 = AG [encA .u8 d29, [.int .i64 x38], encA .i64 d30, [.slice a14 l14.length c14]] ∧ a14 = some ⟨b21, u11, none⟩ ∧ OwnS k_S_purse_Held gq (t + 20) 56 a14 l14.length c14 l14 from hf _ (List.mem_of_getElem? (i := 9) rfl) (by kernel_rfl))
            subst e6
            subst e5
            subst e4
            obtain ⟨cs11, hcR11, hcV11⟩ := hR14.src.view (getI_some hc11) ha11
            replace hcR11 := k_S_purse_Held.opn hcR11
            refine WP.loadV [encA .u8 ((getI l14 x36).f1), [.int .i64 ((getI l14 x36).f2)], [.int .i64 ((getI l14 x36).f3)], [.int .i64 ((getI l14 x36).f4)]] [8, 1, 1, 1] hcV11 hcR11 (by simp [len_encA]) (f := 0) (ty := 56) (agg := true) (size := 11) (rs := [encA .u8 ((getI l14 x36).f1), [.int .i64 ((getI l14 x36).f2)], [.int .i64 ((getI l14 x36).f3)], [.int .i64 ((getI l14 x36).f4)]]) (v := AG [encA .u8 ((getI l14 x36).f1), [.int .i64 ((getI l14 x36).f2)], [.int .i64 ((getI l14 x36).f3)], [.int .i64 ((getI l14 x36).f4)]]) (by kernel_rfl) (by kernel_rfl) (by kernel_rfl) (by kernel_rfl) ?_
            refine WP.done (by kernel_rfl) (Shown.ok (v := AG [encA .u8 ((getI l14 x36).f1), [.int .i64 ((getI l14 x36).f2)], [.int .i64 ((getI l14 x36).f3)], [.int .i64 ((getI l14 x36).f4)]]) (by kernel_rfl) (Step.refl _ _) ?_)
            exact ⟨trivial, trivial, trivial, trivial, trivial, trivial, trivial, trivial, trivial, trivial, rfl, trivial, trivial, trivial, trivial⟩
          · intro vs gq stq hl hf
            obtain ⟨v0, v1, v2, v3, v4, v5, v6, v7, v8, v9, v10, rfl⟩ := len_k11 hl
            have e1 := (show v1 = .bool true from hf _ (List.mem_of_getElem? (i := 4) rfl) (by kernel_rfl))
            subst e1
            have e2 := (show v2 = AG [encA .u8 d26, [.int .i64 x33], [.int .i64 x34], [.int .i64 x35]] from hf _ (List.mem_of_getElem? (i := 5) rfl) (by kernel_rfl))
            subst e2
            have e7 := (show v7 = AG [encA .u8 ((getI l14 x36).f1), [.int .i64 ((getI l14 x36).f2)], [.int .i64 ((getI l14 x36).f3)], [.int .i64 ((getI l14 x36).f4)]] from hf _ (List.mem_of_getElem? (i := 10) rfl) (by kernel_rfl))
            subst e7
            refine WP.neV (by kernel_rfl) (by kernel_rfl) (EqV.struct (d := 9999) (t := 56) (xs := [encA .u8 d26, [.int .i64 x33], [.int .i64 x34], [.int .i64 x35]]) (ys := [encA .u8 ((getI l14 x36).f1), [.int .i64 ((getI l14 x36).f2)], [.int .i64 ((getI l14 x36).f3)], [.int .i64 ((getI l14 x36).f4)]]) (by kernel_rfl) (by kernel_rfl) (EqFi.cons (ns := [8, 1, 1, 1]) (ms := [8, 1, 1, 1]) (t' := 29) (x := AG [encA .u8 d26]) (y := AG [encA .u8 ((getI l14 x36).f1)]) (by simp [len_encA]) (by simp [len_encA]) (by kernel_rfl) (by kernel_rfl) (EqV.arr (d := 9997) (t := 29) (e := 5) (m := 8) (k := .u8) (x := d26) (y := (getI l14 x36).f1) (by kernel_rfl) (by kernel_rfl)) (EqFi.cons (ns := [8, 1, 1, 1]) (ms := [8, 1, 1, 1]) (t' := 3) (x := .int .i64 x33) (y := .int .i64 ((getI l14 x36).f2)) (by simp [len_encA]) (by simp [len_encA]) (by kernel_rfl) (by kernel_rfl) (EqV.int (d := 9998) (k' := .i64) (by kernel_rfl)) (EqFi.cons (ns := [8, 1, 1, 1]) (ms := [8, 1, 1, 1]) (t' := 3) (x := .int .i64 x34) (y := .int .i64 ((getI l14 x36).f3)) (by simp [len_encA]) (by simp [len_encA]) (by kernel_rfl) (by kernel_rfl) (EqV.int (d := 9998) (k' := .i64) (by kernel_rfl)) (EqFi.one (ns := [8, 1, 1, 1]) (ms := [8, 1, 1, 1]) (t' := 3) (x := .int .i64 x35) (y := .int .i64 ((getI l14 x36).f4)) (by simp [len_encA]) (by simp [len_encA]) (by kernel_rfl) (by kernel_rfl) (EqV.int (d := 9998) (k' := .i64) (by kernel_rfl)) (Nat.le_of_ble_eq_true rfl)))))) ?_
            refine WP.done (by kernel_rfl) (Shown.ok (v := .bool (!((d26.1 == ((getI l14 x36).f1).1) && ((x33 == ((getI l14 x36).f2)) && ((x34 == ((getI l14 x36).f3)) && (x35 == ((getI l14 x36).f4))))))) (by kernel_rfl) (Step.refl _ _) ?_)
            exact ⟨trivial, trivial, trivial, trivial, trivial, trivial, trivial, trivial, trivial, trivial, trivial, rfl, trivial, trivial, trivial⟩
          · intro vs gq stq hl hf
            obtain ⟨v0, v1, v2, v3, v4, v5, v6, v7, v8, v9, v10, rfl⟩ := len_k11 hl
            have e0 := (show v0 = .bool false from hf _ (List.mem_of_getElem? (i := 3) rfl) (by kernel_rfl))
            subst e0
            have e1 := (show v1 = .bool true from hf _ (List.mem_of_getElem? (i := 4) rfl) (by kernel_rfl))
            subst e1
            have e8 := (show v8 = .bool (!((d26.1 == ((getI l14 x36).f1).1) && ((x33 == ((getI l14 x36).f2)) && ((x34 == ((getI l14 x36).f3)) && (x35 == ((getI l14 x36).f4)))))) from hf _ (List.mem_of_getElem? (i := 11) rfl) (by kernel_rfl))
            subst e8
            refine WP.still 1 (by kernel_rfl) ?_
            refine WP.done (by kernel_rfl) (Shown.ok (v := .bool (!((d26.1 == ((getI l14 x36).f1).1) && ((x33 == ((getI l14 x36).f2)) && ((x34 == ((getI l14 x36).f3)) && (x35 == ((getI l14 x36).f4))))))) (by kernel_rfl) (Step.refl _ _) ?_)
            exact ⟨trivial, trivial, trivial, trivial, trivial, trivial, trivial, trivial, trivial, trivial, trivial, trivial, congrArg Value.bool h40, trivial, trivial⟩
          · intro vs gq stq hl hf
            obtain ⟨v0, v1, v2, v3, v4, v5, v6, v7, v8, v9, v10, rfl⟩ := len_k11 hl
            have e9 := (show v9 = .bool false from hf _ (List.mem_of_getElem? (i := 12) rfl) (by kernel_rfl))
            subst e9
            refine WP.still 1 (by kernel_rfl) ?_
            refine WP.done (by kernel_rfl) (Shown.ok (v := .bool (!q25)) (by kernel_rfl) (Step.refl _ _) ?_)
            exact ⟨trivial, trivial, trivial, trivial, trivial, trivial, trivial, trivial, trivial, trivial, trivial, trivial, trivial, congrArg Value.bool h41, trivial⟩
        intro vs g71 st71 hl hf
        obtain ⟨v0, v1, v2, v3, v4, v5, v6, v7, v8, v9, v10, rfl⟩ := len_k11 hl
        have e0 := (show v0 = .bool false from hf _ (List.mem_of_getElem? (i := 3) rfl) (by kernel_rfl))
        subst e0
        have e1 := (show v1 = .bool true from hf _ (List.mem_of_getElem? (i := 4) rfl) (by kernel_rfl))
        subst e1
        have e2 := (show v2 = AG [encA .u8 d26, [.int .i64 x33], [.int .i64 x34], [.int .i64 x35]] from hf _ (List.mem_of_getElem? (i := 5) rfl) (by kernel_rfl))
        subst e2
        have e3 := (show v3 = AG [encA .u8 d1, [.int .i64 x1], encA .i64 d2, [.slice a1 n1 c1]] from hf _ (List.mem_of_getElem? (i := 6) rfl) (by kernel_rfl))
        subst e3
        obtain ⟨b21, u11, a14, c14, e6, e5, e4, ha11, hR14⟩ := (show ∃ (b21 : Nat) (u11 : Nat) (a14 : Option Addr) (c14 : Nat), v6 = .pointer (some ⟨b21, u11 + x36.toNat * 11, none⟩) ∧ v5 = .slice a14 l14.length c14 ∧ v4 = AG [encA .u8 d29, [.int .i64 x38], encA .i64 d30, [.slice a14 l14.length c14]] ∧ a14 = some ⟨b21, u11, none⟩ ∧ OwnS k_S_purse_Held g71 (t + 20) 56 a14 l14.length c14 l14 from hf _ (List.mem_of_getElem? (i := 9) rfl) (by kernel_rfl))
        subst e6
        subst e5
        subst e4
        have e7 := (show v7 = AG [encA .u8 ((getI l14 x36).f1), [.int .i64 ((getI l14 x36).f2)], [.int .i64 ((getI l14 x36).f3)], [.int .i64 ((getI l14 x36).f4)]] from hf _ (List.mem_of_getElem? (i := 10) rfl) (by kernel_rfl))
        subst e7
        have e8 := (show v8 = .bool (!((d26.1 == ((getI l14 x36).f1).1) && ((x33 == ((getI l14 x36).f2)) && ((x34 == ((getI l14 x36).f3)) && (x35 == ((getI l14 x36).f4)))))) from hf _ (List.mem_of_getElem? (i := 11) rfl) (by kernel_rfl))
        subst e8
        have e9 := (show v9 = .bool false from hf _ (List.mem_of_getElem? (i := 12) rfl) (by kernel_rfl))
        subst e9
        have e10 := (show v10 = .bool false from hf _ (List.mem_of_getElem? (i := 13) rfl) (by kernel_rfl))
        subst e10
        replace hB1 := hB1.mono st71.toNo (fun x => x)
        replace hR1 := hR1.mono st71.toNo (fun x => x)
        replace hB2 := hB2.mono st71.toNo (fun x => x)
        replace hR2 := hR2.mono st71.toNo (fun x => x)
        replace hB3 := hB3.mono st71.toNo (fun x => x)
        replace hR8 := hR8.mono st71.toNo (fun x => x)
        replace tot := tot.trans st71.toNo.pure
        refine NX.post ?_
        exact ⟨false, ⟨by kernel_rfl, by kernel_rfl⟩, tot, hB1, hR1, hB2, hR2, hB3, hR8, hs⟩
      replace hs := of_if_f hs h39
      refine bool_split (b := (!q25)) (fun h42 => ?_) (fun h42 => ?_)
      · replace hs := of_if_t hs h42
        refine CP.drawL (by kernel_rfl) [4, 6, 20, 21, 22, 23] N.baizelaw47_PurseChecks_2 [⟨none, [], [], fun l g => Box g (t + 18) b18 56 [encA .u8 d26, [.int .i64 x33], [.int .i64 x34], [.int .i64 x35]] [8, 1, 1, 1]⟩, ⟨some 0, [], [0], fun l g => l.getD 0 undef = .bool false⟩, ⟨some 1, [], [1], fun l g => l.getD 0 undef = .bool false⟩, ⟨some 2, [], [2], fun l g => l.getD 0 undef = .bool true⟩, ⟨some 3, [], [3], fun l g => l.getD 0 undef = AG [encA .u8 d26, [.int .i64 x33], [.int .i64 x34], [.int .i64 x35]]⟩, ⟨some 4, [], [4], fun l g => l.getD 0 undef = AG [encA .u8 (zA 8), [.int .i64 0], [.int .i64 0], [.int .i64 0]]⟩, ⟨some 5, [], [5], fun l g => l.getD 0 undef = .bool (!((d26.1 == (zA 8).1) && ((x33 == 0) && ((x34 == 0) && (x35 == 0)))))⟩] [[], [], [], [], [], []] [] [0, 1, 2, 3] [5, 7, 8, 9, 10, 11, 12, 13, 14, 15, 16, 17, 18, 19, 24, 25] (by kernel_rfl) (by simp) (by simp) ⟨fun _ _ _ _ st h0 hl hj hB17 => (hB17.mono st (fun h => absurd (hl _ h) (by simp))), fun _ _ _ _ st h0 hl hj e0 => e0, fun _ _ _ _ st h0 hl hj e1 => e1, fun _ _ _ _ st h0 hl hj e2 => e2, fun _ _ _ _ st h0 hl hj e3 => e3, fun _ _ _ _ st h0 hl hj e4 => e4, fun _ _ _ _ st h0 hl hj e5 => e5, trivial⟩ ⟨hB17, trivial, trivial, trivial, trivial, trivial, trivial, trivial⟩ (by kernel_rfl) (fun vs => by kernel_rfl) ?_ ?_ ?_
        · intro j hj
          have hq : j = 0 ∨ j = 1 ∨ j = 2 ∨ j = 3 ∨ j = 4 ∨ j = 5 ∨ j = 6 ∨ j = 7 ∨ j = 8 ∨ j = 9 ∨ j = 10 ∨ j = 11 ∨ j = 12 ∨ j = 13 ∨ j = 14 ∨ j = 15 := by have h : j < 16 := hj; omega
          rcases hq with rfl | rfl | rfl | rfl | rfl | rfl | rfl | rfl | rfl | rfl | rfl | rfl | rfl | rfl | rfl | rfl
          · intro vs gq stq hl hf
            obtain ⟨v0, v1, v2, v3, v4, v5, rfl⟩ := len_k6 hl
            have e0 := (show v0 = .bool false from hf _ (List.mem_of_getElem? (i := 1) rfl) (by kernel_rfl))
            subst e0
            show Option.isSome _ = true
            kernel_rfl
          · intro vs gq stq hl hf
            obtain ⟨v0, v1, v2, v3, v4, v5, rfl⟩ := len_k6 hl
            have e1 := (show v1 = .bool false from hf _ (List.mem_of_getElem? (i := 2) rfl) (by kernel_rfl))
            subst e1
            show Option.isSome _ = true
            kernel_rfl
          · intro vs gq stq hl hf
            obtain ⟨v0, v1, v2, v3, v4, v5, rfl⟩ := len_k6 hl
            have e1 := (show v1 = .bool false from hf _ (List.mem_of_getElem? (i := 2) rfl) (by kernel_rfl))
            subst e1
            show Option.isSome _ = true
            kernel_rfl
          · intro vs gq stq hl hf
            obtain ⟨v0, v1, v2, v3, v4, v5, rfl⟩ := len_k6 hl
            have e1 := (show v1 = .bool false from hf _ (List.mem_of_getElem? (i := 2) rfl) (by kernel_rfl))
            subst e1
            show Option.isSome _ = true
            kernel_rfl
          · intro vs gq stq hl hf
            obtain ⟨v0, v1, v2, v3, v4, v5, rfl⟩ := len_k6 hl
            have e1 := (show v1 = .bool false from hf _ (List.mem_of_getElem? (i := 2) rfl) (by kernel_rfl))
            subst e1
            show Option.isSome _ = true
            kernel_rfl
          · intro vs gq stq hl hf
            obtain ⟨v0, v1, v2, v3, v4, v5, rfl⟩ := len_k6 hl
            have e1 := (show v1 = .bool false from hf _ (List.mem_of_getElem? (i := 2) rfl) (by kernel_rfl))
            subst e1
            show Option.isSome _ = true
            kernel_rfl
          · intro vs gq stq hl hf
            obtain ⟨v0, v1, v2, v3, v4, v5, rfl⟩ := len_k6 hl
            have e1 := (show v1 = .bool false from hf _ (List.mem_of_getElem? (i := 2) rfl) (by kernel_rfl))
            subst e1
            show Option.isSome _ = true
            kernel_rfl
          · intro vs gq stq hl hf
            obtain ⟨v0, v1, v2, v3, v4, v5, rfl⟩ := len_k6 hl
            have e1 := (show v1 = .bool false from hf _ (List.mem_of_getElem? (i := 2) rfl) (by kernel_rfl))
            subst e1
            show Option.isSome _ = true
            kernel_rfl
          · intro vs gq stq hl hf
            obtain ⟨v0, v1, v2, v3, v4, v5, rfl⟩ := len_k6 hl
            have e1 := (show v1 = .bool false from hf _ (List.mem_of_getElem? (i := 2) rfl) (by kernel_rfl))
            subst e1
            show Option.isSome _ = true
            kernel_rfl
          · intro vs gq stq hl hf
            obtain ⟨v0, v1, v2, v3, v4, v5, rfl⟩ := len_k6 hl
            have e0 := (show v0 = .bool false from hf _ (List.mem_of_getElem? (i := 1) rfl) (by kernel_rfl))
            subst e0
            have e1 := (show v1 = .bool false from hf _ (List.mem_of_getElem? (i := 2) rfl) (by kernel_rfl))
            subst e1
            show Option.isSome _ = true
            kernel_rfl
          · intro vs gq stq hl hf
            obtain ⟨v0, v1, v2, v3, v4, v5, rfl⟩ := len_k6 hl
            have e0 := (show v0 = .bool false from hf _ (List.mem_of_getElem? (i := 1) rfl) (by kernel_rfl))
            subst e0
            have e1 := (show v1 = .bool false from hf _ (List.mem_of_getElem? (i := 2) rfl) (by kernel_rfl))
            subst e1
            show Option.isSome _ = true
            kernel_rfl
          · intro vs gq stq hl hf
            obtain ⟨v0, v1, v2, v3, v4, v5, rfl⟩ := len_k6 hl
            have e0 := (show v0 = .bool false from hf _ (List.mem_of_getElem? (i := 1) rfl) (by kernel_rfl))
            subst e0
            have e1 := (show v1 = .bool false from hf _ (List.mem_of_getElem? (i := 2) rfl) (by kernel_rfl))
            subst e1
            show Option.isSome _ = true
            kernel_rfl
          · intro vs gq stq hl hf
            obtain ⟨v0, v1, v2, v3, v4, v5, rfl⟩ := len_k6 hl
            have e0 := (show v0 = .bool false from hf _ (List.mem_of_getElem? (i := 1) rfl) (by kernel_rfl))
            subst e0
            have e1 := (show v1 = .bool false from hf _ (List.mem_of_getElem? (i := 2) rfl) (by kernel_rfl))
            subst e1
            show Option.isSome _ = true
            kernel_rfl
          · intro vs gq stq hl hf
            obtain ⟨v0, v1, v2, v3, v4, v5, rfl⟩ := len_k6 hl
            have e0 := (show v0 = .bool false from hf _ (List.mem_of_getElem? (i := 1) rfl) (by kernel_rfl))
            subst e0
            have e1 := (show v1 = .bool false from hf _ (List.mem_of_getElem? (i := 2) rfl) (by kernel_rfl))
            subst e1
            show Option.isSome _ = true
            kernel_rfl
          · intro vs gq stq hl hf
            obtain ⟨v0, v1, v2, v3, v4, v5, rfl⟩ := len_k6 hl
            have e0 := (show v0 = .bool false from hf _ (List.mem_of_getElem? (i := 1) rfl) (by kernel_rfl))
            subst e0
            have e1 := (show v1 = .bool false from hf _ (List.mem_of_getElem? (i := 2) rfl) (by kernel_rfl))
            subst e1
            have e2 := (show v2 = .bool true from hf _ (List.mem_of_getElem? (i := 3) rfl) (by kernel_rfl))
            subst e2
            have e5 := (show v5 = .bool (!((d26.1 == (zA 8).1) && ((x33 == 0) && ((x34 == 0) && (x35 == 0))))) from hf _ (List.mem_of_getElem? (i := 6) rfl) (by kernel_rfl))
            subst e5
            show Option.isSome _ = true
            kernel_rfl
          · intro vs gq stq hl hf
            obtain ⟨v0, v1, v2, v3, v4, v5, rfl⟩ := len_k6 hl
            have e0 := (show v0 = .bool false from hf _ (List.mem_of_getElem? (i := 1) rfl) (by kernel_rfl))
            subst e0
            have e1 := (show v1 = .bool false from hf _ (List.mem_of_getElem? (i := 2) rfl) (by kernel_rfl))
            subst e1
            have e2 := (show v2 = .bool true from hf _ (List.mem_of_getElem? (i := 3) rfl) (by kernel_rfl))
            subst e2
            have e5 := (show v5 = .bool (!((d26.1 == (zA 8).1) && ((x33 == 0) && ((x34 == 0) && (x35 == 0))))) from hf _ (List.mem_of_getElem? (i := 6) rfl) (by kernel_rfl))
            subst e5
            show Option.isSome _ = true
            kernel_rfl
        · intro j hj
          have hq : j = 0 ∨ j = 1 ∨ j = 2 ∨ j = 3 ∨ j = 4 ∨ j = 5 := by have h : j < 6 := hj; omega
          rcases hq with rfl | rfl | rfl | rfl | rfl | rfl
          · intro vs gq stq hl hf
            obtain ⟨v0, v1, v2, v3, v4, v5, rfl⟩ := len_k6 hl
            refine WP.still 1 (by kernel_rfl) ?_
            refine WP.done (by kernel_rfl) (Shown.ok (v := .bool (!(q25 == (decide (x36 ≥ 0))))) (by kernel_rfl) (Step.refl _ _) ?_)
            exact ⟨trivial, congrArg Value.bool h38, trivial, trivial, trivial, trivial, trivial, trivial⟩
          · intro vs gq stq hl hf
            obtain ⟨v0, v1, v2, v3, v4, v5, rfl⟩ := len_k6 hl
            have e0 := (show v0 = .bool false from hf _ (List.mem_of_getElem? (i := 1) rfl) (by kernel_rfl))
            subst e0
            refine WP.still 1 (by kernel_rfl) ?_
            refine WP.done (by kernel_rfl) (Shown.ok (v := .bool q25) (by kernel_rfl) (Step.refl _ _) ?_)
            exact ⟨trivial, trivial, congrArg Value.bool h39, trivial, trivial, trivial, trivial, trivial⟩
          · intro vs gq stq hl hf
            obtain ⟨v0, v1, v2, v3, v4, v5, rfl⟩ := len_k6 hl
            have e0 := (show v0 = .bool false from hf _ (List.mem_of_getElem? (i := 1) rfl) (by kernel_rfl))
            subst e0
            have e1 := (show v1 = .bool false from hf _ (List.mem_of_getElem? (i := 2) rfl) (by kernel_rfl))
            subst e1
            refine WP.still 1 (by kernel_rfl) ?_
            refine WP.done (by kernel_rfl) (Shown.ok (v := .bool (!q25)) (by kernel_rfl) (Step.refl _ _) ?_)
            exact ⟨trivial, trivial, trivial, congrArg Value.bool h42, trivial, trivial, trivial, trivial⟩
          · intro vs gq stq hl hf
            obtain ⟨v0, v1, v2, v3, v4, v5, rfl⟩ := len_k6 hl
            have hB17 := (show Box gq (t + 18) b18 56 [encA .u8 d26, [.int .i64 x33], [.int .i64 x34], [.int .i64 x35]] [8, 1, 1, 1] from hf _ (List.mem_of_getElem? (i := 0) rfl) (by kernel_rfl))
            have e2 := (show v2 = .bool true from hf _ (List.mem_of_getElem? (i := 3) rfl) (by kernel_rfl))
            subst e2
            refine WP.loadB (v := AG [encA .u8 d26, [.int .i64 x33], [.int .i64 x34], [.int .i64 x35]]) hB17 (by kernel_rfl) (by kernel_rfl) ?_
            refine WP.done (by kernel_rfl) (Shown.ok (v := AG [encA .u8 d26, [.int .i64 x33], [.int .i64 x34], [.int .i64 x35]]) (by kernel_rfl) (Step.refl _ _) ?_)
            exact ⟨trivial, trivial, trivial, trivial, rfl, trivial, trivial, trivial⟩
          · intro vs gq stq hl hf
            obtain ⟨v0, v1, v2, v3, v4, v5, rfl⟩ := len_k6 hl
            have e2 := (show v2 = .bool true from hf _ (List.mem_of_getElem? (i := 3) rfl) (by kernel_rfl))
            subst e2
            refine WP.buildS (places := #[(0, 8), (8, 1), (9, 1), (10, 1)]) (t := 56) [encA .u8 (zA 8), [.int .i64 0], [.int .i64 0], [.int .i64 0]] [8, 1, 1, 1] (by kernel_rfl) (by kernel_rfl) (by simp [len_encA]) (by kernel_rfl) (.nil) ?_
            refine WP.done (by kernel_rfl) (Shown.ok (v := AG [encA .u8 (zA 8), [.int .i64 0], [.int .i64 0], [.int .i64 0]]) (by kernel_rfl) (Step.refl _ _) ?_)
            exact ⟨trivial, trivial, trivial, trivial, trivial, rfl, trivial, trivial⟩
          · intro vs gq stq hl hf
            obtain ⟨v0, v1, v2, v3, v4, v5, rfl⟩ := len_k6 hl
            have e2 := (show v2 = .bool true from hf _ (List.mem_of_getElem? (i := 3) rfl) (by kernel_rfl))
            subst e2
            have e3 := (show v3 = AG [encA .u8 d26, [.int .i64 x33], [.int .i64 x34], [.int .i64 x35]] from hf _ (List.mem_of_getElem? (i := 4) rfl) (by kernel_rfl))
            subst e3
            have e4 := (show v4 = AG [encA .u8 (zA 8), [.int .i64 0], [.int .i64 0], [.int .i64 0]] from hf _ (List.mem_of_getElem? (i := 5) rfl) (by kernel_rfl))
            subst e4
            refine WP.neV (by kernel_rfl) (by kernel_rfl) (EqV.struct (d := 9999) (t := 56) (xs := [encA .u8 d26, [.int .i64 x33], [.int .i64 x34], [.int .i64 x35]]) (ys := [encA .u8 (zA 8), [.int .i64 0], [.int .i64 0], [.int .i64 0]]) (by kernel_rfl) (by kernel_rfl) (EqFi.cons (ns := [8, 1, 1, 1]) (ms := [8, 1, 1, 1]) (t' := 29) (x := AG [encA .u8 d26]) (y := AG [encA .u8 (zA 8)]) (by simp [len_encA]) (by simp [len_encA]) (by kernel_rfl) (by kernel_rfl) (EqV.arr (d := 9997) (t := 29) (e := 5) (m := 8) (k := .u8) (x := d26) (y := (zA 8)) (by kernel_rfl) (by kernel_rfl)) (EqFi.cons (ns := [8, 1, 1, 1]) (ms := [8, 1, 1, 1]) (t' := 3) (x := .int .i64 x33) (y := .int .i64 0) (by simp [len_encA]) (by simp [len_encA]) (by kernel_rfl) (by kernel_rfl) (EqV.int (d := 9998) (k' := .i64) (by kernel_rfl)) (EqFi.cons (ns := [8, 1, 1, 1]) (ms := [8, 1, 1, 1]) (t' := 3) (x := .int .i64 x34) (y := .int .i64 0) (by simp [len_encA]) (by simp [len_encA]) (by kernel_rfl) (by kernel_rfl) (EqV.int (d := 9998) (k' := .i64) (by kernel_rfl)) (EqFi.one (ns := [8, 1, 1, 1]) (ms := [8, 1, 1, 1]) (t' := 3) (x := .int .i64 x35) (y := .int .i64 0) (by simp [len_encA]) (by simp [len_encA]) (by kernel_rfl) (by kernel_rfl) (EqV.int (d := 9998) (k' := .i64) (by kernel_rfl)) (Nat.le_of_ble_eq_true rfl)))))) ?_
            refine WP.done (by kernel_rfl) (Shown.ok (v := .bool (!((d26.1 == (zA 8).1) && ((x33 == 0) && ((x34 == 0) && (x35 == 0)))))) (by kernel_rfl) (Step.refl _ _) ?_)
            exact ⟨trivial, trivial, trivial, trivial, trivial, trivial, rfl, trivial⟩
        intro vs g72 st72 hl hf
        obtain ⟨v0, v1, v2, v3, v4, v5, rfl⟩ := len_k6 hl
        have e0 := (show v0 = .bool false from hf _ (List.mem_of_getElem? (i := 1) rfl) (by kernel_rfl))
        subst e0
        have e1 := (show v1 = .bool false from hf _ (List.mem_of_getElem? (i := 2) rfl) (by kernel_rfl))
        subst e1
        have e2 := (show v2 = .bool true from hf _ (List.mem_of_getElem? (i := 3) rfl) (by kernel_rfl))
        subst e2
        have e3 := (show v3 = AG [encA .u8 d26, [.int .i64 x33], [.int .i64 x34], [.int .i64 x35]] from hf _ (List.mem_of_getElem? (i := 4) rfl) (by kernel_rfl))
        subst e3
        have e4 := (show v4 = AG [encA .u8 (zA 8), [.int .i64 0], [.int .i64 0], [.int .i64 0]] from hf _ (List.mem_of_getElem? (i := 5) rfl) (by kernel_rfl))
        subst e4
        have e5 := (show v5 = .bool (!((d26.1 == (zA 8).1) && ((x33 == 0) && ((x34 == 0) && (x35 == 0))))) from hf _ (List.mem_of_getElem? (i := 6) rfl) (by kernel_rfl))
        subst e5
        replace hB1 := hB1.mono st72.toNo (fun x => x)
        replace hR1 := hR1.mono st72.toNo (fun x => x)
        replace hB2 := hB2.mono st72.toNo (fun x => x)
        replace hR2 := hR2.mono st72.toNo (fun x => x)
        replace hB3 := hB3.mono st72.toNo (fun x => x)
        replace hR8 := hR8.mono st72.toNo (fun x => x)
        replace tot := tot.trans st72.toNo.pure
        refine NX.post ?_
        exact ⟨(!((d26.1 == (zA 8).1) && ((x33 == 0) && ((x34 == 0) && (x35 == 0))))), ⟨by kernel_rfl, by kernel_rfl⟩, tot, hB1, hR1, hB2, hR2, hB3, hR8, hs⟩
      replace hs := of_if_f hs h42
      refine CP.drawL (by kernel_rfl) [4, 6, 20] N.baizelaw47_PurseChecks_2 [⟨some 0, [], [0], fun l g => l.getD 0 undef = .bool false⟩, ⟨some 1, [], [1], fun l g => l.getD 0 undef = .bool false⟩, ⟨some 2, [], [2], fun l g => l.getD 0 undef = .bool false⟩] [[], [], []] [] [0, 1, 2, 3] [5, 7, 8, 9, 10, 11, 12, 13, 14, 15, 16, 17, 18, 19, 21, 22, 23, 24, 25] (by kernel_rfl) (by simp) (by simp) ⟨fun _ _ _ _ st h0 hl hj e0 => e0, fun _ _ _ _ st h0 hl hj e1 => e1, fun _ _ _ _ st h0 hl hj e2 => e2, trivial⟩ ⟨trivial, trivial, trivial, trivial⟩ (by kernel_rfl) (fun vs => by kernel_rfl) ?_ ?_ ?_
      · intro j hj
        have hq : j = 0 ∨ j = 1 ∨ j = 2 ∨ j = 3 ∨ j = 4 ∨ j = 5 ∨ j = 6 ∨ j = 7 ∨ j = 8 ∨ j = 9 ∨ j = 10 ∨ j = 11 ∨ j = 12 ∨ j = 13 ∨ j = 14 ∨ j = 15 ∨ j = 16 ∨ j = 17 ∨ j = 18 := by have h : j < 19 := hj; omega
        rcases hq with rfl | rfl | rfl | rfl | rfl | rfl | rfl | rfl | rfl | rfl | rfl | rfl | rfl | rfl | rfl | rfl | rfl | rfl | rfl
        · intro vs gq stq hl hf
          obtain ⟨v0, v1, v2, rfl⟩ := len_k3 hl
          have e0 := (show v0 = .bool false from hf _ (List.mem_of_getElem? (i := 0) rfl) (by kernel_rfl))
          subst e0
          show Option.isSome _ = true
          kernel_rfl
        · intro vs gq stq hl hf
          obtain ⟨v0, v1, v2, rfl⟩ := len_k3 hl
          have e1 := (show v1 = .bool false from hf _ (List.mem_of_getElem? (i := 1) rfl) (by kernel_rfl))
          subst e1
          show Option.isSome _ = true
          kernel_rfl
        · intro vs gq stq hl hf
          obtain ⟨v0, v1, v2, rfl⟩ := len_k3 hl
          have e1 := (show v1 = .bool false from hf _ (List.mem_of_getElem? (i := 1) rfl) (by kernel_rfl))
          subst e1
          show Option.isSome _ = true
          kernel_rfl
        · intro vs gq stq hl hf
          obtain ⟨v0, v1, v2, rfl⟩ := len_k3 hl
          have e1 := (show v1 = .bool false from hf _ (List.mem_of_getElem? (i := 1) rfl) (by kernel_rfl))
          subst e1
          show Option.isSome _ = true
          kernel_rfl
        · intro vs gq stq hl hf
          obtain ⟨v0, v1, v2, rfl⟩ := len_k3 hl
          have e1 := (show v1 = .bool false from hf _ (List.mem_of_getElem? (i := 1) rfl) (by kernel_rfl))
          subst e1
          show Option.isSome _ = true
          kernel_rfl
        · intro vs gq stq hl hf
          obtain ⟨v0, v1, v2, rfl⟩ := len_k3 hl
          have e1 := (show v1 = .bool false from hf _ (List.mem_of_getElem? (i := 1) rfl) (by kernel_rfl))
          subst e1
          show Option.isSome _ = true
          kernel_rfl
        · intro vs gq stq hl hf
          obtain ⟨v0, v1, v2, rfl⟩ := len_k3 hl
          have e1 := (show v1 = .bool false from hf _ (List.mem_of_getElem? (i := 1) rfl) (by kernel_rfl))
          subst e1
          show Option.isSome _ = true
          kernel_rfl
        · intro vs gq stq hl hf
          obtain ⟨v0, v1, v2, rfl⟩ := len_k3 hl
          have e1 := (show v1 = .bool false from hf _ (List.mem_of_getElem? (i := 1) rfl) (by kernel_rfl))
          subst e1
          show Option.isSome _ = true
          kernel_rfl
        · intro vs gq stq hl hf
          obtain ⟨v0, v1, v2, rfl⟩ := len_k3 hl
          have e1 := (show v1 = .bool false from hf _ (List.mem_of_getElem? (i := 1) rfl) (by kernel_rfl))
          subst e1
          show Option.isSome _ = true
          kernel_rfl
        · intro vs gq stq hl hf
          obtain ⟨v0, v1, v2, rfl⟩ := len_k3 hl
          have e0 := (show v0 = .bool false from hf _ (List.mem_of_getElem? (i := 0) rfl) (by kernel_rfl))
          subst e0
          have e1 := (show v1 = .bool false from hf _ (List.mem_of_getElem? (i := 1) rfl) (by kernel_rfl))
          subst e1
          show Option.isSome _ = true
          kernel_rfl
        · intro vs gq stq hl hf
          obtain ⟨v0, v1, v2, rfl⟩ := len_k3 hl
          have e0 := (show v0 = .bool false from hf _ (List.mem_of_getElem? (i := 0) rfl) (by kernel_rfl))
          subst e0
          have e1 := (show v1 = .bool false from hf _ (List.mem_of_getElem? (i := 1) rfl) (by kernel_rfl))
          subst e1
          show Option.isSome _ = true
          kernel_rfl
        · intro vs gq stq hl hf
          obtain ⟨v0, v1, v2, rfl⟩ := len_k3 hl
          have e0 := (show v0 = .bool false from hf _ (List.mem_of_getElem? (i := 0) rfl) (by kernel_rfl))
          subst e0
          have e1 := (show v1 = .bool false from hf _ (List.mem_of_getElem? (i := 1) rfl) (by kernel_rfl))
          subst e1
          show Option.isSome _ = true
          kernel_rfl
        · intro vs gq stq hl hf
          obtain ⟨v0, v1, v2, rfl⟩ := len_k3 hl
          have e0 := (show v0 = .bool false from hf _ (List.mem_of_getElem? (i := 0) rfl) (by kernel_rfl))
          subst e0
          have e1 := (show v1 = .bool false from hf _ (List.mem_of_getElem? (i := 1) rfl) (by kernel_rfl))
          subst e1
          show Option.isSome _ = true
          kernel_rfl
        · intro vs gq stq hl hf
          obtain ⟨v0, v1, v2, rfl⟩ := len_k3 hl
          have e0 := (show v0 = .bool false from hf _ (List.mem_of_getElem? (i := 0) rfl) (by kernel_rfl))
          subst e0
          have e1 := (show v1 = .bool false from hf _ (List.mem_of_getElem? (i := 1) rfl) (by kernel_rfl))
          subst e1
          show Option.isSome _ = true
          kernel_rfl
        · intro vs gq stq hl hf
          obtain ⟨v0, v1, v2, rfl⟩ := len_k3 hl
          have e2 := (show v2 = .bool false from hf _ (List.mem_of_getElem? (i := 2) rfl) (by kernel_rfl))
          subst e2
          show Option.isSome _ = true
          kernel_rfl
        · intro vs gq stq hl hf
          obtain ⟨v0, v1, v2, rfl⟩ := len_k3 hl
          have e2 := (show v2 = .bool false from hf _ (List.mem_of_getElem? (i := 2) rfl) (by kernel_rfl))
          subst e2
          show Option.isSome _ = true
          kernel_rfl
        · intro vs gq stq hl hf
          obtain ⟨v0, v1, v2, rfl⟩ := len_k3 hl
          have e2 := (show v2 = .bool false from hf _ (List.mem_of_getElem? (i := 2) rfl) (by kernel_rfl))
          subst e2
          show Option.isSome _ = true
          kernel_rfl
        · intro vs gq stq hl hf
          obtain ⟨v0, v1, v2, rfl⟩ := len_k3 hl
          have e0 := (show v0 = .bool false from hf _ (List.mem_of_getElem? (i := 0) rfl) (by kernel_rfl))
          subst e0
          have e1 := (show v1 = .bool false from hf _ (List.mem_of_getElem? (i := 1) rfl) (by kernel_rfl))
          subst e1
          have e2 := (show v2 = .bool false from hf _ (List.mem_of_getElem? (i := 2) rfl) (by kernel_rfl))
          subst e2
          show Option.isSome _ = true
          kernel_rfl
        · intro vs gq stq hl hf
          obtain ⟨v0, v1, v2, rfl⟩ := len_k3 hl
          have e0 := (show v0 = .bool false from hf _ (List.mem_of_getElem? (i := 0) rfl) (by kernel_rfl))
          subst e0
          have e1 := (show v1 = .bool false from hf _ (List.mem_of_getElem? (i := 1) rfl) (by kernel_rfl))
          subst e1
          have e2 := (show v2 = .bool false from hf _ (List.mem_of_getElem? (i := 2) rfl) (by kernel_rfl))
          subst e2
          show Option.isSome _ = true
          kernel_rfl
      · intro j hj
        have hq : j = 0 ∨ j = 1 ∨ j = 2 := by have h : j < 3 := hj; omega
        rcases hq with rfl | rfl | rfl
        · intro vs gq stq hl hf
          obtain ⟨v0, v1, v2, rfl⟩ := len_k3 hl
          refine WP.still 1 (by kernel_rfl) ?_
          refine WP.done (by kernel_rfl) (Shown.ok (v := .bool (!(q25 == (decide (x36 ≥ 0))))) (by kernel_rfl) (Step.refl _ _) ?_)
          exact ⟨congrArg Value.bool h38, trivial, trivial, trivial⟩
        · intro vs gq stq hl hf
          obtain ⟨v0, v1, v2, rfl⟩ := len_k3 hl
          have e0 := (show v0 = .bool false from hf _ (List.mem_of_getElem? (i := 0) rfl) (by kernel_rfl))
          subst e0
          refine WP.still 1 (by kernel_rfl) ?_
          refine WP.done (by kernel_rfl) (Shown.ok (v := .bool q25) (by kernel_rfl) (Step.refl _ _) ?_)
          exact ⟨trivial, congrArg Value.bool h39, trivial, trivial⟩
        · intro vs gq stq hl hf
          obtain ⟨v0, v1, v2, rfl⟩ := len_k3 hl
          have e0 := (show v0 = .bool false from hf _ (List.mem_of_getElem? (i := 0) rfl) (by kernel_rfl))
          subst e0
          have e1 := (show v1 = .bool false from hf _ (List.mem_of_getElem? (i := 1) rfl) (by kernel_rfl))
          subst e1
          refine WP.still 1 (by kernel_rfl) ?_
          refine WP.done (by kernel_rfl) (Shown.ok (v := .bool (!q25)) (by kernel_rfl) (Step.refl _ _) ?_)
          exact ⟨trivial, trivial, congrArg Value.bool h42, trivial⟩
      intro vs g73 st73 hl hf
      obtain ⟨v0, v1, v2, rfl⟩ := len_k3 hl
      have e0 := (show v0 = .bool false from hf _ (List.mem_of_getElem? (i := 0) rfl) (by kernel_rfl))
      subst e0
      have e1 := (show v1 = .bool false from hf _ (List.mem_of_getElem? (i := 1) rfl) (by kernel_rfl))
      subst e1
      have e2 := (show v2 = .bool false from hf _ (List.mem_of_getElem? (i := 2) rfl) (by kernel_rfl))
      subst e2
      replace hB1 := hB1.mono st73.toNo (fun x => x)
      replace hR1 := hR1.mono st73.toNo (fun x => x)
      replace hB2 := hB2.mono st73.toNo (fun x => x)
      replace hR2 := hR2.mono st73.toNo (fun x => x)
      replace hB3 := hB3.mono st73.toNo (fun x => x)
      replace hR8 := hR8.mono st73.toNo (fun x => x)
      replace tot := tot.trans st73.toNo.pure
      refine NX.post ?_
      exact ⟨false, ⟨by kernel_rfl, by kernel_rfl⟩, tot, hB1, hR1, hB2, hR2, hB3, hR8, hs⟩
    clear tot hs hB1 hR1 hB2 hR2 hB3 hR8 hB17
    rintro tm g ⟨q26, hF, tot, hB1, hR1, hB2, hR2, hB3, hR8, hs⟩
    clear ds
    obtain ⟨ds, rfl⟩ := hF.open
    clear hF
    unfold F.baizelaw47_PurseChecks.c3 at hs
    refine CP.cond (b := q26) (by kernel_rfl) (fun h37 => ?_) (fun h37 => ?_)
    · replace hs := of_if_t hs h37
      refine CP.seqR ?_
      refine WP.still 1 (by kernel_rfl) ?_
      refine WP.done (by kernel_rfl) ?_
      refine NX.then_n ?_
      refine CP.ret ?_
      refine NX.block_r ?_
      refine NX.then_r ?_
      refine NX.then_r ?_
      refine NX.block_r ?_
      refine NX.then_r ?_
      replace hs := Option.some.inj hs
      obtain rfl := hs
      exact NX.fin (v := .bool false) (Res.still (by kernel_rfl)) tot htL rfl
    replace hs := of_if_f hs h37
    refine CP.skip ?_
    refine NX.block_n ?_
    refine NX.then_n ?_
    refine CP.region ?_
    refine WP.still 3 (by kernel_rfl) ?_
    refine WP.done (by kernel_rfl) ?_
    refine NX.post ?_
    exact ⟨l8, a8, n8, c8, (IntKind.i64.wrap (x22 + 1)), ⟨by kernel_rfl, by kernel_rfl⟩, tot, hB1, hR1, hB2, hR2, hB3, hR8, hs⟩
  replace hs := of_if_f hs h31
  refine CP.exit ?_
  refine NX.then_e ?_
  refine NX.then_e ?_
  refine NX.block_s ?_
  refine NX.then_n ?_
  refine CP.seqR ?_
  refine WP.still 1 (by kernel_rfl) ?_
  refine WP.loadB (v := AG [encA .u8 d5]) hB3 (by kernel_rfl) (by kernel_rfl) ?_
  refine WP.still 2 (by kernel_rfl) ?_
  refine WP.loadE (ty := 3) (o := 9) (m := 2) (k := .i64) (d := d2) (i := 0) hB1 (by kernel_rfl) (by decide) (by kernel_rfl) (by kernel_rfl) ?_
  refine WP.still 2 (by kernel_rfl) ?_
  refine WP.loadE (ty := 3) (o := 9) (m := 2) (k := .i64) (d := d2) (i := 1) hB1 (by kernel_rfl) (by decide) (by kernel_rfl) (by kernel_rfl) ?_
  replace hs := Option.bind_eq_some_iff.1 hs
  obtain ⟨⟨d31, x39, d32, l15, x40⟩, hk39, hs⟩ := hs
  dsimp only at hs
  have hcal39 := P.purse_New g (t + 21) d5 (aget d2 0) (aget d2 1) d31 x39 d32 l15 x40 hk39
  refine WP.callC hcal39 (by kernel_rfl) ?_
  rintro _ g74 st74 ⟨a15, n15, c15, rfl, hR15⟩
  replace hB1 := hB1.mono st74 (fun x => x)
  replace hR1 := hR1.mono st74 (fun x => x)
  replace hB3 := hB3.mono st74 (fun x => x)
  replace hR8 := hR8.mono st74 (fun x => x)
  replace tot := tot.trans st74.pure
  refine WP.still 3 (by kernel_rfl) ?_
  refine WP.alloc (T := 32) (t + 22) [encA .u8 (zA 8), [.int .i64 0], encA .i64 (zA 2), [.slice none 0 0]] [8, 1, 2, 1] (by kernel_rfl) (by simp [len_encA]) ?_
  intro g75 b22 st75 hB19
  replace hB1 := hB1.mono st75 (fun x => x)
  replace hR1 := hR1.mono st75 (fun x => x)
  replace hB3 := hB3.mono st75 (fun x => x)
  replace hR8 := hR8.mono st75 (fun x => x)
  replace hR15 := hR15.mono st75 (fun x => x) (fun x => x)
  replace tot := tot.trans st75.pure
  refine WP.storeB (ty := 32) (off := 0) (v := AG [encA .u8 d31, [.int .i64 x39], encA .i64 d32, [.slice a15 n15 c15]]) hB19 [encA .u8 d31, [.int .i64 x39], encA .i64 d32, [.slice a15 n15 c15]] [8, 1, 2, 1] (by kernel_rfl) (by kernel_rfl) (by simp [len_encA]) (by kernel_rfl) [encA .u8 d31, [.int .i64 x39], encA .i64 d32, [.slice a15 n15 c15]] (by kernel_rfl) (.arr (.one rfl (.arr (.one rfl .nil)))) ?_
  intro g76 st76 hB20
  replace hB1 := hB1.mono st76 (WL.no1 (by omega))
  replace hR1 := hR1.mono st76 (WL.no1 (by omega))
  replace hB3 := hB3.mono st76 (WL.no1 (by omega))
  replace hR8 := hR8.mono st76 (WL.no1 (by omega))
  replace hR15 := hR15.mono st76 (WL.no1 (by omega)) (WL.no1 (by omega))
  replace tot := tot.trans (st76.up1 (.inr (by omega)))
  clear hB19
  have hB19 := hB20
  clear hB20
  refine WP.still 1 (by kernel_rfl) ?_
  refine WP.done (by kernel_rfl) ?_
  refine NX.then_n ?_
  refine CP.refr 148 [(3, .pointer (some ⟨b1, 0, none⟩)), (12, .pointer (some ⟨b22, 0, none⟩)), (13, .int .i64 x40)] (by kernel_rfl) (by kernel_rfl) ?_
  clear ds
  intro ds
  refine CP.seqR ?_
  refine WP.still 1 (by kernel_rfl) ?_
  refine WP.loadB (v := AG [encA .u8 d1]) hB1 (by kernel_rfl) (by kernel_rfl) ?_
  refine WP.still 1 (by kernel_rfl) ?_
  refine WP.loadB (v := AG [encA .i64 d2]) hB1 (by kernel_rfl) (by kernel_rfl) ?_
  refine WP.buildS (places := #[(0, 8), (8, 1), (9, 2), (11, 1)]) (t := 26) [encA .u8 (zA 8), [.int .i64 0], encA .i64 (zA 2), [.slice none 0 0]] [8, 1, 2, 1] (by kernel_rfl) (by kernel_rfl) (by simp [len_encA]) (by kernel_rfl) ((.cons (i := 0) (off := 0) (v := AG [encA .u8 d1]) (mid := [encA .u8 d1, [.int .i64 0], encA .i64 (zA 2), [.slice none 0 0]]) [encA .u8 d1] [8] (by kernel_rfl) (by kernel_rfl) (by simp [len_encA]) (by kernel_rfl) (.cons (i := 2) (off := 9) (v := AG [encA .i64 d2]) (mid := [encA .u8 d1, [.int .i64 0], encA .i64 d2, [.slice none 0 0]]) [encA .i64 d2] [2] (by kernel_rfl) (by kernel_rfl) (by simp [len_encA]) (by kernel_rfl) .nil))) ?_
  refine WP.alloc (T := 26) (t + 23) [encA .u8 (zA 8), [.int .i64 0], encA .i64 (zA 2), [.slice none 0 0]] [8, 1, 2, 1] (by kernel_rfl) (by simp [len_encA]) ?_
  intro g77 b23 st77 hB21
  replace hB1 := hB1.mono st77 (fun x => x)
  replace hR1 := hR1.mono st77 (fun x => x)
  replace hB19 := hB19.mono st77 (fun x => x)
  replace hR15 := hR15.mono st77 (fun x => x) (fun x => x)
  replace tot := tot.trans st77.pure
  refine WP.storeB (ty := 26) (off := 0) (v := AG [encA .u8 d1, [.int .i64 0], encA .i64 d2, [.slice none 0 0]]) hB21 [encA .u8 d1, [.int .i64 0], encA .i64 d2, [.slice none 0 0]] [8, 1, 2, 1] (by kernel_rfl) (by kernel_rfl) (by simp [len_encA]) (by kernel_rfl) [encA .u8 d1, [.int .i64 0], encA .i64 d2, [.slice none 0 0]] (by kernel_rfl) (.arr (.one rfl (.arr (.one rfl .nil)))) ?_
  intro g78 st78 hB22
  replace hB1 := hB1.mono st78 (WL.no1 (by omega))
  replace hR1 := hR1.mono st78 (WL.no1 (by omega))
  replace hB19 := hB19.mono st78 (WL.no1 (by omega))
  replace hR15 := hR15.mono st78 (WL.no1 (by omega)) (WL.no1 (by omega))
  replace tot := tot.trans (st78.up1 (.inr (by omega)))
  clear hB21
  have hB21 := hB22
  clear hB22
  refine WP.done (by kernel_rfl) ?_
  refine NX.then_n ?_
  refine CP.seq ?_
  refine CP.seqR ?_
  refine WP.loadB (v := AG [encA .u8 d1, [.int .i64 0], encA .i64 d2, [.slice none 0 0]]) hB21 (by kernel_rfl) (by kernel_rfl) ?_
  replace hs := Option.bind_eq_some_iff.1 hs
  obtain ⟨x41, hk40, hs⟩ := hs
  have hcal40 := P.baizeref47_Check g78 d1 0 d2 ([]) none 0 0 (RdS.nil _ _ _) x41 hk40
  refine WP.callC hcal40 (by kernel_rfl) ?_
  rintro _ g79 st79 rfl
  replace hB19 := hB19.mono st79 (fun x => x)
  replace hR15 := hR15.mono st79 (fun x => x) (fun x => x)
  replace hB21 := hB21.mono st79 (fun x => x)
  replace tot := tot.trans st79.pure
  refine WP.still 1 (by kernel_rfl) ?_
  refine WP.done (by kernel_rfl) ?_
  refine NX.then_n ?_
  refine CP.cond (b := (x41 != 0)) (by kernel_rfl) (fun h43 => ?_) (fun h43 => ?_)
  · replace hs := of_if_t hs h43
    refine CP.cut (fun tm g => ∃ (q29 : Bool), Fr 148 [(6, .bool q29)] tm ∧ Step (fun l => NoM l ∨ t ≤ l) g0 g ∧ (F.baizelaw47_PurseChecks.c4 q29) = some o1) ?_ ?_
    · refine CP.region ?_
      refine WP.still 3 (by kernel_rfl) ?_
      refine WP.guard 129 (b := (x40 == 2)) (by kernel_rfl) (fun h46 => ?_) (fun h46 => ?_)
      · replace hs := of_if_t hs h46
        refine WP.loadB (v := AG [encA .u8 d31, [.int .i64 x39], encA .i64 d32, [.slice a15 n15 c15]]) hB19 (by kernel_rfl) (by kernel_rfl) ?_
        refine WP.buildS (places := #[(0, 8), (8, 1), (9, 2), (11, 1)]) (t := 32) [encA .u8 (zA 8), [.int .i64 0], encA .i64 (zA 2), [.slice none 0 0]] [8, 1, 2, 1] (by kernel_rfl) (by kernel_rfl) (by simp [len_encA]) (by kernel_rfl) (.nil) ?_
        replace hs := Option.bind_eq_some_iff.1 hs
        obtain ⟨q30, hk43, hs⟩ := hs
        have hS10 : 0 ∉ ([(t + 21)] : List Nat) := by simp <;> omega
        have stl10 := GW.lend_step g79 [(t + 21)]
        have hRl13 := hR15.lendTo hS10 (by simp)
        refine WP.regw (g' := GW.lend g79 [(t + 21)]) rfl ?_
        have hcal43 := P.purse_Same (GW.lend g79 [(t + 21)]) d31 x39 d32 l15 (zA 8) 0 (zA 2) ([]) a15 n15 c15 none 0 0 hRl13 (RdS.nil _ _ _) q30 hk43
        refine WP.callC hcal43 (by kernel_rfl) ?_
        rintro _ g83 st83 rfl
        have st84 := (GW.back_step st83).lentS
        have hO13 := hR15.backTo hS10 (by simp) st83 (fun x => x)
        refine WP.regw (g' := GW.back g79 g83 [(t + 21)]) rfl ?_
        generalize GW.back g79 g83 [(t + 21)] = g84 at *
        replace hB19 := hB19.mono st84 (WL.no1 (by omega))
        replace hB21 := hB21.mono st84 (WL.no1 (by omega))
        replace tot := tot.trans (st84.up1 (.inr (by omega)))
        clear hR15
        have hR15 : OwnS k_S_purse_Held g84 (t + 21) 56 a15 n15 c15 l15 := hO13
        clear hO13
        refine WP.still 2 (by kernel_rfl) ?_
        refine WP.guard 134 (b := q30) (by kernel_rfl) (fun h47 => ?_) (fun h47 => ?_)
        · replace hs := of_if_t hs h47
          replace hs := Option.bind_eq_some_iff.1 hs
          obtain ⟨q31, hk44, hs⟩ := hs
          have hcal44 := P.baizelaw47_told g84 q31 hk44
          refine WP.callC hcal44 (by kernel_rfl) ?_
          rintro _ g85 st85 rfl
          replace hB19 := hB19.mono st85 (fun x => x)
          replace hR15 := hR15.mono st85 (fun x => x) (fun x => x)
          replace hB21 := hB21.mono st85 (fun x => x)
          replace tot := tot.trans st85.pure
          refine WP.still 2 (by kernel_rfl) ?_
          refine WP.done (by kernel_rfl) ?_
          refine NX.post ?_
          exact ⟨q31, ⟨by kernel_rfl, by kernel_rfl⟩, tot, hs⟩
        replace hs := of_if_f hs h47
        refine WP.still 3 (by kernel_rfl) ?_
        refine WP.done (by kernel_rfl) ?_
        refine NX.post ?_
        exact ⟨false, ⟨by kernel_rfl, by kernel_rfl⟩, tot, hs⟩
      replace hs := of_if_f hs h46
      refine WP.still 8 (by kernel_rfl) ?_
      refine WP.done (by kernel_rfl) ?_
      refine NX.post ?_
      exact ⟨false, ⟨by kernel_rfl, by kernel_rfl⟩, tot, hs⟩
    clear tot hs hB19 hR15 hB21
    rintro tm g ⟨q29, hF, tot, hs⟩
    clear ds
    obtain ⟨ds, rfl⟩ := hF.open
    clear hF
    unfold F.baizelaw47_PurseChecks.c4 at hs
    refine CP.ret ?_
    refine NX.then_r ?_
    replace hs := Option.some.inj hs
    obtain rfl := hs
    exact NX.fin (v := .bool q29) (Res.still (by kernel_rfl)) tot htL rfl
  replace hs := of_if_f hs h43
  refine CP.skip ?_
  refine NX.then_n ?_
  refine CP.cut (fun tm g => ∃ (q34 : Bool), Fr 148 [(6, .bool q34)] tm ∧ Step (fun l => NoM l ∨ t ≤ l) g0 g ∧ (F.baizelaw47_PurseChecks.c5 q34) = some o1) ?_ ?_
  · refine bool_split (b := (x40 == 0)) (fun h50 => ?_) (fun h50 => ?_)
    · replace hs := of_if_t hs h50
      replace hs := Option.bind_eq_some_iff.1 hs
      obtain ⟨⟨d35, x43, d36, l17⟩, hk48, hs⟩ := hs
      dsimp only at hs
      replace hs := Option.bind_eq_some_iff.1 hs
      obtain ⟨q35, hk49, hs⟩ := hs
      refine bool_split (b := q35) (fun h51 => ?_) (fun h51 => ?_)
      · replace hs := of_if_t hs h51
        replace hs := Option.bind_eq_some_iff.1 hs
        obtain ⟨q36, hk50, hs⟩ := hs
        refine CP.drawL (by kernel_rfl) [2, 3, 4, 5, 6, 8, 9] N.baizelaw47_PurseChecks_3 [⟨none, [], [], fun l g => Box g (t + 22) b22 32 [encA .u8 d31, [.int .i64 x39], encA .i64 d32, [.slice a15 n15 c15]] [8, 1, 2, 1]⟩, ⟨none, [0], [], fun l g => OwnS k_S_purse_Held g (t + 21) 56 a15 n15 c15 l15⟩, ⟨none, [], [], fun l g => Box g (t + 23) b23 26 [encA .u8 d1, [.int .i64 0], encA .i64 d2, [.slice none 0 0]] [8, 1, 2, 1]⟩, ⟨some 0, [], [0], fun l g => l.getD 0 undef = .bool true⟩, ⟨some 1, [], [1], fun l g => l.getD 0 undef = AG [encA .u8 d31, [.int .i64 x39], encA .i64 d32, [.slice a15 n15 c15]]⟩, ⟨some 2, [], [2], fun l g => l.getD 0 undef = AG [encA .u8 d1, [.int .i64 0], encA .i64 d2, [.slice none 0 0]]⟩, ⟨some 3, [1], [3], fun l g => ∃ (a17 : Option Addr) (c17 : Nat), l.getD 0 undef = AG [encA .u8 d35, [.int .i64 x43], encA .i64 d36, [.slice a17 l17.length c17]] ∧ OwnS k_S_purse_Held g (t + 25) 56 a17 l17.length c17 l17⟩, ⟨some 4, [], [4], fun l g => l.getD 0 undef = .bool q35⟩, ⟨some 4, [0], [], fun l g => OwnS k_S_purse_Held g (t + 21) 56 a15 n15 c15 l15⟩, ⟨some 4, [1], [3], fun l g => ∃ (a17 : Option Addr) (c17 : Nat), l.getD 0 undef = AG [encA .u8 d35, [.int .i64 x43], encA .i64 d36, [.slice a17 l17.length c17]] ∧ OwnS k_S_purse_Held g (t + 25) 56 a17 l17.length c17 l17⟩, ⟨some 5, [], [5], fun l g => l.getD 0 undef = .bool true⟩, ⟨some 6, [], [6], fun l g => l.getD 0 undef = .bool q36⟩] [[], [], [], [], [0, 1], [], []] [(t + 21), (t + 25)] [0, 1] [7, 10, 11] (by kernel_rfl) (by simp <;> omega) (by simp <;> omega) ⟨fun _ _ _ _ st h0 hl hj hB19 => (hB19.mono st (fun h => absurd (hl _ h) (by simp <;> omega))), fun _ _ _ _ st h0 hl hj hR15 => (hR15.mono st h0 (hj 0 (by simp) _ rfl)), fun _ _ _ _ st h0 hl hj hB21 => (hB21.mono st (fun h => absurd (hl _ h) (by simp <;> omega))), fun _ _ _ _ st h0 hl hj e0 => e0, fun _ _ _ _ st h0 hl hj e1 => e1, fun _ _ _ _ st h0 hl hj e2 => e2, fun _ _ _ _ st h0 hl hj ⟨a17, c17, e3, hR17⟩ => ⟨a17, c17, e3, (hR17.mono st h0 (hj 1 (by simp) _ rfl))⟩, fun _ _ _ _ st h0 hl hj e4 => e4, fun _ _ _ _ st h0 hl hj hR15 => (hR15.mono st h0 (hj 0 (by simp) _ rfl)), fun _ _ _ _ st h0 hl hj ⟨a17, c17, e3, hR17⟩ => ⟨a17, c17, e3, (hR17.mono st h0 (hj 1 (by simp) _ rfl))⟩, fun _ _ _ _ st h0 hl hj e5 => e5, fun _ _ _ _ st h0 hl hj e6 => e6, trivial⟩ ⟨hB19, hR15, hB21, trivial, trivial, trivial, trivial, trivial, trivial, trivial, trivial, trivial, trivial⟩ (by kernel_rfl) (fun vs => by kernel_rfl) ?_ ?_ ?_
        · intro j hj
          have hq : j = 0 ∨ j = 1 ∨ j = 2 := by have h : j < 3 := hj; omega
          rcases hq with rfl | rfl | rfl
          · intro vs gq stq hl hf
            obtain ⟨v0, v1, v2, v3, v4, v5, v6, rfl⟩ := len_k7 hl
            have e0 := (show v0 = .bool true from hf _ (List.mem_of_getElem? (i := 3) rfl) (by kernel_rfl))
            subst e0
            have e4 := (show v4 = .bool q35 from hf _ (List.mem_of_getElem? (i := 7) rfl) (by kernel_rfl))
            subst e4
            show Option.isSome _ = true
            kernel_rfl
          · intro vs gq stq hl hf
            obtain ⟨v0, v1, v2, v3, v4, v5, v6, rfl⟩ := len_k7 hl
            have e5 := (show v5 = .bool true from hf _ (List.mem_of_getElem? (i := 10) rfl) (by kernel_rfl))
            subst e5
            have e6 := (show v6 = .bool q36 from hf _ (List.mem_of_getElem? (i := 11) rfl) (by kernel_rfl))
            subst e6
            show Option.isSome _ = true
            kernel_rfl
          · intro vs gq stq hl hf
            obtain ⟨v0, v1, v2, v3, v4, v5, v6, rfl⟩ := len_k7 hl
            have e5 := (show v5 = .bool true from hf _ (List.mem_of_getElem? (i := 10) rfl) (by kernel_rfl))
            subst e5
            have e6 := (show v6 = .bool q36 from hf _ (List.mem_of_getElem? (i := 11) rfl) (by kernel_rfl))
            subst e6
            show Option.isSome _ = true
            kernel_rfl
        · intro j hj
          have hq : j = 0 ∨ j = 1 ∨ j = 2 ∨ j = 3 ∨ j = 4 ∨ j = 5 ∨ j = 6 := by have h : j < 7 := hj; omega
          rcases hq with rfl | rfl | rfl | rfl | rfl | rfl | rfl
          · intro vs gq stq hl hf
            obtain ⟨v0, v1, v2, v3, v4, v5, v6, rfl⟩ := len_k7 hl
            refine WP.still 1 (by kernel_rfl) ?_
            refine WP.done (by kernel_rfl) (Shown.ok (v := .bool (x40 == 0)) (by kernel_rfl) (Step.refl _ _) ?_)
            exact ⟨trivial, trivial, trivial, congrArg Value.bool h50, trivial, trivial, trivial, trivial, trivial, trivial, trivial, trivial, trivial⟩
          · intro vs gq stq hl hf
            obtain ⟨v0, v1, v2, v3, v4, v5, v6, rfl⟩ := len_k7 hl
            have hB19 := (show Box gq (t + 22) b22 32 [encA .u8 d31, [.int .i64 x39], encA .i64 d32, [.slice a15 n15 c15]] [8, 1, 2, 1] from hf _ (List.mem_of_getElem? (i := 0) rfl) (by kernel_rfl))
            have e0 := (show v0 = .bool true from hf _ (List.mem_of_getElem? (i := 3) rfl) (by kernel_rfl))
            subst e0
            refine WP.loadB (v := AG [encA .u8 d31, [.int .i64 x39], encA .i64 d32, [.slice a15 n15 c15]]) hB19 (by kernel_rfl) (by kernel_rfl) ?_
            refine WP.done (by kernel_rfl) (Shown.ok (v := AG [encA .u8 d31, [.int .i64 x39], encA .i64 d32, [.slice a15 n15 c15]]) (by kernel_rfl) (Step.refl _ _) ?_)
            exact ⟨trivial, trivial, trivial, trivial, rfl, trivial, trivial, trivial, trivial, trivial, trivial, trivial, trivial⟩
          · intro vs gq stq hl hf
            obtain ⟨v0, v1, v2, v3, v4, v5, v6, rfl⟩ := len_k7 hl
            have hB21 := (show Box gq (t + 23) b23 26 [encA .u8 d1, [.int .i64 0], encA .i64 d2, [.slice none 0 0]] [8, 1, 2, 1] from hf _ (List.mem_of_getElem? (i := 2) rfl) (by kernel_rfl))
            have e0 := (show v0 = .bool true from hf _ (List.mem_of_getElem? (i := 3) rfl) (by kernel_rfl))
            subst e0
            refine WP.loadB (v := AG [encA .u8 d1, [.int .i64 0], encA .i64 d2, [.slice none 0 0]]) hB21 (by kernel_rfl) (by kernel_rfl) ?_
            refine WP.done (by kernel_rfl) (Shown.ok (v := AG [encA .u8 d1, [.int .i64 0], encA .i64 d2, [.slice none 0 0]]) (by kernel_rfl) (Step.refl _ _) ?_)
            exact ⟨trivial, trivial, trivial, trivial, trivial, rfl, trivial, trivial, trivial, trivial, trivial, trivial, trivial⟩
          · intro vs gq stq hl hf
            obtain ⟨v0, v1, v2, v3, v4, v5, v6, rfl⟩ := len_k7 hl
            have e0 := (show v0 = .bool true from hf _ (List.mem_of_getElem? (i := 3) rfl) (by kernel_rfl))
            subst e0
            have e2 := (show v2 = AG [encA .u8 d1, [.int .i64 0], encA .i64 d2, [.slice none 0 0]] from hf _ (List.mem_of_getElem? (i := 5) rfl) (by kernel_rfl))
            subst e2
            have hcal48 := P.baizelaw47_Own gq (t + 25) d1 0 d2 ([]) none 0 0 (RdS.nil _ _ _) d35 x43 d36 l17 hk48
            refine WP.callC hcal48 (by kernel_rfl) ?_
            rintro _ g90 st90 ⟨a17, n17, c17, rfl, hR17⟩
            obtain rfl := hR17.len
            refine WP.done (by kernel_rfl) (Shown.ok (v := AG [encA .u8 d35, [.int .i64 x43], encA .i64 d36, [.slice a17 l17.length c17]]) (by kernel_rfl) st90.pure ?_)
            exact ⟨trivial, trivial, trivial, trivial, trivial, trivial, ⟨a17, c17, rfl, hR17⟩, trivial, trivial, trivial, trivial, trivial, trivial⟩
          · intro vs gq stq hl hf
            obtain ⟨v0, v1, v2, v3, v4, v5, v6, rfl⟩ := len_k7 hl
            have hR15 := (show OwnS k_S_purse_Held gq (t + 21) 56 a15 n15 c15 l15 from hf _ (List.mem_of_getElem? (i := 1) rfl) (by kernel_rfl))
            have e0 := (show v0 = .bool true from hf _ (List.mem_of_getElem? (i := 3) rfl) (by kernel_rfl))
            subst e0
            have e1 := (show v1 = AG [encA .u8 d31, [.int .i64 x39], encA .i64 d32, [.slice a15 n15 c15]] from hf _ (List.mem_of_getElem? (i := 4) rfl) (by kernel_rfl))
            subst e1
            obtain ⟨a17, c17, e3, hR17⟩ := (show ∃ (a17 : Option Addr) (c17 : Nat), v3 = AG [encA .u8 d35, [.int .i64 x43], encA .i64 d36, [.slice a17 l17.length c17]] ∧ OwnS k_S_purse_Held gq (t + 25) 56 a17 l17.length c17 l17 from hf _ (List.mem_of_getElem? (i := 6) rfl) (by kernel_rfl))
            subst e3
            have hS12 : 0 ∉ ([(t + 21), (t + 25)] : List Nat) := by simp <;> omega
            have stl12 := GW.lend_step gq [(t + 21), (t + 25)]
            have hRl16 := hR15.lendTo hS12 (by simp)
            have hRl17 := hR17.lendTo hS12 (by simp)
            refine WP.regw (g' := GW.lend gq [(t + 21), (t + 25)]) rfl ?_
            have hcal49 := P.purse_Same (GW.lend gq [(t + 21), (t + 25)]) d31 x39 d32 l15 d35 x43 d36 l17 a15 n15 c15 a17 l17.length c17 hRl16 hRl17 q35 hk49
            refine WP.callC hcal49 (by kernel_rfl) ?_
            rintro _ g91 st91 rfl
            have st92 := (GW.back_step st91).lentS
            have hO16 := hR15.backTo hS12 (by simp) st91 (fun x => x)
            have hO17 := hR17.backTo hS12 (by simp) st91 (fun x => x)
            refine WP.regw (g' := GW.back gq g91 [(t + 21), (t + 25)]) rfl ?_
            generalize GW.back gq g91 [(t + 21), (t + 25)] = g92 at *
            refine WP.done (by kernel_rfl) (Shown.ok (v := .bool q35) (by kernel_rfl) st92 ?_)
            exact ⟨trivial, trivial, trivial, trivial, trivial, trivial, trivial, rfl, hO16, ⟨a17, c17, rfl, hO17⟩, trivial, trivial, trivial⟩
          · intro vs gq stq hl hf
            obtain ⟨v0, v1, v2, v3, v4, v5, v6, rfl⟩ := len_k7 hl
            have e0 := (show v0 = .bool true from hf _ (List.mem_of_getElem? (i := 3) rfl) (by kernel_rfl))
            subst e0
            have e4 := (show v4 = .bool q35 from hf _ (List.mem_of_getElem? (i := 7) rfl) (by kernel_rfl))
            subst e4
            refine WP.still 1 (by kernel_rfl) ?_
            refine WP.done (by kernel_rfl) (Shown.ok (v := .bool q35) (by kernel_rfl) (Step.refl _ _) ?_)
            exact ⟨trivial, trivial, trivial, trivial, trivial, trivial, trivial, trivial, trivial, trivial, congrArg Value.bool h51, trivial, trivial⟩
          · intro vs gq stq hl hf
            obtain ⟨v0, v1, v2, v3, v4, v5, v6, rfl⟩ := len_k7 hl
            have e5 := (show v5 = .bool true from hf _ (List.mem_of_getElem? (i := 10) rfl) (by kernel_rfl))
            subst e5
            have hcal50 := P.baizelaw47_told gq q36 hk50
            refine WP.callC hcal50 (by kernel_rfl) ?_
            rintro _ g93 st93 rfl
            refine WP.done (by kernel_rfl) (Shown.ok (v := .bool q36) (by kernel_rfl) st93.pure ?_)
            exact ⟨trivial, trivial, trivial, trivial, trivial, trivial, trivial, trivial, trivial, trivial, trivial, rfl, trivial⟩
        intro vs g94 st94 hl hf
        obtain ⟨v0, v1, v2, v3, v4, v5, v6, rfl⟩ := len_k7 hl
        have e5 := (show v5 = .bool true from hf _ (List.mem_of_getElem? (i := 10) rfl) (by kernel_rfl))
        subst e5
        have e6 := (show v6 = .bool q36 from hf _ (List.mem_of_getElem? (i := 11) rfl) (by kernel_rfl))
        subst e6
        replace tot := tot.trans (st94.up2 (.inr (by omega)) (.inr (by omega)))
        refine NX.post ?_
        exact ⟨q36, ⟨by kernel_rfl, by kernel_rfl⟩, tot, hs⟩
      replace hs := of_if_f hs h51
      refine CP.drawL (by kernel_rfl) [2, 3, 4, 5, 6, 8] N.baizelaw47_PurseChecks_3 [⟨none, [], [], fun l g => Box g (t + 22) b22 32 [encA .u8 d31, [.int .i64 x39], encA .i64 d32, [.slice a15 n15 c15]] [8, 1, 2, 1]⟩, ⟨none, [0], [], fun l g => OwnS k_S_purse_Held g (t + 21) 56 a15 n15 c15 l15⟩, ⟨none, [], [], fun l g => Box g (t + 23) b23 26 [encA .u8 d1, [.int .i64 0], encA .i64 d2, [.slice none 0 0]] [8, 1, 2, 1]⟩, ⟨some 0, [], [0], fun l g => l.getD 0 undef = .bool true⟩, ⟨some 1, [], [1], fun l g => l.getD 0 undef = AG [encA .u8 d31, [.int .i64 x39], encA .i64 d32, [.slice a15 n15 c15]]⟩, ⟨some 2, [], [2], fun l g => l.getD 0 undef = AG [encA .u8 d1, [.int .i64 0], encA .i64 d2, [.slice none 0 0]]⟩, ⟨some 3, [1], [3], fun l g => ∃ (a17 : Option Addr) (c17 : Nat), l.getD 0 undef = AG [encA .u8 d35, [.int .i64 x43], encA .i64 d36, [.slice a17 l17.length c17]] ∧ OwnS k_S_purse_Held g (t + 25) 56 a17 l17.length c17 l17⟩, ⟨some 4, [], [4], fun l g => l.getD 0 undef = .bool q35⟩, ⟨some 4, [0], [], fun l g => OwnS k_S_purse_Held g (t + 21) 56 a15 n15 c15 l15⟩, ⟨some 4, [1], [3], fun l g => ∃ (a17 : Option Addr) (c17 : Nat), l.getD 0 undef = AG [encA .u8 d35, [.int .i64 x43], encA .i64 d36, [.slice a17 l17.length c17]] ∧ OwnS k_S_purse_Held g (t + 25) 56 a17 l17.length c17 l17⟩, ⟨some 5, [], [5], fun l g => l.getD 0 undef = .bool false⟩] [[], [], [], [], [0, 1], []] [(t + 21), (t + 25)] [0, 1] [7, 9, 10, 11] (by kernel_rfl) (by simp <;> omega) (by simp <;> omega) ⟨fun _ _ _ _ st h0 hl hj hB19 => (hB19.mono st (fun h => absurd (hl _ h) (by simp <;> omega))), fun _ _ _ _ st h0 hl hj hR15 => (hR15.mono st h0 (hj 0 (by simp) _ rfl)), fun _ _ _ _ st h0 hl hj hB21 => (hB21.mono st (fun h => absurd (hl _ h) (by simp <;> omega))), fun _ _ _ _ st h0 hl hj e0 => e0, fun _ _ _ _ st h0 hl hj e1 => e1, fun _ _ _ _ st h0 hl hj e2 => e2, fun _ _ _ _ st h0 hl hj ⟨a17, c17, e3, hR17⟩ => ⟨a17, c17, e3, (hR17.mono st h0 (hj 1 (by simp) _ rfl))⟩, fun _ _ _ _ st h0 hl hj e4 => e4, fun _ _ _ _ st h0 hl hj hR15 => (hR15.mono st h0 (hj 0 (by simp) _ rfl)), fun _ _ _ _ st h0 hl hj ⟨a17, c17, e3, hR17⟩ => ⟨a17, c17, e3, (hR17.mono st h0 (hj 1 (by simp) _ rfl))⟩, fun _ _ _ _ st h0 hl hj e5 => e5, trivial⟩ ⟨hB19, hR15, hB21, trivial, trivial, trivial, trivial, trivial, trivial, trivial, trivial, trivial⟩ (by kernel_rfl) (fun vs => by kernel_rfl) ?_ ?_ ?_
      · intro j hj
        have hq : j = 0 ∨ j = 1 ∨ j = 2 ∨ j = 3 := by have h : j < 4 := hj; omega
        rcases hq with rfl | rfl | rfl | rfl
        · intro vs gq stq hl hf
          obtain ⟨v0, v1, v2, v3, v4, v5, rfl⟩ := len_k6 hl
          have e0 := (show v0 = .bool true from hf _ (List.mem_of_getElem? (i := 3) rfl) (by kernel_rfl))
          subst e0
          have e4 := (show v4 = .bool q35 from hf _ (List.mem_of_getElem? (i := 7) rfl) (by kernel_rfl))
          subst e4
          show Option.isSome _ = true
          kernel_rfl
        · intro vs gq stq hl hf
          obtain ⟨v0, v1, v2, v3, v4, v5, rfl⟩ := len_k6 hl
          have e5 := (show v5 = .bool false from hf _ (List.mem_of_getElem? (i := 10) rfl) (by kernel_rfl))
          subst e5
          show Option.isSome _ = true
          kernel_rfl
        · intro vs gq stq hl hf
          obtain ⟨v0, v1, v2, v3, v4, v5, rfl⟩ := len_k6 hl
          have e5 := (show v5 = .bool false from hf _ (List.mem_of_getElem? (i := 10) rfl) (by kernel_rfl))
          subst e5
          show Option.isSome _ = true
          kernel_rfl
        · intro vs gq stq hl hf
          obtain ⟨v0, v1, v2, v3, v4, v5, rfl⟩ := len_k6 hl
          have e5 := (show v5 = .bool false from hf _ (List.mem_of_getElem? (i := 10) rfl) (by kernel_rfl))
          subst e5
          show Option.isSome _ = true
          kernel_rfl
      · intro j hj
        have hq : j = 0 ∨ j = 1 ∨ j = 2 ∨ j = 3 ∨ j = 4 ∨ j = 5 := by have h : j < 6 := hj; omega
        rcases hq with rfl | rfl | rfl | rfl | rfl | rfl
        · intro vs gq stq hl hf
          obtain ⟨v0, v1, v2, v3, v4, v5, rfl⟩ := len_k6 hl
          refine WP.still 1 (by kernel_rfl) ?_
          refine WP.done (by kernel_rfl) (Shown.ok (v := .bool (x40 == 0)) (by kernel_rfl) (Step.refl _ _) ?_)
          exact ⟨trivial, trivial, trivial, congrArg Value.bool h50, trivial, trivial, trivial, trivial, trivial, trivial, trivial, trivial⟩
        · intro vs gq stq hl hf
          obtain ⟨v0, v1, v2, v3, v4, v5, rfl⟩ := len_k6 hl
          have hB19 := (show Box gq (t + 22) b22 32 [encA .u8 d31, [.int .i64 x39], encA .i64 d32, [.slice a15 n15 c15]] [8, 1, 2, 1] from hf _ (List.mem_of_getElem? (i := 0) rfl) (by kernel_rfl))
          have e0 := (show v0 = .bool true from hf _ (List.mem_of_getElem? (i := 3) rfl) (by kernel_rfl))
          subst e0
          refine WP.loadB (v := AG [encA .u8 d31, [.int .i64 x39], encA .i64 d32, [.slice a15 n15 c15]]) hB19 (by kernel_rfl) (by kernel_rfl) ?_
          refine WP.done (by kernel_rfl) (Shown.ok (v := AG [encA .u8 d31, [.int .i64 x39], encA .i64 d32, [.slice a15 n15 c15]]) (by kernel_rfl) (Step.refl _ _) ?_)
          exact ⟨trivial, trivial, trivial, trivial, rfl, trivial, trivial, trivial, trivial, trivial, trivial, trivial⟩
        · intro vs gq stq hl hf
          obtain ⟨v0, v1, v2, v3, v4, v5, rfl⟩ := len_k6 hl
          have hB21 := (show Box gq (t + 23) b23 26 [encA .u8 d1, [.int .i64 0], encA .i64 d2, [.slice none 0 0]] [8, 1, 2, 1] from hf _ (List.mem_of_getElem? (i := 2) rfl) (by kernel_rfl))
          have e0 := (show v0 = .bool true from hf _ (List.mem_of_getElem? (i := 3) rfl) (by kernel_rfl))
          subst e0
          refine WP.loadB (v := AG [encA .u8 d1, [.int .i64 0], encA .i64 d2, [.slice none 0 0]]) hB21 (by kernel_rfl) (by kernel_rfl) ?_
          refine WP.done (by kernel_rfl) (Shown.ok (v := AG [encA .u8 d1, [.int .i64 0], encA .i64 d2, [.slice none 0 0]]) (by kernel_rfl) (Step.refl _ _) ?_)
          exact ⟨trivial, trivial, trivial, trivial, trivial, rfl, trivial, trivial, trivial, trivial, trivial, trivial⟩
        · intro vs gq stq hl hf
          obtain ⟨v0, v1, v2, v3, v4, v5, rfl⟩ := len_k6 hl
          have e0 := (show v0 = .bool true from hf _ (List.mem_of_getElem? (i := 3) rfl) (by kernel_rfl))
          subst e0
          have e2 := (show v2 = AG [encA .u8 d1, [.int .i64 0], encA .i64 d2, [.slice none 0 0]] from hf _ (List.mem_of_getElem? (i := 5) rfl) (by kernel_rfl))
          subst e2
          have hcal48 := P.baizelaw47_Own gq (t + 25) d1 0 d2 ([]) none 0 0 (RdS.nil _ _ _) d35 x43 d36 l17 hk48
          refine WP.callC hcal48 (by kernel_rfl) ?_
          rintro _ g90 st90 ⟨a17, n17, c17, rfl, hR17⟩
          obtain rfl := hR17.len
          refine WP.done (by kernel_rfl) (Shown.ok (v := AG [encA .u8 d35, [.int .i64 x43], encA .i64 d36, [.slice a17 l17.length c17]]) (by kernel_rfl) st90.pure ?_)
          exact ⟨trivial, trivial, trivial, trivial, trivial, trivial, ⟨a17, c17, rfl, hR17⟩, trivial, trivial, trivial, trivial, trivial⟩
        · intro vs gq stq hl hf
          obtain ⟨v0, v1, v2, v3, v4, v5, rfl⟩ := len_k6 hl
          have hR15 := (show OwnS k_S_purse_Held gq (t + 21) 56 a15 n15 c15 l15 from hf _ (List.mem_of_getElem? (i := 1) rfl) (by kernel_rfl))
          have e0 := (show v0 = .bool true from hf _ (List.mem_of_getElem? (i := 3) rfl) (by kernel_rfl))
          subst e0
          have e1 := (show v1 = AG [encA .u8 d31, [.int .i64 x39], encA .i64 d32, [.slice a15 n15 c15]] from hf _ (List.mem_of_getElem? (i := 4) rfl) (by kernel_rfl))
          subst e1
          obtain ⟨a17, c17, e3, hR17⟩ := (show ∃ (a17 : Option Addr) (c17 : Nat), v3 = AG [encA .u8 d35, [.int .i64 x43], encA .i64 d36, [.slice a17 l17.length c17]] ∧ OwnS k_S_purse_Held gq (t + 25) 56 a17 l17.length c17 l17 from hf _ (List.mem_of_getElem? (i := 6) rfl) (by kernel_rfl))
          subst e3
          have hS12 : 0 ∉ ([(t + 21), (t + 25)] : List Nat) := by simp <;> omega
          have stl12 := GW.lend_step gq [(t + 21), (t + 25)]
          have hRl16 := hR15.lendTo hS12 (by simp)
          have hRl17 := hR17.lendTo hS12 (by simp)
          refine WP.regw (g' := GW.lend gq [(t + 21), (t + 25)]) rfl ?_
          have hcal49 := P.purse_Same (GW.lend gq [(t + 21), (t + 25)]) d31 x39 d32 l15 d35 x43 d36 l17 a15 n15 c15 a17 l17.length c17 hRl16 hRl17 q35 hk49
          refine WP.callC hcal49 (by kernel_rfl) ?_
          rintro _ g91 st91 rfl
          have st92 := (GW.back_step st91).lentS
          have hO16 := hR15.backTo hS12 (by simp) st91 (fun x => x)
          have hO17 := hR17.backTo hS12 (by simp) st91 (fun x => x)
          refine WP.regw (g' := GW.back gq g91 [(t + 21), (t + 25)]) rfl ?_
          generalize GW.back gq g91 [(t + 21), (t + 25)] = g92 at *
          refine WP.done (by kernel_rfl) (Shown.ok (v := .bool q35) (by kernel_rfl) st92 ?_)
          exact ⟨trivial, trivial, trivial, trivial, trivial, trivial, trivial, rfl, hO16, ⟨a17, c17, rfl, hO17⟩, trivial, trivial⟩
        · intro vs gq stq hl hf
          obtain ⟨v0, v1, v2, v3, v4, v5, rfl⟩ := len_k6 hl
          have e0 := (show v0 = .bool true from hf _ (List.mem_of_getElem? (i := 3) rfl) (by kernel_rfl))
          subst e0
          have e4 := (show v4 = .bool q35 from hf _ (List.mem_of_getElem? (i := 7) rfl) (by kernel_rfl))
          subst e4
          refine WP.still 1 (by kernel_rfl) ?_
          refine WP.done (by kernel_rfl) (Shown.ok (v := .bool q35) (by kernel_rfl) (Step.refl _ _) ?_)
          exact ⟨trivial, trivial, trivial, trivial, trivial, trivial, trivial, trivial, trivial, trivial, congrArg Value.bool h51, trivial⟩
      intro vs g95 st95 hl hf
      obtain ⟨v0, v1, v2, v3, v4, v5, rfl⟩ := len_k6 hl
      have e5 := (show v5 = .bool false from hf _ (List.mem_of_getElem? (i := 10) rfl) (by kernel_rfl))
      subst e5
      replace tot := tot.trans (st95.up2 (.inr (by omega)) (.inr (by omega)))
      refine NX.post ?_
      exact ⟨false, ⟨by kernel_rfl, by kernel_rfl⟩, tot, hs⟩
    replace hs := of_if_f hs h50
    refine CP.drawL (by kernel_rfl) [2] N.baizelaw47_PurseChecks_3 [⟨some 0, [], [0], fun l g => l.getD 0 undef = .bool false⟩] [[]] [] [0, 1] [3, 4, 5, 6, 7, 8, 9, 10, 11] (by kernel_rfl) (by simp) (by simp) ⟨fun _ _ _ _ st h0 hl hj e0 => e0, trivial⟩ ⟨trivial, trivial⟩ (by kernel_rfl) (fun vs => by kernel_rfl) ?_ ?_ ?_
    · intro j hj
      have hq : j = 0 ∨ j = 1 ∨ j = 2 ∨ j = 3 ∨ j = 4 ∨ j = 5 ∨ j = 6 ∨ j = 7 ∨ j = 8 := by have h : j < 9 := hj; omega
      rcases hq with rfl | rfl | rfl | rfl | rfl | rfl | rfl | rfl | rfl
      · intro vs gq stq hl hf
        obtain ⟨v0, rfl⟩ := len_k1 hl
        have e0 := (show v0 = .bool false from hf _ (List.mem_of_getElem? (i := 0) rfl) (by kernel_rfl))
        subst e0
        show Option.isSome _ = true
        kernel_rfl
      · intro vs gq stq hl hf
        obtain ⟨v0, rfl⟩ := len_k1 hl
        have e0 := (show v0 = .bool false from hf _ (List.mem_of_getElem? (i := 0) rfl) (by kernel_rfl))
        subst e0
        show Option.isSome _ = true
        kernel_rfl
      · intro vs gq stq hl hf
        obtain ⟨v0, rfl⟩ := len_k1 hl
        have e0 := (show v0 = .bool false from hf _ (List.mem_of_getElem? (i := 0) rfl) (by kernel_rfl))
        subst e0
        show Option.isSome _ = true
        kernel_rfl
      · intro vs gq stq hl hf
        obtain ⟨v0, rfl⟩ := len_k1 hl
        have e0 := (show v0 = .bool false from hf _ (List.mem_of_getElem? (i := 0) rfl) (by kernel_rfl))
        subst e0
        show Option.isSome _ = true
        kernel_rfl
      · intro vs gq stq hl hf
        obtain ⟨v0, rfl⟩ := len_k1 hl
        have e0 := (show v0 = .bool false from hf _ (List.mem_of_getElem? (i := 0) rfl) (by kernel_rfl))
        subst e0
        show Option.isSome _ = true
        kernel_rfl
      · intro vs gq stq hl hf
        obtain ⟨v0, rfl⟩ := len_k1 hl
        have e0 := (show v0 = .bool false from hf _ (List.mem_of_getElem? (i := 0) rfl) (by kernel_rfl))
        subst e0
        show Option.isSome _ = true
        kernel_rfl
      · intro vs gq stq hl hf
        obtain ⟨v0, rfl⟩ := len_k1 hl
        have e0 := (show v0 = .bool false from hf _ (List.mem_of_getElem? (i := 0) rfl) (by kernel_rfl))
        subst e0
        show Option.isSome _ = true
        kernel_rfl
      · intro vs gq stq hl hf
        obtain ⟨v0, rfl⟩ := len_k1 hl
        have e0 := (show v0 = .bool false from hf _ (List.mem_of_getElem? (i := 0) rfl) (by kernel_rfl))
        subst e0
        show Option.isSome _ = true
        kernel_rfl
      · intro vs gq stq hl hf
        obtain ⟨v0, rfl⟩ := len_k1 hl
        have e0 := (show v0 = .bool false from hf _ (List.mem_of_getElem? (i := 0) rfl) (by kernel_rfl))
        subst e0
        show Option.isSome _ = true
        kernel_rfl
    · intro j hj
      have hq : j = 0 := by have h : j < 1 := hj; omega
      rcases hq with rfl
      · intro vs gq stq hl hf
        obtain ⟨v0, rfl⟩ := len_k1 hl
        refine WP.still 1 (by kernel_rfl) ?_
        refine WP.done (by kernel_rfl) (Shown.ok (v := .bool (x40 == 0)) (by kernel_rfl) (Step.refl _ _) ?_)
        exact ⟨congrArg Value.bool h50, trivial⟩
    intro vs g96 st96 hl hf
    obtain ⟨v0, rfl⟩ := len_k1 hl
    have e0 := (show v0 = .bool false from hf _ (List.mem_of_getElem? (i := 0) rfl) (by kernel_rfl))
    subst e0
    replace tot := tot.trans st96.toNo.pure
    refine NX.post ?_
    exact ⟨false, ⟨by kernel_rfl, by kernel_rfl⟩, tot, hs⟩
  clear tot hs hB19 hR15 hB21
  rintro tm g ⟨q34, hF, tot, hs⟩
  clear ds
  obtain ⟨ds, rfl⟩ := hF.open
  clear hF
  unfold F.baizelaw47_PurseChecks.c5 at hs
  refine CP.ret ?_
  replace hs := Option.some.inj hs
  obtain rfl := hs
  exact NX.fin (v := .bool q34) (Res.still (by kernel_rfl)) tot htL rfl
end Go.Proofs.Yticlfbpmfejdoaa
