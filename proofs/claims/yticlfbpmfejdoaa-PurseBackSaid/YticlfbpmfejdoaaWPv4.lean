/-
  Walks, written by program: each Go function computes the plain function of its name, in whatever world its arguments' facts hold.
-/
import Derived.Test.YticlfbpmfejdoaaWPv3
namespace Go.Proofs.Yticlfbpmfejdoaa
open Go.RowKit Go.Lab
attribute [local irreducible] WP CP NX wpList Code.wp Calls
set_option maxRecDepth 100000
set_option maxHeartbeats 4000000
set_option linter.unusedVariables false

def N.baizeref47_Same_0 : List (List Nat) := [[], [0], [], [0, 1, 2], [0, 1, 2, 3], [], [5], [], [5, 6, 7], [5, 6, 7, 8], [0, 1, 2, 3, 4, 5, 6, 7, 8, 9]]
def F.baizeref47_Same.l1 (l1 : List S_baizeref47_Held) (l2 : List S_baizeref47_Held) : Nat → Int → Option (Bool)
  | 0, _ => none
  | k + 1, x3 => (if decide (x3 < (l1.length : Int)) = true then (if (0 : Int) ≤ x3 ∧ x3 < (l1.length : Int) then (if (0 : Int) ≤ x3 ∧ x3 < (l2.length : Int) then (if (!((((getI l1 x3).f1).1 == ((getI l2 x3).f1).1) && ((((getI l1 x3).f2) == ((getI l2 x3).f2)) && ((((getI l1 x3).f3) == ((getI l2 x3).f3)) && (((getI l1 x3).f4) == ((getI l2 x3).f4)))))) = true then (some false) else (F.baizeref47_Same.l1 l1 l2 k (IntKind.i64.wrap (x3 + 1)))) else none) else none) else (some true))
def F.baizeref47_Same.c1 (l1 : List S_baizeref47_Held) (l2 : List S_baizeref47_Held) (q1 : Bool) : Option (Bool) := (if q1 = true then (some false) else (F.baizeref47_Same.l1 l1 l2 fuel 0))
def F.baizeref47_Same (d1 : Arr Int 8) (x1 : Int) (d2 : Arr Int 2) (l1 : List S_baizeref47_Held) (d3 : Arr Int 8) (x2 : Int) (d4 : Arr Int 2) (l2 : List S_baizeref47_Held) : Option (Bool) := (if (!(d1.1 == d3.1)) = true then (F.baizeref47_Same.c1 l1 l2 true) else (if (x1 != x2) = true then (F.baizeref47_Same.c1 l1 l2 true) else (if (!(d2.1 == d4.1)) = true then (F.baizeref47_Same.c1 l1 l2 true) else (F.baizeref47_Same.c1 l1 l2 ((l1.length : Int) != (l2.length : Int))))))
theorem P.baizeref47_Same (g0 : GW) (d1 : Arr Int 8) (x1 : Int) (d2 : Arr Int 2) (l1 : List S_baizeref47_Held) (d3 : Arr Int 8) (x2 : Int) (d4 : Arr Int 2) (l2 : List S_baizeref47_Held) (a1 : Option Addr) (n1 : Nat) (c1 : Nat) (a2 : Option Addr) (n2 : Nat) (c2 : Nat) (hR1 : RdS k_S_baizeref47_Held g0 60 a1 n1 c1 l1) (hR2 : RdS k_S_baizeref47_Held g0 60 a2 n2 c2 l2) (o1 : Bool) (hs : F.baizeref47_Same d1 x1 d2 l1 d3 x2 d4 l2 = some o1) :
    Calls Try.prog 18 #[AG [encA .u8 d1, [.int .i64 x1], encA .i64 d2, [.slice a1 n1 c1]], AG [encA .u8 d3, [.int .i64 x2], encA .i64 d4, [.slice a2 n2 c2]]] g0.w (Ret NoM g0 fun v g => v = .bool o1) := by
  refine calls_of (args := [AG [encA .u8 d1, [.int .i64 x1], encA .i64 d2, [.slice a1 n1 c1]], AG [encA .u8 d3, [.int .i64 x2], encA .i64 d4, [.slice a2 n2 c2]]]) Try.func18 rfl (0) ?_
  intro t ht htL
  refine ⟨_, rfl, ?_⟩
  refine CP.refr 52 [(0, AG [encA .u8 d1, [.int .i64 x1], encA .i64 d2, [.slice a1 n1 c1]]), (1, AG [encA .u8 d3, [.int .i64 x2], encA .i64 d4, [.slice a2 n2 c2]])] (by kernel_rfl) (by kernel_rfl) ?_
  intro ds
  have tot : Step (fun l => NoM l ∨ t ≤ l) g0 g0 := Step.refl _ _
  unfold F.baizeref47_Same at hs
  refine CP.seqR ?_
  refine WP.alloc (T := 26) (t + 1) [encA .u8 d1, [.int .i64 x1], encA .i64 d2, [.slice a1 n1 c1]] [8, 1, 2, 1] (by kernel_rfl) (by simp [len_encA]) ?_
  intro g1 b1 st1 hB1
  replace hR1 := hR1.mono st1 (fun x => x)
  replace hR2 := hR2.mono st1 (fun x => x)
  replace tot := tot.trans st1.pure
  refine WP.alloc (T := 26) (t + 2) [encA .u8 d3, [.int .i64 x2], encA .i64 d4, [.slice a2 n2 c2]] [8, 1, 2, 1] (by kernel_rfl) (by simp [len_encA]) ?_
  intro g2 b2 st2 hB2
  replace hR1 := hR1.mono st2 (fun x => x)
  replace hR2 := hR2.mono st2 (fun x => x)
  replace hB1 := hB1.mono st2 (fun x => x)
  replace tot := tot.trans st2.pure
  refine WP.still 1 (by kernel_rfl) ?_
  refine WP.done (by kernel_rfl) ?_
  refine NX.then_n ?_
  refine CP.seq ?_
  refine CP.cut (fun tm g => ∃ (q1 : Bool), Fr 52 [(2, .pointer (some ⟨b1, 0, none⟩)), (3, .pointer (some ⟨b2, 0, none⟩)), (33, .bool q1)] tm ∧ Step (fun l => NoM l ∨ t ≤ l) g0 g ∧ Box g (t + 1) b1 26 [encA .u8 d1, [.int .i64 x1], encA .i64 d2, [.slice a1 n1 c1]] [8, 1, 2, 1] ∧ RdS k_S_baizeref47_Held g 60 a1 n1 c1 l1 ∧ Box g (t + 2) b2 26 [encA .u8 d3, [.int .i64 x2], encA .i64 d4, [.slice a2 n2 c2]] [8, 1, 2, 1] ∧ RdS k_S_baizeref47_Held g 60 a2 n2 c2 l2 ∧ (F.baizeref47_Same.c1 l1 l2 q1) = some o1) ?_ ?_
  · refine CP.region ?_
    refine WP.still 1 (by kernel_rfl) ?_
    refine WP.loadB (v := AG [encA .u8 d1]) hB1 (by kernel_rfl) (by kernel_rfl) ?_
    refine WP.still 1 (by kernel_rfl) ?_
    refine WP.loadB (v := AG [encA .u8 d3]) hB2 (by kernel_rfl) (by kernel_rfl) ?_
    refine WP.neV (by kernel_rfl) (by kernel_rfl) (EqV.arr (d := 9998) (t := 22) (e := 5) (m := 8) (k := .u8) (x := d1) (y := d3) (by kernel_rfl) (by kernel_rfl)) ?_
    refine WP.still 1 (by kernel_rfl) ?_
    refine WP.guard 11 (b := (!(d1.1 == d3.1))) (by kernel_rfl) (fun h11 => ?_) (fun h11 => ?_)
    · replace hs := of_if_t hs h11
      refine WP.still 22 (by kernel_rfl) ?_
      refine WP.done (by kernel_rfl) ?_
      refine NX.post ?_
      exact ⟨true, ⟨by kernel_rfl, by kernel_rfl⟩, tot, hB1, hR1, hB2, hR2, hs⟩
    replace hs := of_if_f hs h11
    refine WP.still 1 (by kernel_rfl) ?_
    refine WP.loadB (v := .int .i64 x1) hB1 (by kernel_rfl) (by kernel_rfl) ?_
    refine WP.still 1 (by kernel_rfl) ?_
    refine WP.loadB (v := .int .i64 x2) hB2 (by kernel_rfl) (by kernel_rfl) ?_
    refine WP.still 3 (by kernel_rfl) ?_
    refine WP.guard 18 (b := (x1 != x2)) (by kernel_rfl) (fun h12 => ?_) (fun h12 => ?_)
    · replace hs := of_if_t hs h12
      refine WP.still 15 (by kernel_rfl) ?_
      refine WP.done (by kernel_rfl) ?_
      refine NX.post ?_
      exact ⟨true, ⟨by kernel_rfl, by kernel_rfl⟩, tot, hB1, hR1, hB2, hR2, hs⟩
    replace hs := of_if_f hs h12
    refine WP.still 1 (by kernel_rfl) ?_
    refine WP.loadB (v := AG [encA .i64 d2]) hB1 (by kernel_rfl) (by kernel_rfl) ?_
    refine WP.still 1 (by kernel_rfl) ?_
    refine WP.loadB (v := AG [encA .i64 d4]) hB2 (by kernel_rfl) (by kernel_rfl) ?_
    refine WP.neV (by kernel_rfl) (by kernel_rfl) (EqV.arr (d := 9998) (t := 23) (e := 3) (m := 2) (k := .i64) (x := d2) (y := d4) (by kernel_rfl) (by kernel_rfl)) ?_
    refine WP.still 2 (by kernel_rfl) ?_
    refine WP.guard 25 (b := (!(d2.1 == d4.1))) (by kernel_rfl) (fun h13 => ?_) (fun h13 => ?_)
    · replace hs := of_if_t hs h13
      refine WP.still 8 (by kernel_rfl) ?_
      refine WP.done (by kernel_rfl) ?_
      refine NX.post ?_
      exact ⟨true, ⟨by kernel_rfl, by kernel_rfl⟩, tot, hB1, hR1, hB2, hR2, hs⟩
    replace hs := of_if_f hs h13
    refine WP.still 1 (by kernel_rfl) ?_
    refine WP.loadB (v := .slice a1 n1 c1) hB1 (by kernel_rfl) (by kernel_rfl) ?_
    refine WP.len (a := a1) (cp := c1) hR1.len (by kernel_rfl) ?_
    refine WP.still 1 (by kernel_rfl) ?_
    refine WP.loadB (v := .slice a2 n2 c2) hB2 (by kernel_rfl) (by kernel_rfl) ?_
    refine WP.len (a := a2) (cp := c2) hR2.len (by kernel_rfl) ?_
    refine WP.still 2 (by kernel_rfl) ?_
    refine WP.done (by kernel_rfl) ?_
    refine NX.post ?_
    exact ⟨((l1.length : Int) != (l2.length : Int)), ⟨by kernel_rfl, by kernel_rfl⟩, tot, hB1, hR1, hB2, hR2, hs⟩
  clear tot hs hB1 hR1 hB2 hR2
  rintro tm g ⟨q1, hF, tot, hB1, hR1, hB2, hR2, hs⟩
  clear ds
  obtain ⟨ds, rfl⟩ := hF.open
  clear hF
  unfold F.baizeref47_Same.c1 at hs
  refine CP.cond (b := q1) (by kernel_rfl) (fun h4 => ?_) (fun h4 => ?_)
  · replace hs := of_if_t hs h4
    refine CP.seqR ?_
    refine WP.still 1 (by kernel_rfl) ?_
    refine WP.done (by kernel_rfl) ?_
    refine NX.then_n ?_
    refine CP.ret ?_
    refine NX.then_r ?_
    replace hs := Option.some.inj hs
    obtain rfl := hs
    exact NX.fin (v := .bool false) (Res.still (by kernel_rfl)) tot htL rfl
  replace hs := of_if_f hs h4
  refine CP.skip ?_
  refine NX.then_n ?_
  refine CP.seq ?_
  refine CP.seqR ?_
  refine WP.still 1 (by kernel_rfl) ?_
  refine WP.done (by kernel_rfl) ?_
  refine NX.then_n ?_
  refine CP.block ?_
  generalize fuel = k1 at hs
  refine CP.loop (fun k1 tm g => ∃ (x3 : Int), Fr 52 [(2, .pointer (some ⟨b1, 0, none⟩)), (3, .pointer (some ⟨b2, 0, none⟩)), (5, .int .i64 x3)] tm ∧ Step (fun l => NoM l ∨ t ≤ l) g0 g ∧ Box g (t + 1) b1 26 [encA .u8 d1, [.int .i64 x1], encA .i64 d2, [.slice a1 n1 c1]] [8, 1, 2, 1] ∧ RdS k_S_baizeref47_Held g 60 a1 n1 c1 l1 ∧ Box g (t + 2) b2 26 [encA .u8 d3, [.int .i64 x2], encA .i64 d4, [.slice a2 n2 c2]] [8, 1, 2, 1] ∧ RdS k_S_baizeref47_Held g 60 a2 n2 c2 l2 ∧ F.baizeref47_Same.l1 l1 l2 k1 x3 = some o1) k1 ?_ ?_ ?_
  · exact ⟨0, ⟨by kernel_rfl, by kernel_rfl⟩, tot, hB1, hR1, hB2, hR2, hs⟩
  · rintro tm g ⟨x3, hF, tot, hB1, hR1, hB2, hR2, hs⟩
    exact absurd hs (by simp [F.baizeref47_Same.l1])
  clear tot hs hB1 hR1 hB2 hR2
  rintro k1 tm g ⟨x3, hF, tot, hB1, hR1, hB2, hR2, hs⟩
  clear ds
  obtain ⟨ds, rfl⟩ := hF.open
  clear hF
  unfold F.baizeref47_Same.l1 at hs
  refine CP.seq ?_
  refine CP.seqR ?_
  refine WP.still 2 (by kernel_rfl) ?_
  refine WP.loadB (v := .slice a1 n1 c1) hB1 (by kernel_rfl) (by kernel_rfl) ?_
  refine WP.len (a := a1) (cp := c1) hR1.len (by kernel_rfl) ?_
  refine WP.still 1 (by kernel_rfl) ?_
  refine WP.done (by kernel_rfl) ?_
  refine NX.then_n ?_
  refine CP.cond (b := decide (x3 < (l1.length : Int))) (by kernel_rfl) (fun h9 => ?_) (fun h9 => ?_)
  · replace hs := of_if_t hs h9
    refine CP.skip ?_
    refine NX.then_n ?_
    refine CP.seq ?_
    refine CP.block ?_
    refine CP.seq ?_
    by_cases hc5 : (0 : Int) ≤ x3 ∧ x3 < (l1.length : Int)
    case neg => rw [if_neg hc5] at hs; cases hs
    replace hs := of_if_p hs hc5
    by_cases hc6 : (0 : Int) ≤ x3 ∧ x3 < (l2.length : Int)
    case neg => rw [if_neg hc6] at hs; cases hs
    replace hs := of_if_p hs hc6
    obtain ⟨b7, u5, ha5⟩ := hR1.at hc5
    obtain ⟨b8, u6, ha6⟩ := hR2.at hc6
    refine CP.drawL (by kernel_rfl) [1, 3, 4, 6, 8, 9, 10] N.baizeref47_Same_0 [⟨none, [], [], fun l g => Box g (t + 1) b1 26 [encA .u8 d1, [.int .i64 x1], encA .i64 d2, [.slice a1 n1 c1]] [8, 1, 2, 1]⟩, ⟨none, [], [], fun l g => RdS k_S_baizeref47_Held g 60 a1 n1 c1 l1⟩, ⟨none, [], [], fun l g => Box g (t + 2) b2 26 [encA .u8 d3, [.int .i64 x2], encA .i64 d4, [.slice a2 n2 c2]] [8, 1, 2, 1]⟩, ⟨none, [], [], fun l g => RdS k_S_baizeref47_Held g 60 a2 n2 c2 l2⟩, ⟨some 0, [], [0], fun l g => l.getD 0 undef = .slice a1 n1 c1⟩, ⟨some 1, [], [1], fun l g => l.getD 0 undef = .pointer (some ⟨b7, u5 + x3.toNat * 11, none⟩)⟩, ⟨some 2, [], [2], fun l g => l.getD 0 undef = AG [encA .u8 ((getI l1 x3).f1), [.int .i64 ((getI l1 x3).f2)], [.int .i64 ((getI l1 x3).f3)], [.int .i64 ((getI l1 x3).f4)]]⟩, ⟨some 3, [], [3], fun l g => l.getD 0 undef = .slice a2 n2 c2⟩, ⟨some 4, [], [4], fun l g => l.getD 0 undef = .pointer (some ⟨b8, u6 + x3.toNat * 11, none⟩)⟩, ⟨some 5, [], [5], fun l g => l.getD 0 undef = AG [encA .u8 ((getI l2 x3).f1), [.int .i64 ((getI l2 x3).f2)], [.int .i64 ((getI l2 x3).f3)], [.int .i64 ((getI l2 x3).f4)]]⟩, ⟨some 6, [], [6], fun l g => l.getD 0 undef = .bool (!((((getI l1 x3).f1).1 == ((getI l2 x3).f1).1) && ((((getI l1 x3).f2) == ((getI l2 x3).f2)) && ((((getI l1 x3).f3) == ((getI l2 x3).f3)) && (((getI l1 x3).f4) == ((getI l2 x3).f4))))))⟩] [[], [], [], [], [], [], []] [] [0, 2, 5, 7] [] (by kernel_rfl) (by simp) (by simp) ⟨fun _ _ _ _ st h0 hl hj hB1 => (hB1.mono st (fun h => absurd (hl _ h) (by simp))), fun _ _ _ _ st h0 hl hj hR1 => (RdS.mono (e := 60) hR1 st h0), fun _ _ _ _ st h0 hl hj hB2 => (hB2.mono st (fun h => absurd (hl _ h) (by simp))), fun _ _ _ _ st h0 hl hj hR2 => (RdS.mono (e := 60) hR2 st h0), fun _ _ _ _ st h0 hl hj e0 => e0, fun _ _ _ _ st h0 hl hj e1 => e1, fun _ _ _ _ st h0 hl hj e2 => e2, fun _ _ _ _ st h0 hl hj e3 => e3, fun _ _ _ _ st h0 hl hj e4 => e4, fun _ _ _ _ st h0 hl hj e5 => e5, fun _ _ _ _ st h0 hl hj e6 => e6, trivial⟩ ⟨hB1, hR1, hB2, hR2, trivial, trivial, trivial, trivial, trivial, trivial, trivial, trivial⟩ (by kernel_rfl) (fun vs => by kernel_rfl) ?_ ?_ ?_
    · intro j hj; exact absurd hj (by simp)
    · intro j hj
      have hq : j = 0 ∨ j = 1 ∨ j = 2 ∨ j = 3 ∨ j = 4 ∨ j = 5 ∨ j = 6 := by have h : j < 7 := hj; omega
      rcases hq with rfl | rfl | rfl | rfl | rfl | rfl | rfl
      · intro vs gq stq hl hf
        replace hl : vs.length = 7 := hl
        obtain ⟨v0, vs0, rfl, hl0⟩ := len_succ hl
        obtain ⟨v1, vs1, rfl, hl1⟩ := len_succ hl0
        obtain ⟨v2, vs2, rfl, hl2⟩ := len_succ hl1
        obtain ⟨v3, vs3, rfl, hl3⟩ := len_succ hl2
        obtain ⟨v4, vs4, rfl, hl4⟩ := len_succ hl3
        obtain ⟨v5, vs5, rfl, hl5⟩ := len_succ hl4
        obtain ⟨v6, vs6, rfl, hl6⟩ := len_succ hl5
        obtain rfl := len_zero hl6
        have hB1 := (show Box gq (t + 1) b1 26 [encA .u8 d1, [.int .i64 x1], encA .i64 d2, [.slice a1 n1 c1]] [8, 1, 2, 1] from hf _ (List.mem_of_getElem? (i := 0) rfl) (by kernel_rfl))
        refine WP.loadB (v := .slice a1 n1 c1) hB1 (by kernel_rfl) (by kernel_rfl) ?_
        refine WP.done (by kernel_rfl) (Shown.ok (v := .slice a1 n1 c1) (by kernel_rfl) (Step.refl _ _) ?_)
        exact ⟨trivial, trivial, trivial, trivial, rfl, trivial, trivial, trivial, trivial, trivial, trivial, trivial⟩
      · intro vs gq stq hl hf
        replace hl : vs.length = 7 := hl
        obtain ⟨v0, vs0, rfl, hl0⟩ := len_succ hl
        obtain ⟨v1, vs1, rfl, hl1⟩ := len_succ hl0
        obtain ⟨v2, vs2, rfl, hl2⟩ := len_succ hl1
        obtain ⟨v3, vs3, rfl, hl3⟩ := len_succ hl2
        obtain ⟨v4, vs4, rfl, hl4⟩ := len_succ hl3
        obtain ⟨v5, vs5, rfl, hl5⟩ := len_succ hl4
        obtain ⟨v6, vs6, rfl, hl6⟩ := len_succ hl5
        obtain rfl := len_zero hl6
        have hR1 := (show RdS k_S_baizeref47_Held gq 60 a1 n1 c1 l1 from hf _ (List.mem_of_getElem? (i := 1) rfl) (by kernel_rfl))
        have e0 := (show v0 = .slice a1 n1 c1 from hf _ (List.mem_of_getElem? (i := 4) rfl) (by kernel_rfl))
        subst e0
        refine WP.indexA (t := 24) (e := 60) (sz := 11) (cap := c1) (k := .i64) (i := x3) hR1.len ha5 (by kernel_rfl) (by kernel_rfl) hc5 ?_
        refine WP.done (by kernel_rfl) (Shown.ok (v := .pointer (some ⟨b7, u5 + x3.toNat * 11, none⟩)) (by kernel_rfl) (Step.refl _ _) ?_)
        exact ⟨trivial, trivial, trivial, trivial, trivial, rfl, trivial, trivial, trivial, trivial, trivial, trivial⟩
      · intro vs gq stq hl hf
        replace hl : vs.length = 7 := hl
        obtain ⟨v0, vs0, rfl, hl0⟩ := len_succ hl
        obtain ⟨v1, vs1, rfl, hl1⟩ := len_succ hl0
        obtain ⟨v2, vs2, rfl, hl2⟩ := len_succ hl1
        obtain ⟨v3, vs3, rfl, hl3⟩ := len_succ hl2
        obtain ⟨v4, vs4, rfl, hl4⟩ := len_succ hl3
        obtain ⟨v5, vs5, rfl, hl5⟩ := len_succ hl4
        obtain ⟨v6, vs6, rfl, hl6⟩ := len_succ hl5
        obtain rfl := len_zero hl6
        have hR1 := (show RdS k_S_baizeref47_Held gq 60 a1 n1 c1 l1 from hf _ (List.mem_of_getElem? (i := 1) rfl) (by kernel_rfl))
        have e1 := (show v1 = .pointer (some ⟨b7, u5 + x3.toNat * 11, none⟩) from hf _ (List.mem_of_getElem? (i := 5) rfl) (by kernel_rfl))
        subst e1
        obtain ⟨cs5, hcR5, hcV5⟩ := hR1.src.view (getI_some hc5) ha5
        replace hcR5 := k_S_baizeref47_Held.opn hcR5
        refine WP.loadV [encA .u8 ((getI l1 x3).f1), [.int .i64 ((getI l1 x3).f2)], [.int .i64 ((getI l1 x3).f3)], [.int .i64 ((getI l1 x3).f4)]] [8, 1, 1, 1] hcV5 hcR5 (by simp [len_encA]) (f := 0) (ty := 60) (agg := true) (size := 11) (rs := [encA .u8 ((getI l1 x3).f1), [.int .i64 ((getI l1 x3).f2)], [.int .i64 ((getI l1 x3).f3)], [.int .i64 ((getI l1 x3).f4)]]) (v := AG [encA .u8 ((getI l1 x3).f1), [.int .i64 ((getI l1 x3).f2)], [.int .i64 ((getI l1 x3).f3)], [.int .i64 ((getI l1 x3).f4)]]) (by kernel_rfl) (by kernel_rfl) (by kernel_rfl) (by kernel_rfl) ?_
        refine WP.done (by kernel_rfl) (Shown.ok (v := AG [encA .u8 ((getI l1 x3).f1), [.int .i64 ((getI l1 x3).f2)], [.int .i64 ((getI l1 x3).f3)], [.int .i64 ((getI l1 x3).f4)]]) (by kernel_rfl) (Step.refl _ _) ?_)
        exact ⟨trivial, trivial, trivial, trivial, trivial, trivial, rfl, trivial, trivial, trivial, trivial, trivial⟩
      · intro vs gq stq hl hf
        replace hl : vs.length = 7 := hl
        obtain ⟨v0, vs0, rfl, hl0⟩ := len_succ hl
        obtain ⟨v1, vs1, rfl, hl1⟩ := len_succ hl0
        obtain ⟨v2, vs2, rfl, hl2⟩ := len_succ hl1
        obtain ⟨v3, vs3, rfl, hl3⟩ := len_succ hl2
        obtain ⟨v4, vs4, rfl, hl4⟩ := len_succ hl3
        obtain ⟨v5, vs5, rfl, hl5⟩ := len_succ hl4
        obtain ⟨v6, vs6, rfl, hl6⟩ := len_succ hl5
        obtain rfl := len_zero hl6
        have hB2 := (show Box gq (t + 2) b2 26 [encA .u8 d3, [.int .i64 x2], encA .i64 d4, [.slice a2 n2 c2]] [8, 1, 2, 1] from hf _ (List.mem_of_getElem? (i := 2) rfl) (by kernel_rfl))
        refine WP.loadB (v := .slice a2 n2 c2) hB2 (by kernel_rfl) (by kernel_rfl) ?_
        refine WP.done (by kernel_rfl) (Shown.ok (v := .slice a2 n2 c2) (by kernel_rfl) (Step.refl _ _) ?_)
        exact ⟨trivial, trivial, trivial, trivial, trivial, trivial, trivial, rfl, trivial, trivial, trivial, trivial⟩
      · intro vs gq stq hl hf
        replace hl : vs.length = 7 := hl
        obtain ⟨v0, vs0, rfl, hl0⟩ := len_succ hl
        obtain ⟨v1, vs1, rfl, hl1⟩ := len_succ hl0
        obtain ⟨v2, vs2, rfl, hl2⟩ := len_succ hl1
        obtain ⟨v3, vs3, rfl, hl3⟩ := len_succ hl2
        obtain ⟨v4, vs4, rfl, hl4⟩ := len_succ hl3
        obtain ⟨v5, vs5, rfl, hl5⟩ := len_succ hl4
        obtain ⟨v6, vs6, rfl, hl6⟩ := len_succ hl5
        obtain rfl := len_zero hl6
        have hR2 := (show RdS k_S_baizeref47_Held gq 60 a2 n2 c2 l2 from hf _ (List.mem_of_getElem? (i := 3) rfl) (by kernel_rfl))
        have e3 := (show v3 = .slice a2 n2 c2 from hf _ (List.mem_of_getElem? (i := 7) rfl) (by kernel_rfl))
        subst e3
        refine WP.indexA (t := 24) (e := 60) (sz := 11) (cap := c2) (k := .i64) (i := x3) hR2.len ha6 (by kernel_rfl) (by kernel_rfl) hc6 ?_
        refine WP.done (by kernel_rfl) (Shown.ok (v := .pointer (some ⟨b8, u6 + x3.toNat * 11, none⟩)) (by kernel_rfl) (Step.refl _ _) ?_)
        exact ⟨trivial, trivial, trivial, trivial, trivial, trivial, trivial, trivial, rfl, trivial, trivial, trivial⟩
      · intro vs gq stq hl hf
        replace hl : vs.length = 7 := hl
        obtain ⟨v0, vs0, rfl, hl0⟩ := len_succ hl
        obtain ⟨v1, vs1, rfl, hl1⟩ := len_succ hl0
        obtain ⟨v2, vs2, rfl, hl2⟩ := len_succ hl1
        obtain ⟨v3, vs3, rfl, hl3⟩ := len_succ hl2
        obtain ⟨v4, vs4, rfl, hl4⟩ := len_succ hl3
        obtain ⟨v5, vs5, rfl, hl5⟩ := len_succ hl4
        obtain ⟨v6, vs6, rfl, hl6⟩ := len_succ hl5
        obtain rfl := len_zero hl6
        have hR2 := (show RdS k_S_baizeref47_Held gq 60 a2 n2 c2 l2 from hf _ (List.mem_of_getElem? (i := 3) rfl) (by kernel_rfl))
        have e4 := (show v4 = .pointer (some ⟨b8, u6 + x3.toNat * 11, none⟩) from hf _ (List.mem_of_getElem? (i := 8) rfl) (by kernel_rfl))
        subst e4
        obtain ⟨cs6, hcR6, hcV6⟩ := hR2.src.view (getI_some hc6) ha6
        replace hcR6 := k_S_baizeref47_Held.opn hcR6
        refine WP.loadV [encA .u8 ((getI l2 x3).f1), [.int .i64 ((getI l2 x3).f2)], [.int .i64 ((getI l2 x3).f3)], [.int .i64 ((getI l2 x3).f4)]] [8, 1, 1, 1] hcV6 hcR6 (by simp [len_encA]) (f := 0) (ty := 60) (agg := true) (size := 11) (rs := [encA .u8 ((getI l2 x3).f1), [.int .i64 ((getI l2 x3).f2)], [.int .i64 ((getI l2 x3).f3)], [.int .i64 ((getI l2 x3).f4)]]) (v := AG [encA .u8 ((getI l2 x3).f1), [.int .i64 ((getI l2 x3).f2)], [.int .i64 ((getI l2 x3).f3)], [.int .i64 ((getI l2 x3).f4)]]) (by kernel_rfl) (by kernel_rfl) (by kernel_rfl) (by kernel_rfl) ?_
        refine WP.done (by kernel_rfl) (Shown.ok (v := AG [encA .u8 ((getI l2 x3).f1), [.int .i64 ((getI l2 x3).f2)], [.int .i64 ((getI l2 x3).f3)], [.int .i64 ((getI l2 x3).f4)]]) (by kernel_rfl) (Step.refl _ _) ?_)
        exact ⟨trivial, trivial, trivial, trivial, trivial, trivial, trivial, trivial, trivial, rfl, trivial, trivial⟩
      · intro vs gq stq hl hf
        replace hl : vs.length = 7 := hl
        obtain ⟨v0, vs0, rfl, hl0⟩ := len_succ hl
        obtain ⟨v1, vs1, rfl, hl1⟩ := len_succ hl0
        obtain ⟨v2, vs2, rfl, hl2⟩ := len_succ hl1
        obtain ⟨v3, vs3, rfl, hl3⟩ := len_succ hl2
        obtain ⟨v4, vs4, rfl, hl4⟩ := len_succ hl3
        obtain ⟨v5, vs5, rfl, hl5⟩ := len_succ hl4
        obtain ⟨v6, vs6, rfl, hl6⟩ := len_succ hl5
        obtain rfl := len_zero hl6
        have e2 := (show v2 = AG [encA .u8 ((getI l1 x3).f1), [.int .i64 ((getI l1 x3).f2)], [.int .i64 ((getI l1 x3).f3)], [.int .i64 ((getI l1 x3).f4)]] from hf _ (List.mem_of_getElem? (i := 6) rfl) (by kernel_rfl))
        subst e2
        have e5 := (show v5 = AG [encA .u8 ((getI l2 x3).f1), [.int .i64 ((getI l2 x3).f2)], [.int .i64 ((getI l2 x3).f3)], [.int .i64 ((getI l2 x3).f4)]] from hf _ (List.mem_of_getElem? (i := 9) rfl) (by kernel_rfl))
        subst e5
        refine WP.neV (by kernel_rfl) (by kernel_rfl) (EqV.struct (d := 9999) (t := 60) (xs := [encA .u8 ((getI l1 x3).f1), [.int .i64 ((getI l1 x3).f2)], [.int .i64 ((getI l1 x3).f3)], [.int .i64 ((getI l1 x3).f4)]]) (ys := [encA .u8 ((getI l2 x3).f1), [.int .i64 ((getI l2 x3).f2)], [.int .i64 ((getI l2 x3).f3)], [.int .i64 ((getI l2 x3).f4)]]) (by kernel_rfl) (by kernel_rfl) (EqFi.cons (ns := [8, 1, 1, 1]) (ms := [8, 1, 1, 1]) (t' := 22) (x := AG [encA .u8 ((getI l1 x3).f1)]) (y := AG [encA .u8 ((getI l2 x3).f1)]) (by simp [len_encA]) (by simp [len_encA]) (by kernel_rfl) (by kernel_rfl) (EqV.arr (d := 9997) (t := 22) (e := 5) (m := 8) (k := .u8) (x := (getI l1 x3).f1) (y := (getI l2 x3).f1) (by kernel_rfl) (by kernel_rfl)) (EqFi.cons (ns := [8, 1, 1, 1]) (ms := [8, 1, 1, 1]) (t' := 3) (x := .int .i64 ((getI l1 x3).f2)) (y := .int .i64 ((getI l2 x3).f2)) (by simp [len_encA]) (by simp [len_encA]) (by kernel_rfl) (by kernel_rfl) (EqV.int (d := 9998) (k' := .i64) (by kernel_rfl)) (EqFi.cons (ns := [8, 1, 1, 1]) (ms := [8, 1, 1, 1]) (t' := 3) (x := .int .i64 ((getI l1 x3).f3)) (y := .int .i64 ((getI l2 x3).f3)) (by simp [len_encA]) (by simp [len_encA]) (by kernel_rfl) (by kernel_rfl) (EqV.int (d := 9998) (k' := .i64) (by kernel_rfl)) (EqFi.one (ns := [8, 1, 1, 1]) (ms := [8, 1, 1, 1]) (t' := 3) (x := .int .i64 ((getI l1 x3).f4)) (y := .int .i64 ((getI l2 x3).f4)) (by simp [len_encA]) (by simp [len_encA]) (by kernel_rfl) (by kernel_rfl) (EqV.int (d := 9998) (k' := .i64) (by kernel_rfl)) (Nat.le_of_ble_eq_true rfl)))))) ?_
        refine WP.done (by kernel_rfl) (Shown.ok (v := .bool (!((((getI l1 x3).f1).1 == ((getI l2 x3).f1).1) && ((((getI l1 x3).f2) == ((getI l2 x3).f2)) && ((((getI l1 x3).f3) == ((getI l2 x3).f3)) && (((getI l1 x3).f4) == ((getI l2 x3).f4))))))) (by kernel_rfl) (Step.refl _ _) ?_)
        exact ⟨trivial, trivial, trivial, trivial, trivial, trivial, trivial, trivial, trivial, trivial, rfl, trivial⟩
    intro vs g3 st3 hl hf
    replace hl : vs.length = 7 := hl
    obtain ⟨v0, vs0, rfl, hl0⟩ := len_succ hl
    obtain ⟨v1, vs1, rfl, hl1⟩ := len_succ hl0
    obtain ⟨v2, vs2, rfl, hl2⟩ := len_succ hl1
    obtain ⟨v3, vs3, rfl, hl3⟩ := len_succ hl2
    obtain ⟨v4, vs4, rfl, hl4⟩ := len_succ hl3
    obtain ⟨v5, vs5, rfl, hl5⟩ := len_succ hl4
    obtain ⟨v6, vs6, rfl, hl6⟩ := len_succ hl5
    obtain rfl := len_zero hl6
    have e6 := (show v6 = .bool (!((((getI l1 x3).f1).1 == ((getI l2 x3).f1).1) && ((((getI l1 x3).f2) == ((getI l2 x3).f2)) && ((((getI l1 x3).f3) == ((getI l2 x3).f3)) && (((getI l1 x3).f4) == ((getI l2 x3).f4)))))) from hf _ (List.mem_of_getElem? (i := 10) rfl) (by kernel_rfl))
    subst e6
    replace hB1 := hB1.mono st3.toNo (fun x => x)
    replace hR1 := hR1.mono st3.toNo (fun x => x)
    replace hB2 := hB2.mono st3.toNo (fun x => x)
    replace hR2 := hR2.mono st3.toNo (fun x => x)
    replace tot := tot.trans st3.toNo.pure
    refine NX.then_n ?_
    refine CP.refr 52 [(2, .pointer (some ⟨b1, 0, none⟩)), (3, .pointer (some ⟨b2, 0, none⟩)), (5, .int .i64 x3), (51, .bool (!((((getI l1 x3).f1).1 == ((getI l2 x3).f1).1) && ((((getI l1 x3).f2) == ((getI l2 x3).f2)) && ((((getI l1 x3).f3) == ((getI l2 x3).f3)) && (((getI l1 x3).f4) == ((getI l2 x3).f4)))))))] (by kernel_rfl) (by kernel_rfl) ?_
    clear ds
    intro ds
    refine CP.cond (b := (!((((getI l1 x3).f1).1 == ((getI l2 x3).f1).1) && ((((getI l1 x3).f2) == ((getI l2 x3).f2)) && ((((getI l1 x3).f3) == ((getI l2 x3).f3)) && (((getI l1 x3).f4) == ((getI l2 x3).f4))))))) (by kernel_rfl) (fun h10 => ?_) (fun h10 => ?_)
    · replace hs := of_if_t hs h10
      refine CP.seqR ?_
      refine WP.still 1 (by kernel_rfl) ?_
      refine WP.done (by kernel_rfl) ?_
      refine NX.then_n ?_
      refine CP.ret ?_
      refine NX.block_r ?_
      refine NX.then_r ?_
      refine NX.then_r ?_
      refine NX.block_r ?_
      refine NX.then_r ?_
      replace hs := Option.some.inj hs
      obtain rfl := hs
      exact NX.fin (v := .bool false) (Res.still (by kernel_rfl)) tot htL rfl
    replace hs := of_if_f hs h10
    refine CP.skip ?_
    refine NX.block_n ?_
    refine NX.then_n ?_
    refine CP.region ?_
    refine WP.still 3 (by kernel_rfl) ?_
    refine WP.done (by kernel_rfl) ?_
    refine NX.post ?_
    exact ⟨(IntKind.i64.wrap (x3 + 1)), ⟨by kernel_rfl, by kernel_rfl⟩, tot, hB1, hR1, hB2, hR2, hs⟩
  replace hs := of_if_f hs h9
  refine CP.exit ?_
  refine NX.then_e ?_
  refine NX.then_e ?_
  refine NX.block_s ?_
  refine NX.then_n ?_
  refine CP.seqR ?_
  refine WP.still 1 (by kernel_rfl) ?_
  refine WP.done (by kernel_rfl) ?_
  refine NX.then_n ?_
  refine CP.ret ?_
  replace hs := Option.some.inj hs
  obtain rfl := hs
  exact NX.fin (v := .bool true) (Res.still (by kernel_rfl)) tot htL rfl
def F.baizelaw47_PurseActs.c2 (nx1 : (Arr Int 8) → Int → (Arr Int 2) → (List S_baizeref47_Held) → (Arr Int 8) → Int → (Arr Int 2) → (List S_purse_Held) → Int → Option (Bool)) (x14 : Int) (d41 : Arr Int 8) (x30 : Int) (d42 : Arr Int 2) (l22 : List S_baizeref47_Held) (d43 : Arr Int 8) (x31 : Int) (d44 : Arr Int 2) (l23 : List S_purse_Held) : Option (Bool) := (nx1 d41 x30 d42 l22 d43 x31 d44 l23 (IntKind.i64.wrap (x14 + 1)))
def N.baizelaw47_PurseActs_0 : List (List Nat) := [[], [], [], [1, 2], [1, 2, 3], [0, 1, 2, 3, 4], [0, 1, 2, 3, 4, 5], [0, 1, 2, 3, 4, 5, 6], [0, 1, 2, 3, 4, 5, 6], [], [0, 1, 2, 3, 4, 5, 6, 7, 9], [0, 1, 2, 3, 4, 5, 6, 7, 8, 9, 10]]
def F.baizelaw47_PurseActs.c3 (nx1 : (Arr Int 8) → Int → (Arr Int 2) → (List S_baizeref47_Held) → (Arr Int 8) → Int → (Arr Int 2) → (List S_purse_Held) → Int → Option (Bool)) (d17 : Arr Int 8) (x12 : Int) (d18 : Arr Int 2) (l10 : List S_baizeref47_Held) (d19 : Arr Int 8) (x13 : Int) (d20 : Arr Int 2) (l11 : List S_purse_Held) (x14 : Int) (d45 : Arr Int 8) (x32 : Int) (d46 : Arr Int 2) (l24 : List S_purse_Held) (d47 : Arr Int 8) (x34 : Int) (d48 : Arr Int 2) (l25 : List S_baizeref47_Held) (x35 : Int) (q13 : Bool) : Option (Bool) := (if q13 = true then (some false) else (if (x35 == 0) = true then (F.baizelaw47_PurseActs.c2 nx1 x14 d47 x34 d48 l25 d45 x32 d46 l24) else (F.baizelaw47_PurseActs.c2 nx1 x14 d17 x12 d18 l10 d19 x13 d20 l11)))
def N.baizelaw47_PurseActs_1 : List (List Nat) := [[], [], [0, 1], [0, 1, 2], [0, 1, 2, 3], [0, 1, 2, 3, 4], [0, 1, 2, 3], [0, 1, 2, 3, 4, 5, 6], [0, 1, 2, 3, 4, 5, 6, 7], [0, 1, 2, 3, 4, 5, 6, 7, 8]]
def F.baizelaw47_PurseActs.l1 (l2 : List S_baizelaw47_Deed) : Nat → (Arr Int 8) → Int → (Arr Int 2) → (List S_baizeref47_Held) → (Arr Int 8) → Int → (Arr Int 2) → (List S_purse_Held) → Int → Option (Bool)
  | 0, _, _, _, _, _, _, _, _, _ => none
  | k + 1, d17, x12, d18, l10, d19, x13, d20, l11, x14 => (if decide (x14 < (l2.length : Int)) = true then (if (0 : Int) ≤ x14 ∧ x14 < (l2.length : Int) then ((F.baizelaw47_do d19 x13 d20 l11 ((getI l2 x14).f1) ((getI l2 x14).f2) ((getI l2 x14).f3) ((getI l2 x14).f4) ((getI l2 x14).f5)).bind fun (d45, x32, d46, l24, x33) => (if (0 : Int) ≤ x14 ∧ x14 < (l2.length : Int) then ((F.baizelaw47_want d17 x12 d18 l10 ((getI l2 x14).f1) ((getI l2 x14).f2) ((getI l2 x14).f3) ((getI l2 x14).f4) ((getI l2 x14).f5)).bind fun (d47, x34, d48, l25, x35) => (if (x33 != x35) = true then (F.baizelaw47_PurseActs.c3 (F.baizelaw47_PurseActs.l1 l2 k) d17 x12 d18 l10 d19 x13 d20 l11 x14 d45 x32 d46 l24 d47 x34 d48 l25 x35 true) else ((F.baizelaw47_Back d45 x32 d46 l24).bind fun (d51, x37, d52, l27) => ((F.baizeref47_Same d51 x37 d52 l27 d47 x34 d48 l25).bind fun q14 => (F.baizelaw47_PurseActs.c3 (F.baizelaw47_PurseActs.l1 l2 k) d17 x12 d18 l10 d19 x13 d20 l11 x14 d45 x32 d46 l24 d47 x34 d48 l25 x35 (!q14)))))) else none)) else none) else ((F.baizelaw47_told).bind fun q15 => (some q15)))
def F.baizelaw47_PurseActs.c1 (d1 : Arr Int 8) (x1 : Int) (d2 : Arr Int 2) (l1 : List S_baizeref47_Held) (l2 : List S_baizelaw47_Deed) (q2 : Bool) : Option (Bool) := (if q2 = true then ((F.baizelaw47_told).bind fun q3 => (some q3)) else ((F.baizelaw47_Own d1 x1 d2 l1).bind fun (d3, x2, d4, l3) => (F.baizelaw47_PurseActs.l1 l2 fuel d1 x1 d2 l1 d3 x2 d4 l3 0)))
def F.baizelaw47_PurseActs (d1 : Arr Int 8) (x1 : Int) (d2 : Arr Int 2) (l1 : List S_baizeref47_Held) (l2 : List S_baizelaw47_Deed) : Option (Bool) := ((F.baizelaw47_great d1 x1 d2 l1).bind fun q16 => (if q16 = true then (F.baizelaw47_PurseActs.c1 d1 x1 d2 l1 l2 true) else (F.baizelaw47_PurseActs.c1 d1 x1 d2 l1 l2 (decide ((l2.length : Int) > 40)))))
theorem P.baizelaw47_PurseActs (g0 : GW) (d1 : Arr Int 8) (x1 : Int) (d2 : Arr Int 2) (l1 : List S_baizeref47_Held) (l2 : List S_baizelaw47_Deed) (a1 : Option Addr) (n1 : Nat) (c1 : Nat) (a2 : Option Addr) (n2 : Nat) (c2 : Nat) (hR1 : RdS k_S_baizeref47_Held g0 60 a1 n1 c1 l1) (hR2 : RdS k_S_baizelaw47_Deed g0 43 a2 n2 c2 l2) (o1 : Bool) (hs : F.baizelaw47_PurseActs d1 x1 d2 l1 l2 = some o1) :
    Calls Try.prog 4 #[AG [encA .u8 d1, [.int .i64 x1], encA .i64 d2, [.slice a1 n1 c1]], .slice a2 n2 c2] g0.w (Ret NoM g0 fun v g => v = .bool o1) := by
  refine calls_of (args := [AG [encA .u8 d1, [.int .i64 x1], encA .i64 d2, [.slice a1 n1 c1]], .slice a2 n2 c2]) Try.func4 rfl (0) ?_
  intro t ht htL
  refine ⟨_, rfl, ?_⟩
  refine CP.refr 60 [(0, AG [encA .u8 d1, [.int .i64 x1], encA .i64 d2, [.slice a1 n1 c1]]), (1, .slice a2 n2 c2)] (by kernel_rfl) (by kernel_rfl) ?_
  intro ds
  have tot : Step (fun l => NoM l ∨ t ≤ l) g0 g0 := Step.refl _ _
  unfold F.baizelaw47_PurseActs at hs
  refine CP.seqR ?_
  refine WP.alloc (T := 26) (t + 1) [encA .u8 d1, [.int .i64 x1], encA .i64 d2, [.slice a1 n1 c1]] [8, 1, 2, 1] (by kernel_rfl) (by simp [len_encA]) ?_
  intro g1 b1 st1 hB1
  replace hR1 := hR1.mono st1 (fun x => x)
  replace hR2 := hR2.mono st1 (fun x => x)
  replace tot := tot.trans st1.pure
  refine WP.still 1 (by kernel_rfl) ?_
  refine WP.done (by kernel_rfl) ?_
  refine NX.then_n ?_
  refine CP.seq ?_
  refine CP.cut (fun tm g => ∃ (q2 : Bool), Fr 60 [(1, .slice a2 n2 c2), (2, .pointer (some ⟨b1, 0, none⟩)), (17, .bool q2)] tm ∧ Step (fun l => NoM l ∨ t ≤ l) g0 g ∧ RdS k_S_baizelaw47_Deed g 43 a2 n2 c2 l2 ∧ Box g (t + 1) b1 26 [encA .u8 d1, [.int .i64 x1], encA .i64 d2, [.slice a1 n1 c1]] [8, 1, 2, 1] ∧ RdS k_S_baizeref47_Held g 60 a1 n1 c1 l1 ∧ (F.baizelaw47_PurseActs.c1 d1 x1 d2 l1 l2 q2) = some o1) ?_ ?_
  · refine CP.region ?_
    refine WP.loadB (v := AG [encA .u8 d1, [.int .i64 x1], encA .i64 d2, [.slice a1 n1 c1]]) hB1 (by kernel_rfl) (by kernel_rfl) ?_
    replace hs := Option.bind_eq_some_iff.1 hs
    obtain ⟨q16, hk26, hs⟩ := hs
    have hcal26 := P.baizelaw47_great g1 d1 x1 d2 l1 a1 n1 c1 hR1 q16 hk26
    refine WP.callC hcal26 (by kernel_rfl) ?_
    rintro _ g66 st66 rfl
    replace hR2 := hR2.mono st66 (fun x => x)
    replace hB1 := hB1.mono st66 (fun x => x)
    replace hR1 := hR1.mono st66 (fun x => x)
    replace tot := tot.trans st66.pure
    refine WP.still 1 (by kernel_rfl) ?_
    refine WP.guard 13 (b := q16) (by kernel_rfl) (fun h19 => ?_) (fun h19 => ?_)
    · replace hs := of_if_t hs h19
      refine WP.still 4 (by kernel_rfl) ?_
      refine WP.done (by kernel_rfl) ?_
      refine NX.post ?_
      exact ⟨true, ⟨by kernel_rfl, by kernel_rfl⟩, tot, hR2, hB1, hR1, hs⟩
    replace hs := of_if_f hs h19
    refine WP.still 1 (by kernel_rfl) ?_
    refine WP.len (a := a2) (cp := c2) hR2.len (by kernel_rfl) ?_
    refine WP.still 2 (by kernel_rfl) ?_
    refine WP.done (by kernel_rfl) ?_
    refine NX.post ?_
    exact ⟨decide ((l2.length : Int) > 40), ⟨by kernel_rfl, by kernel_rfl⟩, tot, hR2, hB1, hR1, hs⟩
  clear tot hs hR2 hB1 hR1
  rintro tm g ⟨q2, hF, tot, hR2, hB1, hR1, hs⟩
  clear ds
  obtain ⟨ds, rfl⟩ := hF.open
  clear hF
  unfold F.baizelaw47_PurseActs.c1 at hs
  refine CP.cond (b := q2) (by kernel_rfl) (fun h2 => ?_) (fun h2 => ?_)
  · replace hs := of_if_t hs h2
    refine CP.seqR ?_
    replace hs := Option.bind_eq_some_iff.1 hs
    obtain ⟨q3, hk2, hs⟩ := hs
    have hcal2 := P.baizelaw47_told g q3 hk2
    refine WP.callC hcal2 (by kernel_rfl) ?_
    rintro _ g3 st3 rfl
    replace hR2 := hR2.mono st3 (fun x => x)
    replace hB1 := hB1.mono st3 (fun x => x)
    replace hR1 := hR1.mono st3 (fun x => x)
    replace tot := tot.trans st3.pure
    refine WP.still 1 (by kernel_rfl) ?_
    refine WP.done (by kernel_rfl) ?_
    refine NX.then_n ?_
    refine CP.ret ?_
    refine NX.then_r ?_
    replace hs := Option.some.inj hs
    obtain rfl := hs
    exact NX.fin (v := .bool q3) (Res.still (by kernel_rfl)) tot htL rfl
  replace hs := of_if_f hs h2
  refine CP.skip ?_
  refine NX.then_n ?_
  refine CP.seqR ?_
  refine WP.loadB (v := AG [encA .u8 d1, [.int .i64 x1], encA .i64 d2, [.slice a1 n1 c1]]) hB1 (by kernel_rfl) (by kernel_rfl) ?_
  replace hs := Option.bind_eq_some_iff.1 hs
  obtain ⟨⟨d3, x2, d4, l3⟩, hk3, hs⟩ := hs
  dsimp only at hs
  have hcal3 := P.baizelaw47_Own g (t + 2) d1 x1 d2 l1 a1 n1 c1 hR1 d3 x2 d4 l3 hk3
  refine WP.callC hcal3 (by kernel_rfl) ?_
  rintro _ g4 st4 ⟨a3, n3, c3, rfl, hR3⟩
  replace hR2 := hR2.mono st4 (fun x => x)
  replace hB1 := hB1.mono st4 (fun x => x)
  replace hR1 := hR1.mono st4 (fun x => x)
  replace tot := tot.trans st4.pure
  refine WP.alloc (T := 32) (t + 3) [encA .u8 (zA 8), [.int .i64 0], encA .i64 (zA 2), [.slice none 0 0]] [8, 1, 2, 1] (by kernel_rfl) (by simp [len_encA]) ?_
  intro g5 b2 st5 hB2
  replace hR2 := hR2.mono st5 (fun x => x)
  replace hB1 := hB1.mono st5 (fun x => x)
  replace hR1 := hR1.mono st5 (fun x => x)
  replace hR3 := hR3.mono st5 (fun x => x) (fun x => x)
  replace tot := tot.trans st5.pure
  refine WP.storeB (ty := 32) (off := 0) (v := AG [encA .u8 d3, [.int .i64 x2], encA .i64 d4, [.slice a3 n3 c3]]) hB2 [encA .u8 d3, [.int .i64 x2], encA .i64 d4, [.slice a3 n3 c3]] [8, 1, 2, 1] (by kernel_rfl) (by kernel_rfl) (by simp [len_encA]) (by kernel_rfl) [encA .u8 d3, [.int .i64 x2], encA .i64 d4, [.slice a3 n3 c3]] (by kernel_rfl) (.arr (.one rfl (.arr (.one rfl .nil)))) ?_
  intro g6 st6 hB3
  replace hR2 := hR2.mono st6 (WL.no1 (by omega))
  replace hB1 := hB1.mono st6 (WL.no1 (by omega))
  replace hR1 := hR1.mono st6 (WL.no1 (by omega))
  replace hR3 := hR3.mono st6 (WL.no1 (by omega)) (WL.no1 (by omega))
  replace tot := tot.trans (st6.up1 (.inr (by omega)))
  clear hB2
  have hB2 := hB3
  clear hB3
  refine WP.done (by kernel_rfl) ?_
  refine NX.then_n ?_
  refine CP.seq ?_
  refine CP.seqR ?_
  refine WP.still 1 (by kernel_rfl) ?_
  refine WP.done (by kernel_rfl) ?_
  refine NX.then_n ?_
  refine CP.block ?_
  obtain ⟨g65, hw3, st65, hnew⟩ := hR3.freeze (by omega)
  refine CP.regw hw3 ?_
  replace hR2 := hR2.mono st65 (WL.no1 (by omega))
  replace hB1 := hB1.mono st65 (WL.no1 (by omega))
  replace hR1 := hR1.mono st65 (WL.no1 (by omega))
  replace hB2 := hB2.mono st65 (WL.no1 (by omega))
  replace tot := tot.trans (st65.up1 (.inr (by omega)))
  clear hR3
  have hR3 := hnew
  clear hnew
  generalize fuel = k1 at hs
  refine CP.loop (fun k1 tm g => ∃ (d17 : Arr Int 8) (x12 : Int) (d18 : Arr Int 2) (l10 : List S_baizeref47_Held) (a10 : Option Addr) (n10 : Nat) (c10 : Nat) (d19 : Arr Int 8) (x13 : Int) (d20 : Arr Int 2) (l11 : List S_purse_Held) (a11 : Option Addr) (n11 : Nat) (c11 : Nat) (x14 : Int), Fr 60 [(1, .slice a2 n2 c2), (2, .pointer (some ⟨b1, 0, none⟩)), (5, .pointer (some ⟨b2, 0, none⟩)), (6, .int .i64 x14)] tm ∧ Step (fun l => NoM l ∨ t ≤ l) g0 g ∧ RdS k_S_baizelaw47_Deed g 43 a2 n2 c2 l2 ∧ Box g (t + 1) b1 26 [encA .u8 d17, [.int .i64 x12], encA .i64 d18, [.slice a10 n10 c10]] [8, 1, 2, 1] ∧ RdS k_S_baizeref47_Held g 60 a10 n10 c10 l10 ∧ Box g (t + 3) b2 32 [encA .u8 d19, [.int .i64 x13], encA .i64 d20, [.slice a11 n11 c11]] [8, 1, 2, 1] ∧ RdS k_S_purse_Held g 56 a11 n11 c11 l11 ∧ F.baizelaw47_PurseActs.l1 l2 k1 d17 x12 d18 l10 d19 x13 d20 l11 x14 = some o1) k1 ?_ ?_ ?_
  · exact ⟨d1, x1, d2, l1, a1, n1, c1, d3, x2, d4, l3, a3, n3, c3, 0, ⟨by kernel_rfl, by kernel_rfl⟩, tot, hR2, hB1, hR1, hB2, hR3, hs⟩
  · rintro tm g ⟨d17, x12, d18, l10, a10, n10, c10, d19, x13, d20, l11, a11, n11, c11, x14, hF, tot, hR2, hB1, hR10, hB2, hR11, hs⟩
    exact absurd hs (by simp [F.baizelaw47_PurseActs.l1])
  clear tot hs hR2 hB1 hR1 hB2 hR3
  rintro k1 tm g ⟨d17, x12, d18, l10, a10, n10, c10, d19, x13, d20, l11, a11, n11, c11, x14, hF, tot, hR2, hB1, hR10, hB2, hR11, hs⟩
  clear ds
  obtain ⟨ds, rfl⟩ := hF.open
  clear hF
  unfold F.baizelaw47_PurseActs.l1 at hs
  refine CP.seq ?_
  refine CP.seqR ?_
  refine WP.still 2 (by kernel_rfl) ?_
  refine WP.len (a := a2) (cp := c2) hR2.len (by kernel_rfl) ?_
  refine WP.still 1 (by kernel_rfl) ?_
  refine WP.done (by kernel_rfl) ?_
  refine NX.then_n ?_
  refine CP.cond (b := decide (x14 < (l2.length : Int))) (by kernel_rfl) (fun h11 => ?_) (fun h11 => ?_)
  · replace hs := of_if_t hs h11
    refine CP.skip ?_
    refine NX.then_n ?_
    refine CP.cut (fun tm g => ∃ (d41 : Arr Int 8) (x30 : Int) (d42 : Arr Int 2) (l22 : List S_baizeref47_Held) (a22 : Option Addr) (n22 : Nat) (c22 : Nat) (d43 : Arr Int 8) (x31 : Int) (d44 : Arr Int 2) (l23 : List S_purse_Held) (a23 : Option Addr) (n23 : Nat) (c23 : Nat), Fr 60 [(1, .slice a2 n2 c2), (2, .pointer (some ⟨b1, 0, none⟩)), (5, .pointer (some ⟨b2, 0, none⟩)), (6, .int .i64 x14)] tm ∧ Step (fun l => NoM l ∨ t ≤ l) g0 g ∧ RdS k_S_baizelaw47_Deed g 43 a2 n2 c2 l2 ∧ Box g (t + 1) b1 26 [encA .u8 d41, [.int .i64 x30], encA .i64 d42, [.slice a22 n22 c22]] [8, 1, 2, 1] ∧ RdS k_S_baizeref47_Held g 60 a22 n22 c22 l22 ∧ Box g (t + 3) b2 32 [encA .u8 d43, [.int .i64 x31], encA .i64 d44, [.slice a23 n23 c23]] [8, 1, 2, 1] ∧ RdS k_S_purse_Held g 56 a23 n23 c23 l23 ∧ (F.baizelaw47_PurseActs.c2 (F.baizelaw47_PurseActs.l1 l2 k1) x14 d41 x30 d42 l22 d43 x31 d44 l23) = some o1) ?_ ?_
    · refine CP.block ?_
      refine CP.seq ?_
      by_cases hc8 : (0 : Int) ≤ x14 ∧ x14 < (l2.length : Int)
      case neg => rw [if_neg hc8] at hs; cases hs
      replace hs := of_if_p hs hc8
      replace hs := Option.bind_eq_some_iff.1 hs
      obtain ⟨⟨d45, x32, d46, l24, x33⟩, hk19, hs⟩ := hs
      dsimp only at hs
      obtain ⟨b16, u8, ha8⟩ := hR2.at hc8
      refine CP.drawL (by kernel_rfl) [0, 3, 4, 5, 9, 10] N.baizelaw47_PurseActs_0 [⟨none, [], [], fun l g => RdS k_S_baizelaw47_Deed g 43 a2 n2 c2 l2⟩, ⟨none, [], [], fun l g => Box g (t + 3) b2 32 [encA .u8 d19, [.int .i64 x13], encA .i64 d20, [.slice a11 n11 c11]] [8, 1, 2, 1]⟩, ⟨none, [], [], fun l g => RdS k_S_purse_Held g 56 a11 n11 c11 l11⟩, ⟨some 0, [], [0], fun l g => l.getD 0 undef = AG [encA .u8 d19, [.int .i64 x13], encA .i64 d20, [.slice a11 n11 c11]]⟩, ⟨some 1, [], [1], fun l g => l.getD 0 undef = .pointer (some ⟨b16, u8 + x14.toNat * 12, none⟩)⟩, ⟨some 2, [], [2], fun l g => l.getD 0 undef = AG [[.int .u8 ((getI l2 x14).f1)], encA .u8 ((getI l2 x14).f2), [.int .i64 ((getI l2 x14).f3)], [.int .i64 ((getI l2 x14).f4)], [.int .i64 ((getI l2 x14).f5)]]⟩, ⟨some 3, [], [3], fun l g => ∃ (a24 : Option Addr) (c24 : Nat), l.getD 0 undef = .tuple #[AG [encA .u8 d45, [.int .i64 x32], encA .i64 d46, [.slice a24 l24.length c24]], .int .i64 x33] ∧ RdS k_S_purse_Held g 56 a24 l24.length c24 l24⟩, ⟨some 4, [0], [4], fun l g => ∃ (b17 : Nat), l.getD 0 undef = .pointer (some ⟨b17, 0, none⟩) ∧ Box g (t + 16) b17 32 [encA .u8 (zA 8), [.int .i64 0], encA .i64 (zA 2), [.slice none 0 0]] [8, 1, 2, 1]⟩, ⟨some 5, [0], [4, 3], fun l g => ∃ (b17 : Nat) (a24 : Option Addr) (c24 : Nat), l.getD 0 undef = .pointer (some ⟨b17, 0, none⟩) ∧ l.getD 1 undef = .tuple #[AG [encA .u8 d45, [.int .i64 x32], encA .i64 d46, [.slice a24 l24.length c24]], .int .i64 x33] ∧ Box g (t + 16) b17 32 [encA .u8 d45, [.int .i64 x32], encA .i64 d46, [.slice a24 l24.length c24]] [8, 1, 2, 1] ∧ RdS k_S_purse_Held g 56 a24 l24.length c24 l24⟩] [[], [], [], [], [], [0]] [(t + 16)] [1, 2] [6, 7, 8, 11] (by kernel_rfl) (by simp <;> omega) (by simp) ⟨fun _ _ _ _ st h0 hl hj hR2 => (RdS.mono (e := 43) hR2 st h0), fun _ _ _ _ st h0 hl hj hB2 => (hB2.mono st (fun h => absurd (hl _ h) (by simp <;> omega))), fun _ _ _ _ st h0 hl hj hR11 => (RdS.mono (e := 56) hR11 st h0), fun _ _ _ _ st h0 hl hj e0 => e0, fun _ _ _ _ st h0 hl hj e1 => e1, fun _ _ _ _ st h0 hl hj e2 => e2, fun _ _ _ _ st h0 hl hj ⟨a24, c24, e3, hR24⟩ => ⟨a24, c24, e3, (RdS.mono (e := 56) hR24 st h0)⟩, fun _ _ _ _ st h0 hl hj ⟨b17, e4, hB22⟩ => ⟨b17, e4, (hB22.mono st (hj 0 (by simp) _ rfl))⟩, fun _ _ _ _ st h0 hl hj ⟨b17, a24, c24, e4, e3, hB22, hR24⟩ => ⟨b17, a24, c24, e4, e3, (hB22.mono st (hj 0 (by simp) _ rfl)), (RdS.mono (e := 56) hR24 st h0)⟩, trivial⟩ ⟨hR2, hB2, hR11, trivial, trivial, trivial, trivial, trivial, trivial, trivial⟩ (by kernel_rfl) (fun vs => by kernel_rfl) ?_ ?_ ?_
      · intro j hj
        have hq : j = 0 ∨ j = 1 ∨ j = 2 ∨ j = 3 := by have h : j < 4 := hj; omega
        rcases hq with rfl | rfl | rfl | rfl
        · intro vs gq stq hl hf
          replace hl : vs.length = 6 := hl
          obtain ⟨v0, vs0, rfl, hl0⟩ := len_succ hl
          obtain ⟨v1, vs1, rfl, hl1⟩ := len_succ hl0
          obtain ⟨v2, vs2, rfl, hl2⟩ := len_succ hl1
          obtain ⟨v3, vs3, rfl, hl3⟩ := len_succ hl2
          obtain ⟨v4, vs4, rfl, hl4⟩ := len_succ hl3
          obtain ⟨v5, vs5, rfl, hl5⟩ := len_succ hl4
          obtain rfl := len_zero hl5
          obtain ⟨a24, c24, e3, hR24⟩ := (show ∃ (a24 : Option Addr) (c24 : Nat), v3 = .tuple #[AG [encA .u8 d45, [.int .i64 x32], encA .i64 d46, [.slice a24 l24.length c24]], .int .i64 x33] ∧ RdS k_S_purse_Held gq 56 a24 l24.length c24 l24 from hf _ (List.mem_of_getElem? (i := 6) rfl) (by kernel_rfl))
          subst e3
          show Option.isSome _ = true
          kernel_rfl
        · intro vs gq stq hl hf
          replace hl : vs.length = 6 := hl
          obtain ⟨v0, vs0, rfl, hl0⟩ := len_succ hl
          obtain ⟨v1, vs1, rfl, hl1⟩ := len_succ hl0
          obtain ⟨v2, vs2, rfl, hl2⟩ := len_succ hl1
          obtain ⟨v3, vs3, rfl, hl3⟩ := len_succ hl2
          obtain ⟨v4, vs4, rfl, hl4⟩ := len_succ hl3
          obtain ⟨v5, vs5, rfl, hl5⟩ := len_succ hl4
          obtain rfl := len_zero hl5
          obtain ⟨a24, c24, e3, hR24⟩ := (show ∃ (a24 : Option Addr) (c24 : Nat), v3 = .tuple #[AG [encA .u8 d45, [.int .i64 x32], encA .i64 d46, [.slice a24 l24.length c24]], .int .i64 x33] ∧ RdS k_S_purse_Held gq 56 a24 l24.length c24 l24 from hf _ (List.mem_of_getElem? (i := 6) rfl) (by kernel_rfl))
          subst e3
          show Option.isSome _ = true
          kernel_rfl
        · intro vs gq stq hl hf
          replace hl : vs.length = 6 := hl
          obtain ⟨v0, vs0, rfl, hl0⟩ := len_succ hl
          obtain ⟨v1, vs1, rfl, hl1⟩ := len_succ hl0
          obtain ⟨v2, vs2, rfl, hl2⟩ := len_succ hl1
          obtain ⟨v3, vs3, rfl, hl3⟩ := len_succ hl2
          obtain ⟨v4, vs4, rfl, hl4⟩ := len_succ hl3
          obtain ⟨v5, vs5, rfl, hl5⟩ := len_succ hl4
          obtain rfl := len_zero hl5
          obtain ⟨a24, c24, e3, hR24⟩ := (show ∃ (a24 : Option Addr) (c24 : Nat), v3 = .tuple #[AG [encA .u8 d45, [.int .i64 x32], encA .i64 d46, [.slice a24 l24.length c24]], .int .i64 x33] ∧ RdS k_S_purse_Held gq 56 a24 l24.length c24 l24 from hf _ (List.mem_of_getElem? (i := 6) rfl) (by kernel_rfl))
          subst e3
          show Option.isSome _ = true
          kernel_rfl
        · intro vs gq stq hl hf
          replace hl : vs.length = 6 := hl
          obtain ⟨v0, vs0, rfl, hl0⟩ := len_succ hl
          obtain ⟨v1, vs1, rfl, hl1⟩ := len_succ hl0
          obtain ⟨v2, vs2, rfl, hl2⟩ := len_succ hl1
          obtain ⟨v3, vs3, rfl, hl3⟩ := len_succ hl2
          obtain ⟨v4, vs4, rfl, hl4⟩ := len_succ hl3
          obtain ⟨v5, vs5, rfl, hl5⟩ := len_succ hl4
          obtain rfl := len_zero hl5
          obtain ⟨b17, a24, c24, e4, e3, hB22, hR24⟩ := (show ∃ (b17 : Nat) (a24 : Option Addr) (c24 : Nat), v4 = .pointer (some ⟨b17, 0, none⟩) ∧ v3 = .tuple #[AG [encA .u8 d45, [.int .i64 x32], encA .i64 d46, [.slice a24 l24.length c24]], .int .i64 x33] ∧ Box gq (t + 16) b17 32 [encA .u8 d45, [.int .i64 x32], encA .i64 d46, [.slice a24 l24.length c24]] [8, 1, 2, 1] ∧ RdS k_S_purse_Held gq 56 a24 l24.length c24 l24 from hf _ (List.mem_of_getElem? (i := 8) rfl) (by kernel_rfl))
          subst e4
          subst e3
          show Option.isSome _ = true
          kernel_rfl
      · intro j hj
        have hq : j = 0 ∨ j = 1 ∨ j = 2 ∨ j = 3 ∨ j = 4 ∨ j = 5 := by have h : j < 6 := hj; omega
        rcases hq with rfl | rfl | rfl | rfl | rfl | rfl
        · intro vs gq stq hl hf
          replace hl : vs.length = 6 := hl
          obtain ⟨v0, vs0, rfl, hl0⟩ := len_succ hl
          obtain ⟨v1, vs1, rfl, hl1⟩ := len_succ hl0
          obtain ⟨v2, vs2, rfl, hl2⟩ := len_succ hl1
          obtain ⟨v3, vs3, rfl, hl3⟩ := len_succ hl2
          obtain ⟨v4, vs4, rfl, hl4⟩ := len_succ hl3
          obtain ⟨v5, vs5, rfl, hl5⟩ := len_succ hl4
          obtain rfl := len_zero hl5
          have hB2 := (show Box gq (t + 3) b2 32 [encA .u8 d19, [.int .i64 x13], encA .i64 d20, [.slice a11 n11 c11]] [8, 1, 2, 1] from hf _ (List.mem_of_getElem? (i := 1) rfl) (by kernel_rfl))
          refine WP.loadB (v := AG [encA .u8 d19, [.int .i64 x13], encA .i64 d20, [.slice a11 n11 c11]]) hB2 (by kernel_rfl) (by kernel_rfl) ?_
          refine WP.done (by kernel_rfl) (Shown.ok (v := AG [encA .u8 d19, [.int .i64 x13], encA .i64 d20, [.slice a11 n11 c11]]) (by kernel_rfl) (Step.refl _ _) ?_)
          exact ⟨trivial, trivial, trivial, rfl, trivial, trivial, trivial, trivial, trivial, trivial⟩
        · intro vs gq stq hl hf
          replace hl : vs.length = 6 := hl
          obtain ⟨v0, vs0, rfl, hl0⟩ := len_succ hl
          obtain ⟨v1, vs1, rfl, hl1⟩ := len_succ hl0
          obtain ⟨v2, vs2, rfl, hl2⟩ := len_succ hl1
          obtain ⟨v3, vs3, rfl, hl3⟩ := len_succ hl2
          obtain ⟨v4, vs4, rfl, hl4⟩ := len_succ hl3
          obtain ⟨v5, vs5, rfl, hl5⟩ := len_succ hl4
          obtain rfl := len_zero hl5
          have hR2 := (show RdS k_S_baizelaw47_Deed gq 43 a2 n2 c2 l2 from hf _ (List.mem_of_getElem? (i := 0) rfl) (by kernel_rfl))
          refine WP.indexA (t := 38) (e := 43) (sz := 12) (cap := c2) (k := .i64) (i := x14) hR2.len ha8 (by kernel_rfl) (by kernel_rfl) hc8 ?_
          refine WP.done (by kernel_rfl) (Shown.ok (v := .pointer (some ⟨b16, u8 + x14.toNat * 12, none⟩)) (by kernel_rfl) (Step.refl _ _) ?_)
          exact ⟨trivial, trivial, trivial, trivial, rfl, trivial, trivial, trivial, trivial, trivial⟩
        · intro vs gq stq hl hf
          replace hl : vs.length = 6 := hl
          obtain ⟨v0, vs0, rfl, hl0⟩ := len_succ hl
          obtain ⟨v1, vs1, rfl, hl1⟩ := len_succ hl0
          obtain ⟨v2, vs2, rfl, hl2⟩ := len_succ hl1
          obtain ⟨v3, vs3, rfl, hl3⟩ := len_succ hl2
          obtain ⟨v4, vs4, rfl, hl4⟩ := len_succ hl3
          obtain ⟨v5, vs5, rfl, hl5⟩ := len_succ hl4
          obtain rfl := len_zero hl5
          have hR2 := (show RdS k_S_baizelaw47_Deed gq 43 a2 n2 c2 l2 from hf _ (List.mem_of_getElem? (i := 0) rfl) (by kernel_rfl))
          have e1 := (show v1 = .pointer (some ⟨b16, u8 + x14.toNat * 12, none⟩) from hf _ (List.mem_of_getElem? (i := 4) rfl) (by kernel_rfl))
          subst e1
          obtain ⟨cs8, hcR8, hcV8⟩ := hR2.src.view (getI_some hc8) ha8
          replace hcR8 := k_S_baizelaw47_Deed.opn hcR8
          refine WP.loadV [[.int .u8 ((getI l2 x14).f1)], encA .u8 ((getI l2 x14).f2), [.int .i64 ((getI l2 x14).f3)], [.int .i64 ((getI l2 x14).f4)], [.int .i64 ((getI l2 x14).f5)]] [1, 8, 1, 1, 1] hcV8 hcR8 (by simp [len_encA]) (f := 0) (ty := 43) (agg := true) (size := 12) (rs := [[.int .u8 ((getI l2 x14).f1)], encA .u8 ((getI l2 x14).f2), [.int .i64 ((getI l2 x14).f3)], [.int .i64 ((getI l2 x14).f4)], [.int .i64 ((getI l2 x14).f5)]]) (v := AG [[.int .u8 ((getI l2 x14).f1)], encA .u8 ((getI l2 x14).f2), [.int .i64 ((getI l2 x14).f3)], [.int .i64 ((getI l2 x14).f4)], [.int .i64 ((getI l2 x14).f5)]]) (by kernel_rfl) (by kernel_rfl) (by kernel_rfl) (by kernel_rfl) ?_
          refine WP.done (by kernel_rfl) (Shown.ok (v := AG [[.int .u8 ((getI l2 x14).f1)], encA .u8 ((getI l2 x14).f2), [.int .i64 ((getI l2 x14).f3)], [.int .i64 ((getI l2 x14).f4)], [.int .i64 ((getI l2 x14).f5)]]) (by kernel_rfl) (Step.refl _ _) ?_)
          exact ⟨trivial, trivial, trivial, trivial, trivial, rfl, trivial, trivial, trivial, trivial⟩
        · intro vs gq stq hl hf
          replace hl : vs.length = 6 := hl
          obtain ⟨v0, vs0, rfl, hl0⟩ := len_succ hl
          obtain ⟨v1, vs1, rfl, hl1⟩ := len_succ hl0
          obtain ⟨v2, vs2, rfl, hl2⟩ := len_succ hl1
          obtain ⟨v3, vs3, rfl, hl3⟩ := len_succ hl2
          obtain ⟨v4, vs4, rfl, hl4⟩ := len_succ hl3
          obtain ⟨v5, vs5, rfl, hl5⟩ := len_succ hl4
          obtain rfl := len_zero hl5
          have hR11 := (show RdS k_S_purse_Held gq 56 a11 n11 c11 l11 from hf _ (List.mem_of_getElem? (i := 2) rfl) (by kernel_rfl))
          have e0 := (show v0 = AG [encA .u8 d19, [.int .i64 x13], encA .i64 d20, [.slice a11 n11 c11]] from hf _ (List.mem_of_getElem? (i := 3) rfl) (by kernel_rfl))
          subst e0
          have e2 := (show v2 = AG [[.int .u8 ((getI l2 x14).f1)], encA .u8 ((getI l2 x14).f2), [.int .i64 ((getI l2 x14).f3)], [.int .i64 ((getI l2 x14).f4)], [.int .i64 ((getI l2 x14).f5)]] from hf _ (List.mem_of_getElem? (i := 5) rfl) (by kernel_rfl))
          subst e2
          have hcal19 := P.baizelaw47_do gq d19 x13 d20 l11 ((getI l2 x14).f1) ((getI l2 x14).f2) ((getI l2 x14).f3) ((getI l2 x14).f4) ((getI l2 x14).f5) a11 n11 c11 hR11 d45 x32 d46 l24 x33 hk19
          refine WP.callC hcal19 (by kernel_rfl) ?_
          rintro _ g44 st44 ⟨a24, n24, c24, rfl, hR24⟩
          obtain rfl := hR24.len
          refine WP.done (by kernel_rfl) (Shown.ok (v := .tuple #[AG [encA .u8 d45, [.int .i64 x32], encA .i64 d46, [.slice a24 l24.length c24]], .int .i64 x33]) (by kernel_rfl) st44.pure ?_)
          exact ⟨trivial, trivial, trivial, trivial, trivial, trivial, ⟨a24, c24, rfl, hR24⟩, trivial, trivial, trivial⟩
        · intro vs gq stq hl hf
          replace hl : vs.length = 6 := hl
          obtain ⟨v0, vs0, rfl, hl0⟩ := len_succ hl
          obtain ⟨v1, vs1, rfl, hl1⟩ := len_succ hl0
          obtain ⟨v2, vs2, rfl, hl2⟩ := len_succ hl1
          obtain ⟨v3, vs3, rfl, hl3⟩ := len_succ hl2
          obtain ⟨v4, vs4, rfl, hl4⟩ := len_succ hl3
          obtain ⟨v5, vs5, rfl, hl5⟩ := len_succ hl4
          obtain rfl := len_zero hl5
          refine WP.alloc (T := 32) (t + 16) [encA .u8 (zA 8), [.int .i64 0], encA .i64 (zA 2), [.slice none 0 0]] [8, 1, 2, 1] (by kernel_rfl) (by simp [len_encA]) ?_
          intro g45 b17 st45 hB22
          refine WP.done (by kernel_rfl) (Shown.ok (v := .pointer (some ⟨b17, 0, none⟩)) (by kernel_rfl) st45.pure ?_)
          exact ⟨trivial, trivial, trivial, trivial, trivial, trivial, trivial, ⟨b17, rfl, hB22⟩, trivial, trivial⟩
        · intro vs gq stq hl hf
          replace hl : vs.length = 6 := hl
          obtain ⟨v0, vs0, rfl, hl0⟩ := len_succ hl
          obtain ⟨v1, vs1, rfl, hl1⟩ := len_succ hl0
          obtain ⟨v2, vs2, rfl, hl2⟩ := len_succ hl1
          obtain ⟨v3, vs3, rfl, hl3⟩ := len_succ hl2
          obtain ⟨v4, vs4, rfl, hl4⟩ := len_succ hl3
          obtain ⟨v5, vs5, rfl, hl5⟩ := len_succ hl4
          obtain rfl := len_zero hl5
          obtain ⟨a24, c24, e3, hR24⟩ := (show ∃ (a24 : Option Addr) (c24 : Nat), v3 = .tuple #[AG [encA .u8 d45, [.int .i64 x32], encA .i64 d46, [.slice a24 l24.length c24]], .int .i64 x33] ∧ RdS k_S_purse_Held gq 56 a24 l24.length c24 l24 from hf _ (List.mem_of_getElem? (i := 6) rfl) (by kernel_rfl))
          subst e3
          obtain ⟨b17, e4, hB22⟩ := (show ∃ (b17 : Nat), v4 = .pointer (some ⟨b17, 0, none⟩) ∧ Box gq (t + 16) b17 32 [encA .u8 (zA 8), [.int .i64 0], encA .i64 (zA 2), [.slice none 0 0]] [8, 1, 2, 1] from hf _ (List.mem_of_getElem? (i := 7) rfl) (by kernel_rfl))
          subst e4
          refine WP.storeB (ty := 32) (off := 0) (v := AG [encA .u8 d45, [.int .i64 x32], encA .i64 d46, [.slice a24 l24.length c24]]) hB22 [encA .u8 d45, [.int .i64 x32], encA .i64 d46, [.slice a24 l24.length c24]] [8, 1, 2, 1] (by kernel_rfl) (by kernel_rfl) (by simp [len_encA]) (by kernel_rfl) [encA .u8 d45, [.int .i64 x32], encA .i64 d46, [.slice a24 l24.length c24]] (by kernel_rfl) (.arr (.one rfl (.arr (.one rfl .nil)))) ?_
          intro g46 st46 hB23
          refine WP.done (by kernel_rfl) (Shown.ok (v := undef) (by kernel_rfl) st46 ?_)
          exact ⟨trivial, trivial, trivial, trivial, trivial, trivial, trivial, trivial, ⟨b17, a24, c24, rfl, rfl, hB23, (hR24.mono st46 (WL.no (by simp <;> omega)))⟩, trivial⟩
      intro vs g47 st47 hl hf
      replace hl : vs.length = 6 := hl
      obtain ⟨v0, vs0, rfl, hl0⟩ := len_succ hl
      obtain ⟨v1, vs1, rfl, hl1⟩ := len_succ hl0
      obtain ⟨v2, vs2, rfl, hl2⟩ := len_succ hl1
      obtain ⟨v3, vs3, rfl, hl3⟩ := len_succ hl2
      obtain ⟨v4, vs4, rfl, hl4⟩ := len_succ hl3
      obtain ⟨v5, vs5, rfl, hl5⟩ := len_succ hl4
      obtain rfl := len_zero hl5
      obtain ⟨b17, a24, c24, e4, e3, hB22, hR24⟩ := (show ∃ (b17 : Nat) (a24 : Option Addr) (c24 : Nat), v4 = .pointer (some ⟨b17, 0, none⟩) ∧ v3 = .tuple #[AG [encA .u8 d45, [.int .i64 x32], encA .i64 d46, [.slice a24 l24.length c24]], .int .i64 x33] ∧ Box g47 (t + 16) b17 32 [encA .u8 d45, [.int .i64 x32], encA .i64 d46, [.slice a24 l24.length c24]] [8, 1, 2, 1] ∧ RdS k_S_purse_Held g47 56 a24 l24.length c24 l24 from hf _ (List.mem_of_getElem? (i := 8) rfl) (by kernel_rfl))
      subst e4
      subst e3
      replace hR2 := hR2.mono st47 (WL.no1 (by omega))
      replace hB1 := hB1.mono st47 (WL.no1 (by omega))
      replace hR10 := hR10.mono st47 (WL.no1 (by omega))
      replace hB2 := hB2.mono st47 (WL.no1 (by omega))
      replace hR11 := hR11.mono st47 (WL.no1 (by omega))
      replace tot := tot.trans (st47.up1 (.inr (by omega)))
      refine NX.then_n ?_
      refine CP.refr 60 [(1, .slice a2 n2 c2), (2, .pointer (some ⟨b1, 0, none⟩)), (5, .pointer (some ⟨b2, 0, none⟩)), (6, .int .i64 x14), (7, .pointer (some ⟨b17, 0, none⟩)), (8, .int .i64 x33)] (by kernel_rfl) (by kernel_rfl) ?_
      clear ds
      intro ds
      refine CP.seq ?_
      by_cases hc9 : (0 : Int) ≤ x14 ∧ x14 < (l2.length : Int)
      case neg => rw [if_neg hc9] at hs; cases hs
      replace hs := of_if_p hs hc9
      replace hs := Option.bind_eq_some_iff.1 hs
      obtain ⟨⟨d47, x34, d48, l25, x35⟩, hk20, hs⟩ := hs
      dsimp only at hs
      obtain ⟨b18, u9, ha9⟩ := hR2.at hc9
      refine CP.drawL (by kernel_rfl) [0, 3, 4, 5, 9, 10] N.baizelaw47_PurseActs_0 [⟨none, [], [], fun l g => RdS k_S_baizelaw47_Deed g 43 a2 n2 c2 l2⟩, ⟨none, [], [], fun l g => Box g (t + 1) b1 26 [encA .u8 d17, [.int .i64 x12], encA .i64 d18, [.slice a10 n10 c10]] [8, 1, 2, 1]⟩, ⟨none, [], [], fun l g => RdS k_S_baizeref47_Held g 60 a10 n10 c10 l10⟩, ⟨some 0, [], [0], fun l g => l.getD 0 undef = AG [encA .u8 d17, [.int .i64 x12], encA .i64 d18, [.slice a10 n10 c10]]⟩, ⟨some 1, [], [1], fun l g => l.getD 0 undef = .pointer (some ⟨b18, u9 + x14.toNat * 12, none⟩)⟩, ⟨some 2, [], [2], fun l g => l.getD 0 undef = AG [[.int .u8 ((getI l2 x14).f1)], encA .u8 ((getI l2 x14).f2), [.int .i64 ((getI l2 x14).f3)], [.int .i64 ((getI l2 x14).f4)], [.int .i64 ((getI l2 x14).f5)]]⟩, ⟨some 3, [], [3], fun l g => ∃ (a25 : Option Addr) (c25 : Nat), l.getD 0 undef = .tuple #[AG [encA .u8 d47, [.int .i64 x34], encA .i64 d48, [.slice a25 l25.length c25]], .int .i64 x35] ∧ OwnS k_S_baizeref47_Held g (t + 17) 60 a25 l25.length c25 l25⟩, ⟨some 4, [0], [4], fun l g => ∃ (b19 : Nat), l.getD 0 undef = .pointer (some ⟨b19, 0, none⟩) ∧ Box g (t + 18) b19 26 [encA .u8 (zA 8), [.int .i64 0], encA .i64 (zA 2), [.slice none 0 0]] [8, 1, 2, 1]⟩, ⟨some 5, [0], [4, 3], fun l g => ∃ (b19 : Nat) (a25 : Option Addr) (c25 : Nat), l.getD 0 undef = .pointer (some ⟨b19, 0, none⟩) ∧ l.getD 1 undef = .tuple #[AG [encA .u8 d47, [.int .i64 x34], encA .i64 d48, [.slice a25 l25.length c25]], .int .i64 x35] ∧ Box g (t + 18) b19 26 [encA .u8 d47, [.int .i64 x34], encA .i64 d48, [.slice a25 l25.length c25]] [8, 1, 2, 1] ∧ OwnS k_S_baizeref47_Held g (t + 17) 60 a25 l25.length c25 l25⟩] [[], [], [], [], [], [0]] [(t + 18)] [1, 2] [6, 7, 8, 11] (by kernel_rfl) (by simp <;> omega) (by simp) ⟨fun _ _ _ _ st h0 hl hj hR2 => (RdS.mono (e := 43) hR2 st h0), fun _ _ _ _ st h0 hl hj hB1 => (hB1.mono st (fun h => absurd (hl _ h) (by simp <;> omega))), fun _ _ _ _ st h0 hl hj hR10 => (RdS.mono (e := 60) hR10 st h0), fun _ _ _ _ st h0 hl hj e0 => e0, fun _ _ _ _ st h0 hl hj e1 => e1, fun _ _ _ _ st h0 hl hj e2 => e2, fun _ _ _ _ st h0 hl hj ⟨a25, c25, e3, hR25⟩ => ⟨a25, c25, e3, (hR25.mono st h0 (fun h => absurd (hl _ h) (by simp <;> omega)))⟩, fun _ _ _ _ st h0 hl hj ⟨b19, e4, hB24⟩ => ⟨b19, e4, (hB24.mono st (hj 0 (by simp) _ rfl))⟩, fun _ _ _ _ st h0 hl hj ⟨b19, a25, c25, e4, e3, hB24, hR25⟩ => ⟨b19, a25, c25, e4, e3, (hB24.mono st (hj 0 (by simp) _ rfl)), (hR25.mono st h0 (fun h => absurd (hl _ h) (by simp <;> omega)))⟩, trivial⟩ ⟨hR2, hB1, hR10, trivial, trivial, trivial, trivial, trivial, trivial, trivial⟩ (by kernel_rfl) (fun vs => by kernel_rfl) ?_ ?_ ?_
      · intro j hj
        have hq : j = 0 ∨ j = 1 ∨ j = 2 ∨ j = 3 := by have h : j < 4 := hj; omega
        rcases hq with rfl | rfl | rfl | rfl
        · intro vs gq stq hl hf
          replace hl : vs.length = 6 := hl
          obtain ⟨v0, vs0, rfl, hl0⟩ := len_succ hl
          obtain ⟨v1, vs1, rfl, hl1⟩ := len_succ hl0
          obtain ⟨v2, vs2, rfl, hl2⟩ := len_succ hl1
          obtain ⟨v3, vs3, rfl, hl3⟩ := len_succ hl2
          obtain ⟨v4, vs4, rfl, hl4⟩ := len_succ hl3
          obtain ⟨v5, vs5, rfl, hl5⟩ := len_succ hl4
          obtain rfl := len_zero hl5
          obtain ⟨a25, c25, e3, hR25⟩ := (show ∃ (a25 : Option Addr) (c25 : Nat), v3 = .tuple #[AG [encA .u8 d47, [.int .i64 x34], encA .i64 d48, [.slice a25 l25.length c25]], .int .i64 x35] ∧ OwnS k_S_baizeref47_Held gq (t + 17) 60 a25 l25.length c25 l25 from hf _ (List.mem_of_getElem? (i := 6) rfl) (by kernel_rfl))
          subst e3
          show Option.isSome _ = true
          kernel_rfl
        · intro vs gq stq hl hf
          replace hl : vs.length = 6 := hl
          obtain ⟨v0, vs0, rfl, hl0⟩ := len_succ hl
          obtain ⟨v1, vs1, rfl, hl1⟩ := len_succ hl0
          obtain ⟨v2, vs2, rfl, hl2⟩ := len_succ hl1
          obtain ⟨v3, vs3, rfl, hl3⟩ := len_succ hl2
          obtain ⟨v4, vs4, rfl, hl4⟩ := len_succ hl3
          obtain ⟨v5, vs5, rfl, hl5⟩ := len_succ hl4
          obtain rfl := len_zero hl5
          obtain ⟨a25, c25, e3, hR25⟩ := (show ∃ (a25 : Option Addr) (c25 : Nat), v3 = .tuple #[AG [encA .u8 d47, [.int .i64 x34], encA .i64 d48, [.slice a25 l25.length c25]], .int .i64 x35] ∧ OwnS k_S_baizeref47_Held gq (t + 17) 60 a25 l25.length c25 l25 from hf _ (List.mem_of_getElem? (i := 6) rfl) (by kernel_rfl))
          subst e3
          show Option.isSome _ = true
          kernel_rfl
        · intro vs gq stq hl hf
          replace hl : vs.length = 6 := hl
          obtain ⟨v0, vs0, rfl, hl0⟩ := len_succ hl
          obtain ⟨v1, vs1, rfl, hl1⟩ := len_succ hl0
          obtain ⟨v2, vs2, rfl, hl2⟩ := len_succ hl1
          obtain ⟨v3, vs3, rfl, hl3⟩ := len_succ hl2
          obtain ⟨v4, vs4, rfl, hl4⟩ := len_succ hl3
          obtain ⟨v5, vs5, rfl, hl5⟩ := len_succ hl4
          obtain rfl := len_zero hl5
          obtain ⟨a25, c25, e3, hR25⟩ := (show ∃ (a25 : Option Addr) (c25 : Nat), v3 = .tuple #[AG [encA .u8 d47, [.int .i64 x34], encA .i64 d48, [.slice a25 l25.length c25]], .int .i64 x35] ∧ OwnS k_S_baizeref47_Held gq (t + 17) 60 a25 l25.length c25 l25 from hf _ (List.mem_of_getElem? (i := 6) rfl) (by kernel_rfl))
          subst e3
          show Option.isSome _ = true
          kernel_rfl
        · intro vs gq stq hl hf
          replace hl : vs.length = 6 := hl
          obtain ⟨v0, vs0, rfl, hl0⟩ := len_succ hl
          obtain ⟨v1, vs1, rfl, hl1⟩ := len_succ hl0
          obtain ⟨v2, vs2, rfl, hl2⟩ := len_succ hl1
          obtain ⟨v3, vs3, rfl, hl3⟩ := len_succ hl2
          obtain ⟨v4, vs4, rfl, hl4⟩ := len_succ hl3
          obtain ⟨v5, vs5, rfl, hl5⟩ := len_succ hl4
          obtain rfl := len_zero hl5
          obtain ⟨b19, a25, c25, e4, e3, hB24, hR25⟩ := (show ∃ (b19 : Nat) (a25 : Option Addr) (c25 : Nat), v4 = .pointer (some ⟨b19, 0, none⟩) ∧ v3 = .tuple #[AG [encA .u8 d47, [.int .i64 x34], encA .i64 d48, [.slice a25 l25.length c25]], .int .i64 x35] ∧ Box gq (t + 18) b19 26 [encA .u8 d47, [.int .i64 x34], encA .i64 d48, [.slice a25 l25.length c25]] [8, 1, 2, 1] ∧ OwnS k_S_baizeref47_Held gq (t + 17) 60 a25 l25.length c25 l25 from hf _ (List.mem_of_getElem? (i := 8) rfl) (by kernel_rfl))
          subst e4
          subst e3
          show Option.isSome _ = true
          kernel_rfl
      · intro j hj
        have hq : j = 0 ∨ j = 1 ∨ j = 2 ∨ j = 3 ∨ j = 4 ∨ j = 5 := by have h : j < 6 := hj; omega
        rcases hq with rfl | rfl | rfl | rfl | rfl | rfl
        · intro vs gq stq hl hf
          replace hl : vs.length = 6 := hl
          obtain ⟨v0, vs0, rfl, hl0⟩ := len_succ hl
          obtain ⟨v1, vs1, rfl, hl1⟩ := len_succ hl0
          obtain ⟨v2, vs2, rfl, hl2⟩ := len_succ hl1
          obtain ⟨v3, vs3, rfl, hl3⟩ := len_succ hl2
          obtain ⟨v4, vs4, rfl, hl4⟩ := len_succ hl3
          obtain ⟨v5, vs5, rfl, hl5⟩ := len_succ hl4
          obtain rfl := len_zero hl5
          have hB1 := (show Box gq (t + 1) b1 26 [encA .u8 d17, [.int .i64 x12], encA .i64 d18, [.slice a10 n10 c10]] [8, 1, 2, 1] from hf _ (List.mem_of_getElem? (i := 1) rfl) (by kernel_rfl))
          refine WP.loadB (v := AG [encA .u8 d17, [.int .i64 x12], encA .i64 d18, [.slice a10 n10 c10]]) hB1 (by kernel_rfl) (by kernel_rfl) ?_
          refine WP.done (by kernel_rfl) (Shown.ok (v := AG [encA .u8 d17, [.int .i64 x12], encA .i64 d18, [.slice a10 n10 c10]]) (by kernel_rfl) (Step.refl _ _) ?_)
          exact ⟨trivial, trivial, trivial, rfl, trivial, trivial, trivial, trivial, trivial, trivial⟩
        · intro vs gq stq hl hf
          replace hl : vs.length = 6 := hl
          obtain ⟨v0, vs0, rfl, hl0⟩ := len_succ hl
          obtain ⟨v1, vs1, rfl, hl1⟩ := len_succ hl0
          obtain ⟨v2, vs2, rfl, hl2⟩ := len_succ hl1
          obtain ⟨v3, vs3, rfl, hl3⟩ := len_succ hl2
          obtain ⟨v4, vs4, rfl, hl4⟩ := len_succ hl3
          obtain ⟨v5, vs5, rfl, hl5⟩ := len_succ hl4
          obtain rfl := len_zero hl5
          have hR2 := (show RdS k_S_baizelaw47_Deed gq 43 a2 n2 c2 l2 from hf _ (List.mem_of_getElem? (i := 0) rfl) (by kernel_rfl))
          refine WP.indexA (t := 38) (e := 43) (sz := 12) (cap := c2) (k := .i64) (i := x14) hR2.len ha9 (by kernel_rfl) (by kernel_rfl) hc9 ?_
          refine WP.done (by kernel_rfl) (Shown.ok (v := .pointer (some ⟨b18, u9 + x14.toNat * 12, none⟩)) (by kernel_rfl) (Step.refl _ _) ?_)
          exact ⟨trivial, trivial, trivial, trivial, rfl, trivial, trivial, trivial, trivial, trivial⟩
        · intro vs gq stq hl hf
          replace hl : vs.length = 6 := hl
          obtain ⟨v0, vs0, rfl, hl0⟩ := len_succ hl
          obtain ⟨v1, vs1, rfl, hl1⟩ := len_succ hl0
          obtain ⟨v2, vs2, rfl, hl2⟩ := len_succ hl1
          obtain ⟨v3, vs3, rfl, hl3⟩ := len_succ hl2
          obtain ⟨v4, vs4, rfl, hl4⟩ := len_succ hl3
          obtain ⟨v5, vs5, rfl, hl5⟩ := len_succ hl4
          obtain rfl := len_zero hl5
          have hR2 := (show RdS k_S_baizelaw47_Deed gq 43 a2 n2 c2 l2 from hf _ (List.mem_of_getElem? (i := 0) rfl) (by kernel_rfl))
          have e1 := (show v1 = .pointer (some ⟨b18, u9 + x14.toNat * 12, none⟩) from hf _ (List.mem_of_getElem? (i := 4) rfl) (by kernel_rfl))
          subst e1
          obtain ⟨cs9, hcR9, hcV9⟩ := hR2.src.view (getI_some hc9) ha9
          replace hcR9 := k_S_baizelaw47_Deed.opn hcR9
          refine WP.loadV [[.int .u8 ((getI l2 x14).f1)], encA .u8 ((getI l2 x14).f2), [.int .i64 ((getI l2 x14).f3)], [.int .i64 ((getI l2 x14).f4)], [.int .i64 ((getI l2 x14).f5)]] [1, 8, 1, 1, 1] hcV9 hcR9 (by simp [len_encA]) (f := 0) (ty := 43) (agg := true) (size := 12) (rs := [[.int .u8 ((getI l2 x14).f1)], encA .u8 ((getI l2 x14).f2), [.int .i64 ((getI l2 x14).f3)], [.int .i64 ((getI l2 x14).f4)], [.int .i64 ((getI l2 x14).f5)]]) (v := AG [[.int .u8 ((getI l2 x14).f1)], encA .u8 ((getI l2 x14).f2), [.int .i64 ((getI l2 x14).f3)], [.int .i64 ((getI l2 x14).f4)], [.int .i64 ((getI l2 x14).f5)]]) (by kernel_rfl) (by kernel_rfl) (by kernel_rfl) (by kernel_rfl) ?_
          refine WP.done (by kernel_rfl) (Shown.ok (v := AG [[.int .u8 ((getI l2 x14).f1)], encA .u8 ((getI l2 x14).f2), [.int .i64 ((getI l2 x14).f3)], [.int .i64 ((getI l2 x14).f4)], [.int .i64 ((getI l2 x14).f5)]]) (by kernel_rfl) (Step.refl _ _) ?_)
          exact ⟨trivial, trivial, trivial, trivial, trivial, rfl, trivial, trivial, trivial, trivial⟩
        · intro vs gq stq hl hf
          replace hl : vs.length = 6 := hl
          obtain ⟨v0, vs0, rfl, hl0⟩ := len_succ hl
          obtain ⟨v1, vs1, rfl, hl1⟩ := len_succ hl0
          obtain ⟨v2, vs2, rfl, hl2⟩ := len_succ hl1
          obtain ⟨v3, vs3, rfl, hl3⟩ := len_succ hl2
          obtain ⟨v4, vs4, rfl, hl4⟩ := len_succ hl3
          obtain ⟨v5, vs5, rfl, hl5⟩ := len_succ hl4
          obtain rfl := len_zero hl5
          have hR10 := (show RdS k_S_baizeref47_Held gq 60 a10 n10 c10 l10 from hf _ (List.mem_of_getElem? (i := 2) rfl) (by kernel_rfl))
          have e0 := (show v0 = AG [encA .u8 d17, [.int .i64 x12], encA .i64 d18, [.slice a10 n10 c10]] from hf _ (List.mem_of_getElem? (i := 3) rfl) (by kernel_rfl))
          subst e0
          have e2 := (show v2 = AG [[.int .u8 ((getI l2 x14).f1)], encA .u8 ((getI l2 x14).f2), [.int .i64 ((getI l2 x14).f3)], [.int .i64 ((getI l2 x14).f4)], [.int .i64 ((getI l2 x14).f5)]] from hf _ (List.mem_of_getElem? (i := 5) rfl) (by kernel_rfl))
          subst e2
          have hcal20 := P.baizelaw47_want gq (t + 17) d17 x12 d18 l10 ((getI l2 x14).f1) ((getI l2 x14).f2) ((getI l2 x14).f3) ((getI l2 x14).f4) ((getI l2 x14).f5) a10 n10 c10 hR10 d47 x34 d48 l25 x35 hk20
          refine WP.callC hcal20 (by kernel_rfl) ?_
          rintro _ g48 st48 ⟨a25, n25, c25, rfl, hR25⟩
          obtain rfl := hR25.len
          refine WP.done (by kernel_rfl) (Shown.ok (v := .tuple #[AG [encA .u8 d47, [.int .i64 x34], encA .i64 d48, [.slice a25 l25.length c25]], .int .i64 x35]) (by kernel_rfl) st48.pure ?_)
          exact ⟨trivial, trivial, trivial, trivial, trivial, trivial, ⟨a25, c25, rfl, hR25⟩, trivial, trivial, trivial⟩
        · intro vs gq stq hl hf
          replace hl : vs.length = 6 := hl
          obtain ⟨v0, vs0, rfl, hl0⟩ := len_succ hl
          obtain ⟨v1, vs1, rfl, hl1⟩ := len_succ hl0
          obtain ⟨v2, vs2, rfl, hl2⟩ := len_succ hl1
          obtain ⟨v3, vs3, rfl, hl3⟩ := len_succ hl2
          obtain ⟨v4, vs4, rfl, hl4⟩ := len_succ hl3
          obtain ⟨v5, vs5, rfl, hl5⟩ := len_succ hl4
          obtain rfl := len_zero hl5
          refine WP.alloc (T := 26) (t + 18) [encA .u8 (zA 8), [.int .i64 0], encA .i64 (zA 2), [.slice none 0 0]] [8, 1, 2, 1] (by kernel_rfl) (by simp [len_encA]) ?_
          intro g49 b19 st49 hB24
          refine WP.done (by kernel_rfl) (Shown.ok (v := .pointer (some ⟨b19, 0, none⟩)) (by kernel_rfl) st49.pure ?_)
          exact ⟨trivial, trivial, trivial, trivial, trivial, trivial, trivial, ⟨b19, rfl, hB24⟩, trivial, trivial⟩
        · intro vs gq stq hl hf
          replace hl : vs.length = 6 := hl
          obtain ⟨v0, vs0, rfl, hl0⟩ := len_succ hl
          obtain ⟨v1, vs1, rfl, hl1⟩ := len_succ hl0
          obtain ⟨v2, vs2, rfl, hl2⟩ := len_succ hl1
          obtain ⟨v3, vs3, rfl, hl3⟩ := len_succ hl2
          obtain ⟨v4, vs4, rfl, hl4⟩ := len_succ hl3
          obtain ⟨v5, vs5, rfl, hl5⟩ := len_succ hl4
          obtain rfl := len_zero hl5
          obtain ⟨a25, c25, e3, hR25⟩ := (show ∃ (a25 : Option Addr) (c25 : Nat), v3 = .tuple #[AG [encA .u8 d47, [.int .i64 x34], encA .i64 d48, [.slice a25 l25.length c25]], .int .i64 x35] ∧ OwnS k_S_baizeref47_Held gq (t + 17) 60 a25 l25.length c25 l25 from hf _ (List.mem_of_getElem? (i := 6) rfl) (by kernel_rfl))
          subst e3
          obtain ⟨b19, e4, hB24⟩ := (show ∃ (b19 : Nat), v4 = .pointer (some ⟨b19, 0, none⟩) ∧ Box gq (t + 18) b19 26 [encA .u8 (zA 8), [.int .i64 0], encA .i64 (zA 2), [.slice none 0 0]] [8, 1, 2, 1] from hf _ (List.mem_of_getElem? (i := 7) rfl) (by kernel_rfl))
          subst e4
          refine WP.storeB (ty := 26) (off := 0) (v := AG [encA .u8 d47, [.int .i64 x34], encA .i64 d48, [.slice a25 l25.length c25]]) hB24 [encA .u8 d47, [.int .i64 x34], encA .i64 d48, [.slice a25 l25.length c25]] [8, 1, 2, 1] (by kernel_rfl) (by kernel_rfl) (by simp [len_encA]) (by kernel_rfl) [encA .u8 d47, [.int .i64 x34], encA .i64 d48, [.slice a25 l25.length c25]] (by kernel_rfl) (.arr (.one rfl (.arr (.one rfl .nil)))) ?_
          intro g50 st50 hB25
          refine WP.done (by kernel_rfl) (Shown.ok (v := undef) (by kernel_rfl) st50 ?_)
          exact ⟨trivial, trivial, trivial, trivial, trivial, trivial, trivial, trivial, ⟨b19, a25, c25, rfl, rfl, hB25, (hR25.mono st50 (WL.no (by simp <;> omega)) (WL.no (by simp <;> omega)))⟩, trivial⟩
      intro vs g51 st51 hl hf
      replace hl : vs.length = 6 := hl
      obtain ⟨v0, vs0, rfl, hl0⟩ := len_succ hl
      obtain ⟨v1, vs1, rfl, hl1⟩ := len_succ hl0
      obtain ⟨v2, vs2, rfl, hl2⟩ := len_succ hl1
      obtain ⟨v3, vs3, rfl, hl3⟩ := len_succ hl2
      obtain ⟨v4, vs4, rfl, hl4⟩ := len_succ hl3
      obtain ⟨v5, vs5, rfl, hl5⟩ := len_succ hl4
      obtain rfl := len_zero hl5
      obtain ⟨b19, a25, c25, e4, e3, hB24, hR25⟩ := (show ∃ (b19 : Nat) (a25 : Option Addr) (c25 : Nat), v4 = .pointer (some ⟨b19, 0, none⟩) ∧ v3 = .tuple #[AG [encA .u8 d47, [.int .i64 x34], encA .i64 d48, [.slice a25 l25.length c25]], .int .i64 x35] ∧ Box g51 (t + 18) b19 26 [encA .u8 d47, [.int .i64 x34], encA .i64 d48, [.slice a25 l25.length c25]] [8, 1, 2, 1] ∧ OwnS k_S_baizeref47_Held g51 (t + 17) 60 a25 l25.length c25 l25 from hf _ (List.mem_of_getElem? (i := 8) rfl) (by kernel_rfl))
      subst e4
      subst e3
      replace hR2 := hR2.mono st51 (WL.no1 (by omega))
      replace hB1 := hB1.mono st51 (WL.no1 (by omega))
      replace hR10 := hR10.mono st51 (WL.no1 (by omega))
      replace hB2 := hB2.mono st51 (WL.no1 (by omega))
      replace hR11 := hR11.mono st51 (WL.no1 (by omega))
      replace hB22 := hB22.mono st51 (WL.no1 (by omega))
      replace hR24 := hR24.mono st51 (WL.no1 (by omega))
      replace tot := tot.trans (st51.up1 (.inr (by omega)))
      refine NX.then_n ?_
      refine CP.refr 60 [(1, .slice a2 n2 c2), (2, .pointer (some ⟨b1, 0, none⟩)), (5, .pointer (some ⟨b2, 0, none⟩)), (6, .int .i64 x14), (7, .pointer (some ⟨b17, 0, none⟩)), (8, .int .i64 x33), (9, .pointer (some ⟨b19, 0, none⟩)), (10, .int .i64 x35)] (by kernel_rfl) (by kernel_rfl) ?_
      clear ds
      intro ds
      refine CP.seq ?_
      refine CP.cut (fun tm g => ∃ (q13 : Bool), Fr 60 [(1, .slice a2 n2 c2), (2, .pointer (some ⟨b1, 0, none⟩)), (5, .pointer (some ⟨b2, 0, none⟩)), (6, .int .i64 x14), (7, .pointer (some ⟨b17, 0, none⟩)), (9, .pointer (some ⟨b19, 0, none⟩)), (10, .int .i64 x35), (54, .bool q13)] tm ∧ Step (fun l => NoM l ∨ t ≤ l) g0 g ∧ RdS k_S_baizelaw47_Deed g 43 a2 n2 c2 l2 ∧ Box g (t + 1) b1 26 [encA .u8 d17, [.int .i64 x12], encA .i64 d18, [.slice a10 n10 c10]] [8, 1, 2, 1] ∧ RdS k_S_baizeref47_Held g 60 a10 n10 c10 l10 ∧ Box g (t + 3) b2 32 [encA .u8 d19, [.int .i64 x13], encA .i64 d20, [.slice a11 n11 c11]] [8, 1, 2, 1] ∧ RdS k_S_purse_Held g 56 a11 n11 c11 l11 ∧ Box g (t + 16) b17 32 [encA .u8 d45, [.int .i64 x32], encA .i64 d46, [.slice a24 l24.length c24]] [8, 1, 2, 1] ∧ RdS k_S_purse_Held g 56 a24 l24.length c24 l24 ∧ Box g (t + 18) b19 26 [encA .u8 d47, [.int .i64 x34], encA .i64 d48, [.slice a25 l25.length c25]] [8, 1, 2, 1] ∧ OwnS k_S_baizeref47_Held g (t + 17) 60 a25 l25.length c25 l25 ∧ (F.baizelaw47_PurseActs.c3 (F.baizelaw47_PurseActs.l1 l2 k1) d17 x12 d18 l10 d19 x13 d20 l11 x14 d45 x32 d46 l24 d47 x34 d48 l25 x35 q13) = some o1) ?_ ?_
      · refine bool_split (b := (x33 != x35)) (fun h18 => ?_) (fun h18 => ?_)
        · replace hs := of_if_t hs h18
          refine CP.drawL (by kernel_rfl) [3] N.baizelaw47_PurseActs_1 [⟨some 0, [], [0], fun l g => l.getD 0 undef = .bool true⟩] [[]] [] [0, 1, 2] [4, 5, 6, 7, 8, 9] (by kernel_rfl) (by simp) (by simp) ⟨fun _ _ _ _ st h0 hl hj e0 => e0, trivial⟩ ⟨trivial, trivial⟩ (by kernel_rfl) (fun vs => by kernel_rfl) ?_ ?_ ?_
          · intro j hj
            have hq : j = 0 ∨ j = 1 ∨ j = 2 ∨ j = 3 ∨ j = 4 ∨ j = 5 := by have h : j < 6 := hj; omega
            rcases hq with rfl | rfl | rfl | rfl | rfl | rfl
            · intro vs gq stq hl hf
              replace hl : vs.length = 1 := hl
              obtain ⟨v0, vs0, rfl, hl0⟩ := len_succ hl
              obtain rfl := len_zero hl0
              have e0 := (show v0 = .bool true from hf _ (List.mem_of_getElem? (i := 0) rfl) (by kernel_rfl))
              subst e0
              show Option.isSome _ = true
              kernel_rfl
            · intro vs gq stq hl hf
              replace hl : vs.length = 1 := hl
              obtain ⟨v0, vs0, rfl, hl0⟩ := len_succ hl
              obtain rfl := len_zero hl0
              have e0 := (show v0 = .bool true from hf _ (List.mem_of_getElem? (i := 0) rfl) (by kernel_rfl))
              subst e0
              show Option.isSome _ = true
              kernel_rfl
            · intro vs gq stq hl hf
              replace hl : vs.length = 1 := hl
              obtain ⟨v0, vs0, rfl, hl0⟩ := len_succ hl
              obtain rfl := len_zero hl0
              have e0 := (show v0 = .bool true from hf _ (List.mem_of_getElem? (i := 0) rfl) (by kernel_rfl))
              subst e0
              show Option.isSome _ = true
              kernel_rfl
            · intro vs gq stq hl hf
              replace hl : vs.length = 1 := hl
              obtain ⟨v0, vs0, rfl, hl0⟩ := len_succ hl
              obtain rfl := len_zero hl0
              have e0 := (show v0 = .bool true from hf _ (List.mem_of_getElem? (i := 0) rfl) (by kernel_rfl))
              subst e0
              show Option.isSome _ = true
              kernel_rfl
            · intro vs gq stq hl hf
              replace hl : vs.length = 1 := hl
              obtain ⟨v0, vs0, rfl, hl0⟩ := len_succ hl
              obtain rfl := len_zero hl0
              have e0 := (show v0 = .bool true from hf _ (List.mem_of_getElem? (i := 0) rfl) (by kernel_rfl))
              subst e0
              show Option.isSome _ = true
              kernel_rfl
            · intro vs gq stq hl hf
              replace hl : vs.length = 1 := hl
              obtain ⟨v0, vs0, rfl, hl0⟩ := len_succ hl
              obtain rfl := len_zero hl0
              have e0 := (show v0 = .bool true from hf _ (List.mem_of_getElem? (i := 0) rfl) (by kernel_rfl))
              subst e0
              show Option.isSome _ = true
              kernel_rfl
          · intro j hj
            have hq : j = 0 := by have h : j < 1 := hj; omega
            rcases hq with rfl
            · intro vs gq stq hl hf
              replace hl : vs.length = 1 := hl
              obtain ⟨v0, vs0, rfl, hl0⟩ := len_succ hl
              obtain rfl := len_zero hl0
              refine WP.still 1 (by kernel_rfl) ?_
              refine WP.done (by kernel_rfl) (Shown.ok (v := .bool (x33 != x35)) (by kernel_rfl) (Step.refl _ _) ?_)
              exact ⟨congrArg Value.bool h18, trivial⟩
          intro vs g59 st59 hl hf
          replace hl : vs.length = 1 := hl
          obtain ⟨v0, vs0, rfl, hl0⟩ := len_succ hl
          obtain rfl := len_zero hl0
          have e0 := (show v0 = .bool true from hf _ (List.mem_of_getElem? (i := 0) rfl) (by kernel_rfl))
          subst e0
          replace hR2 := hR2.mono st59.toNo (fun x => x)
          replace hB1 := hB1.mono st59.toNo (fun x => x)
          replace hR10 := hR10.mono st59.toNo (fun x => x)
          replace hB2 := hB2.mono st59.toNo (fun x => x)
          replace hR11 := hR11.mono st59.toNo (fun x => x)
          replace hB22 := hB22.mono st59.toNo (fun x => x)
          replace hR24 := hR24.mono st59.toNo (fun x => x)
          replace hB24 := hB24.mono st59.toNo (fun x => x)
          replace hR25 := hR25.mono st59.toNo (fun x => x) (fun x => x)
          replace tot := tot.trans st59.toNo.pure
          refine NX.post ?_
          exact ⟨true, ⟨by kernel_rfl, by kernel_rfl⟩, tot, hR2, hB1, hR10, hB2, hR11, hB22, hR24, hB24, hR25, hs⟩
        replace hs := of_if_f hs h18
        replace hs := Option.bind_eq_some_iff.1 hs
        obtain ⟨⟨d51, x37, d52, l27⟩, hk23, hs⟩ := hs
        dsimp only at hs
        replace hs := Option.bind_eq_some_iff.1 hs
        obtain ⟨q14, hk24, hs⟩ := hs
        refine CP.drawL (by kernel_rfl) [3, 4, 5, 6, 7] N.baizelaw47_PurseActs_1 [⟨none, [], [], fun l g => Box g (t + 16) b17 32 [encA .u8 d45, [.int .i64 x32], encA .i64 d46, [.slice a24 l24.length c24]] [8, 1, 2, 1]⟩, ⟨none, [], [], fun l g => RdS k_S_purse_Held g 56 a24 l24.length c24 l24⟩, ⟨none, [], [], fun l g => Box g (t + 18) b19 26 [encA .u8 d47, [.int .i64 x34], encA .i64 d48, [.slice a25 l25.length c25]] [8, 1, 2, 1]⟩, ⟨none, [1], [], fun l g => OwnS k_S_baizeref47_Held g (t + 17) 60 a25 l25.length c25 l25⟩, ⟨some 0, [], [0], fun l g => l.getD 0 undef = .bool false⟩, ⟨some 1, [], [1], fun l g => l.getD 0 undef = AG [encA .u8 d45, [.int .i64 x32], encA .i64 d46, [.slice a24 l24.length c24]]⟩, ⟨some 2, [0], [2], fun l g => ∃ (a27 : Option Addr) (c27 : Nat), l.getD 0 undef = AG [encA .u8 d51, [.int .i64 x37], encA .i64 d52, [.slice a27 l27.length c27]] ∧ OwnS k_S_baizeref47_Held g (t + 20) 60 a27 l27.length c27 l27⟩, ⟨some 3, [], [3], fun l g => l.getD 0 undef = AG [encA .u8 d47, [.int .i64 x34], encA .i64 d48, [.slice a25 l25.length c25]]⟩, ⟨some 4, [], [4], fun l g => l.getD 0 undef = .bool q14⟩, ⟨some 4, [1], [], fun l g => OwnS k_S_baizeref47_Held g (t + 17) 60 a25 l25.length c25 l25⟩, ⟨some 4, [0], [2], fun l g => ∃ (a27 : Option Addr) (c27 : Nat), l.getD 0 undef = AG [encA .u8 d51, [.int .i64 x37], encA .i64 d52, [.slice a27 l27.length c27]] ∧ OwnS k_S_baizeref47_Held g (t + 20) 60 a27 l27.length c27 l27⟩] [[], [], [], [], [0, 1]] [(t + 20), (t + 17)] [0, 1, 2] [8, 9] (by kernel_rfl) (by simp <;> omega) (by simp <;> omega) ⟨fun _ _ _ _ st h0 hl hj hB22 => (hB22.mono st (fun h => absurd (hl _ h) (by simp <;> omega))), fun _ _ _ _ st h0 hl hj hR24 => (RdS.mono (e := 56) hR24 st h0), fun _ _ _ _ st h0 hl hj hB24 => (hB24.mono st (fun h => absurd (hl _ h) (by simp <;> omega))), fun _ _ _ _ st h0 hl hj hR25 => (hR25.mono st h0 (hj 1 (by simp) _ rfl)), fun _ _ _ _ st h0 hl hj e0 => e0, fun _ _ _ _ st h0 hl hj e1 => e1, fun _ _ _ _ st h0 hl hj ⟨a27, c27, e2, hR27⟩ => ⟨a27, c27, e2, (hR27.mono st h0 (hj 0 (by simp) _ rfl))⟩, fun _ _ _ _ st h0 hl hj e3 => e3, fun _ _ _ _ st h0 hl hj e4 => e4, fun _ _ _ _ st h0 hl hj hR25 => (hR25.mono st h0 (hj 1 (by simp) _ rfl)), fun _ _ _ _ st h0 hl hj ⟨a27, c27, e2, hR27⟩ => ⟨a27, c27, e2, (hR27.mono st h0 (hj 0 (by simp) _ rfl))⟩, trivial⟩ ⟨hB22, hR24, hB24, hR25, trivial, trivial, trivial, trivial, trivial, trivial, trivial, trivial⟩ (by kernel_rfl) (fun vs => by kernel_rfl) ?_ ?_ ?_
        · intro j hj
          have hq : j = 0 ∨ j = 1 := by have h : j < 2 := hj; omega
          rcases hq with rfl | rfl
          · intro vs gq stq hl hf
            replace hl : vs.length = 5 := hl
            obtain ⟨v0, vs0, rfl, hl0⟩ := len_succ hl
            obtain ⟨v1, vs1, rfl, hl1⟩ := len_succ hl0
            obtain ⟨v2, vs2, rfl, hl2⟩ := len_succ hl1
            obtain ⟨v3, vs3, rfl, hl3⟩ := len_succ hl2
            obtain ⟨v4, vs4, rfl, hl4⟩ := len_succ hl3
            obtain rfl := len_zero hl4
            have e0 := (show v0 = .bool false from hf _ (List.mem_of_getElem? (i := 4) rfl) (by kernel_rfl))
            subst e0
            have e4 := (show v4 = .bool q14 from hf _ (List.mem_of_getElem? (i := 8) rfl) (by kernel_rfl))
            subst e4
            show Option.isSome _ = true
            kernel_rfl
          · intro vs gq stq hl hf
            replace hl : vs.length = 5 := hl
            obtain ⟨v0, vs0, rfl, hl0⟩ := len_succ hl
            obtain ⟨v1, vs1, rfl, hl1⟩ := len_succ hl0
            obtain ⟨v2, vs2, rfl, hl2⟩ := len_succ hl1
            obtain ⟨v3, vs3, rfl, hl3⟩ := len_succ hl2
            obtain ⟨v4, vs4, rfl, hl4⟩ := len_succ hl3
            obtain rfl := len_zero hl4
            have e0 := (show v0 = .bool false from hf _ (List.mem_of_getElem? (i := 4) rfl) (by kernel_rfl))
            subst e0
            have e4 := (show v4 = .bool q14 from hf _ (List.mem_of_getElem? (i := 8) rfl) (by kernel_rfl))
            subst e4
            show Option.isSome _ = true
            kernel_rfl
        · intro j hj
          have hq : j = 0 ∨ j = 1 ∨ j = 2 ∨ j = 3 ∨ j = 4 := by have h : j < 5 := hj; omega
          rcases hq with rfl | rfl | rfl | rfl | rfl
          · intro vs gq stq hl hf
            replace hl : vs.length = 5 := hl
            obtain ⟨v0, vs0, rfl, hl0⟩ := len_succ hl
            obtain ⟨v1, vs1, rfl, hl1⟩ := len_succ hl0
            obtain ⟨v2, vs2, rfl, hl2⟩ := len_succ hl1
            obtain ⟨v3, vs3, rfl, hl3⟩ := len_succ hl2
            obtain ⟨v4, vs4, rfl, hl4⟩ := len_succ hl3
            obtain rfl := len_zero hl4
            refine WP.still 1 (by kernel_rfl) ?_
            refine WP.done (by kernel_rfl) (Shown.ok (v := .bool (x33 != x35)) (by kernel_rfl) (Step.refl _ _) ?_)
            exact ⟨trivial, trivial, trivial, trivial, congrArg Value.bool h18, trivial, trivial, trivial, trivial, trivial, trivial, trivial⟩
          · intro vs gq stq hl hf
            replace hl : vs.length = 5 := hl
            obtain ⟨v0, vs0, rfl, hl0⟩ := len_succ hl
            obtain ⟨v1, vs1, rfl, hl1⟩ := len_succ hl0
            obtain ⟨v2, vs2, rfl, hl2⟩ := len_succ hl1
            obtain ⟨v3, vs3, rfl, hl3⟩ := len_succ hl2
            obtain ⟨v4, vs4, rfl, hl4⟩ := len_succ hl3
            obtain rfl := len_zero hl4
            have hB22 := (show Box gq (t + 16) b17 32 [encA .u8 d45, [.int .i64 x32], encA .i64 d46, [.slice a24 l24.length c24]] [8, 1, 2, 1] from hf _ (List.mem_of_getElem? (i := 0) rfl) (by kernel_rfl))
            have e0 := (show v0 = .bool false from hf _ (List.mem_of_getElem? (i := 4) rfl) (by kernel_rfl))
            subst e0
            refine WP.loadB (v := AG [encA .u8 d45, [.int .i64 x32], encA .i64 d46, [.slice a24 l24.length c24]]) hB22 (by kernel_rfl) (by kernel_rfl) ?_
            refine WP.done (by kernel_rfl) (Shown.ok (v := AG [encA .u8 d45, [.int .i64 x32], encA .i64 d46, [.slice a24 l24.length c24]]) (by kernel_rfl) (Step.refl _ _) ?_)
            exact ⟨trivial, trivial, trivial, trivial, trivial, rfl, trivial, trivial, trivial, trivial, trivial, trivial⟩
          · intro vs gq stq hl hf
            replace hl : vs.length = 5 := hl
            obtain ⟨v0, vs0, rfl, hl0⟩ := len_succ hl
            obtain ⟨v1, vs1, rfl, hl1⟩ := len_succ hl0
            obtain ⟨v2, vs2, rfl, hl2⟩ := len_succ hl1
            obtain ⟨v3, vs3, rfl, hl3⟩ := len_succ hl2
            obtain ⟨v4, vs4, rfl, hl4⟩ := len_succ hl3
            obtain rfl := len_zero hl4
            have hR24 := (show RdS k_S_purse_Held gq 56 a24 l24.length c24 l24 from hf _ (List.mem_of_getElem? (i := 1) rfl) (by kernel_rfl))
            have e0 := (show v0 = .bool false from hf _ (List.mem_of_getElem? (i := 4) rfl) (by kernel_rfl))
            subst e0
            have e1 := (show v1 = AG [encA .u8 d45, [.int .i64 x32], encA .i64 d46, [.slice a24 l24.length c24]] from hf _ (List.mem_of_getElem? (i := 5) rfl) (by kernel_rfl))
            subst e1
            have hcal23 := P.baizelaw47_Back gq (t + 20) d45 x32 d46 l24 a24 l24.length c24 hR24 d51 x37 d52 l27 hk23
            refine WP.callC hcal23 (by kernel_rfl) ?_
            rintro _ g60 st60 ⟨a27, n27, c27, rfl, hR27⟩
            obtain rfl := hR27.len
            refine WP.done (by kernel_rfl) (Shown.ok (v := AG [encA .u8 d51, [.int .i64 x37], encA .i64 d52, [.slice a27 l27.length c27]]) (by kernel_rfl) st60.pure ?_)
            exact ⟨trivial, trivial, trivial, trivial, trivial, trivial, ⟨a27, c27, rfl, hR27⟩, trivial, trivial, trivial, trivial, trivial⟩
          · intro vs gq stq hl hf
            replace hl : vs.length = 5 := hl
            obtain ⟨v0, vs0, rfl, hl0⟩ := len_succ hl
            obtain ⟨v1, vs1, rfl, hl1⟩ := len_succ hl0
            obtain ⟨v2, vs2, rfl, hl2⟩ := len_succ hl1
            obtain ⟨v3, vs3, rfl, hl3⟩ := len_succ hl2
            obtain ⟨v4, vs4, rfl, hl4⟩ := len_succ hl3
            obtain rfl := len_zero hl4
            have hB24 := (show Box gq (t + 18) b19 26 [encA .u8 d47, [.int .i64 x34], encA .i64 d48, [.slice a25 l25.length c25]] [8, 1, 2, 1] from hf _ (List.mem_of_getElem? (i := 2) rfl) (by kernel_rfl))
            have e0 := (show v0 = .bool false from hf _ (List.mem_of_getElem? (i := 4) rfl) (by kernel_rfl))
            subst e0
            refine WP.loadB (v := AG [encA .u8 d47, [.int .i64 x34], encA .i64 d48, [.slice a25 l25.length c25]]) hB24 (by kernel_rfl) (by kernel_rfl) ?_
            refine WP.done (by kernel_rfl) (Shown.ok (v := AG [encA .u8 d47, [.int .i64 x34], encA .i64 d48, [.slice a25 l25.length c25]]) (by kernel_rfl) (Step.refl _ _) ?_)
            exact ⟨trivial, trivial, trivial, trivial, trivial, trivial, trivial, rfl, trivial, trivial, trivial, trivial⟩
          · intro vs gq stq hl hf
            replace hl : vs.length = 5 := hl
            obtain ⟨v0, vs0, rfl, hl0⟩ := len_succ hl
            obtain ⟨v1, vs1, rfl, hl1⟩ := len_succ hl0
            obtain ⟨v2, vs2, rfl, hl2⟩ := len_succ hl1
            obtain ⟨v3, vs3, rfl, hl3⟩ := len_succ hl2
            obtain ⟨v4, vs4, rfl, hl4⟩ := len_succ hl3
            obtain rfl := len_zero hl4
            have hR25 := (show OwnS k_S_baizeref47_Held gq (t + 17) 60 a25 l25.length c25 l25 from hf _ (List.mem_of_getElem? (i := 3) rfl) (by kernel_rfl))
            have e0 := (show v0 = .bool false from hf _ (List.mem_of_getElem? (i := 4) rfl) (by kernel_rfl))
            subst e0
            obtain ⟨a27, c27, e2, hR27⟩ := (show ∃ (a27 : Option Addr) (c27 : Nat), v2 = AG [encA .u8 d51, [.int .i64 x37], encA .i64 d52, [.slice a27 l27.length c27]] ∧ OwnS k_S_baizeref47_Held gq (t + 20) 60 a27 l27.length c27 l27 from hf _ (List.mem_of_getElem? (i := 6) rfl) (by kernel_rfl))
            subst e2
            have e3 := (show v3 = AG [encA .u8 d47, [.int .i64 x34], encA .i64 d48, [.slice a25 l25.length c25]] from hf _ (List.mem_of_getElem? (i := 7) rfl) (by kernel_rfl))
            subst e3
            have hS5 : 0 ∉ ([(t + 20), (t + 17)] : List Nat) := by simp <;> omega
            have stl5 := GW.lend_step gq [(t + 20), (t + 17)]
            have hRl9 := hR27.lendTo hS5 (by simp)
            have hRl10 := hR25.lendTo hS5 (by simp)
            refine WP.regw (g' := GW.lend gq [(t + 20), (t + 17)]) rfl ?_
            have hcal24 := P.baizeref47_Same (GW.lend gq [(t + 20), (t + 17)]) d51 x37 d52 l27 d47 x34 d48 l25 a27 l27.length c27 a25 l25.length c25 hRl9 hRl10 q14 hk24
            refine WP.callC hcal24 (by kernel_rfl) ?_
            rintro _ g61 st61 rfl
            have st62 := (GW.back_step st61).lentS
            have hO9 := hR27.backTo hS5 (by simp) st61 (fun x => x)
            have hO10 := hR25.backTo hS5 (by simp) st61 (fun x => x)
            refine WP.regw (g' := GW.back gq g61 [(t + 20), (t + 17)]) rfl ?_
            generalize GW.back gq g61 [(t + 20), (t + 17)] = g62 at *
            refine WP.done (by kernel_rfl) (Shown.ok (v := .bool q14) (by kernel_rfl) st62 ?_)
            exact ⟨trivial, trivial, trivial, trivial, trivial, trivial, trivial, trivial, rfl, hO10, ⟨a27, c27, rfl, hO9⟩, trivial⟩
        intro vs g63 st63 hl hf
        replace hl : vs.length = 5 := hl
        obtain ⟨v0, vs0, rfl, hl0⟩ := len_succ hl
        obtain ⟨v1, vs1, rfl, hl1⟩ := len_succ hl0
        obtain ⟨v2, vs2, rfl, hl2⟩ := len_succ hl1
        obtain ⟨v3, vs3, rfl, hl3⟩ := len_succ hl2
        obtain ⟨v4, vs4, rfl, hl4⟩ := len_succ hl3
        obtain rfl := len_zero hl4
        have e0 := (show v0 = .bool false from hf _ (List.mem_of_getElem? (i := 4) rfl) (by kernel_rfl))
        subst e0
        have e1 := (show v1 = AG [encA .u8 d45, [.int .i64 x32], encA .i64 d46, [.slice a24 l24.length c24]] from hf _ (List.mem_of_getElem? (i := 5) rfl) (by kernel_rfl))
        subst e1
        have e3 := (show v3 = AG [encA .u8 d47, [.int .i64 x34], encA .i64 d48, [.slice a25 l25.length c25]] from hf _ (List.mem_of_getElem? (i := 7) rfl) (by kernel_rfl))
        subst e3
        have e4 := (show v4 = .bool q14 from hf _ (List.mem_of_getElem? (i := 8) rfl) (by kernel_rfl))
        subst e4
        have hR25 := (show OwnS k_S_baizeref47_Held g63 (t + 17) 60 a25 l25.length c25 l25 from hf _ (List.mem_of_getElem? (i := 9) rfl) (by kernel_rfl))
        obtain ⟨a27, c27, e2, hR27⟩ := (show ∃ (a27 : Option Addr) (c27 : Nat), v2 = AG [encA .u8 d51, [.int .i64 x37], encA .i64 d52, [.slice a27 l27.length c27]] ∧ OwnS k_S_baizeref47_Held g63 (t + 20) 60 a27 l27.length c27 l27 from hf _ (List.mem_of_getElem? (i := 10) rfl) (by kernel_rfl))
        subst e2
        replace hR2 := hR2.mono st63 (WL.no2 (by omega) (by omega))
        replace hB1 := hB1.mono st63 (WL.no2 (by omega) (by omega))
        replace hR10 := hR10.mono st63 (WL.no2 (by omega) (by omega))
        replace hB2 := hB2.mono st63 (WL.no2 (by omega) (by omega))
        replace hR11 := hR11.mono st63 (WL.no2 (by omega) (by omega))
        replace hB22 := hB22.mono st63 (WL.no2 (by omega) (by omega))
        replace hR24 := hR24.mono st63 (WL.no2 (by omega) (by omega))
        replace hB24 := hB24.mono st63 (WL.no2 (by omega) (by omega))
        replace tot := tot.trans (st63.up2 (.inr (by omega)) (.inr (by omega)))
        refine NX.post ?_
        exact ⟨(!q14), ⟨by kernel_rfl, by kernel_rfl⟩, tot, hR2, hB1, hR10, hB2, hR11, hB22, hR24, hB24, hR25, hs⟩
      clear tot hs hR2 hB1 hR10 hB2 hR11 hB22 hR24 hB24 hR25
      rintro tm g ⟨q13, hF, tot, hR2, hB1, hR10, hB2, hR11, hB22, hR24, hB24, hR25, hs⟩
      clear ds
      obtain ⟨ds, rfl⟩ := hF.open
      clear hF
      unfold F.baizelaw47_PurseActs.c3 at hs
      refine CP.cond (b := q13) (by kernel_rfl) (fun h16 => ?_) (fun h16 => ?_)
      · replace hs := of_if_t hs h16
        refine CP.seqR ?_
        refine WP.still 1 (by kernel_rfl) ?_
        refine WP.done (by kernel_rfl) ?_
        refine NX.then_n ?_
        refine CP.ret ?_
        refine NX.then_r ?_
        refine NX.block_r ?_
        refine NX.then_r ?_
        refine NX.then_r ?_
        refine NX.block_r ?_
        refine NX.then_r ?_
        replace hs := Option.some.inj hs
        obtain rfl := hs
        exact NX.fin (v := .bool false) (Res.still (by kernel_rfl)) tot htL rfl
      replace hs := of_if_f hs h16
      refine CP.skip ?_
      refine NX.then_n ?_
      refine CP.seqR ?_
      refine WP.still 2 (by kernel_rfl) ?_
      refine WP.done (by kernel_rfl) ?_
      refine NX.then_n ?_
      refine CP.cond (b := (x35 == 0)) (by kernel_rfl) (fun h17 => ?_) (fun h17 => ?_)
      · replace hs := of_if_t hs h17
        refine CP.drawL (by kernel_rfl) [0, 1, 2, 3] [[], [], [0], [0, 1, 2]] [⟨none, [1], [], fun l g => Box g (t + 1) b1 26 [encA .u8 d17, [.int .i64 x12], encA .i64 d18, [.slice a10 n10 c10]] [8, 1, 2, 1]⟩, ⟨none, [0], [], fun l g => Box g (t + 3) b2 32 [encA .u8 d19, [.int .i64 x13], encA .i64 d20, [.slice a11 n11 c11]] [8, 1, 2, 1]⟩, ⟨none, [], [], fun l g => Box g (t + 16) b17 32 [encA .u8 d45, [.int .i64 x32], encA .i64 d46, [.slice a24 l24.length c24]] [8, 1, 2, 1]⟩, ⟨none, [], [], fun l g => Box g (t + 18) b19 26 [encA .u8 d47, [.int .i64 x34], encA .i64 d48, [.slice a25 l25.length c25]] [8, 1, 2, 1]⟩, ⟨some 0, [], [0], fun l g => l.getD 0 undef = AG [encA .u8 d45, [.int .i64 x32], encA .i64 d46, [.slice a24 l24.length c24]]⟩, ⟨some 1, [], [1], fun l g => l.getD 0 undef = AG [encA .u8 d47, [.int .i64 x34], encA .i64 d48, [.slice a25 l25.length c25]]⟩, ⟨some 2, [0], [], fun l g => Box g (t + 3) b2 32 [encA .u8 d45, [.int .i64 x32], encA .i64 d46, [.slice a24 l24.length c24]] [8, 1, 2, 1]⟩, ⟨some 3, [1], [], fun l g => Box g (t + 1) b1 26 [encA .u8 d47, [.int .i64 x34], encA .i64 d48, [.slice a25 l25.length c25]] [8, 1, 2, 1]⟩] [[], [], [0], [1]] [(t + 3), (t + 1)] [] [] (by kernel_rfl) (by simp <;> omega) (by simp <;> omega) ⟨fun _ _ _ _ st h0 hl hj hB1 => (hB1.mono st (hj 1 (by simp) _ rfl)), fun _ _ _ _ st h0 hl hj hB2 => (hB2.mono st (hj 0 (by simp) _ rfl)), fun _ _ _ _ st h0 hl hj hB22 => (hB22.mono st (fun h => absurd (hl _ h) (by simp <;> omega))), fun _ _ _ _ st h0 hl hj hB24 => (hB24.mono st (fun h => absurd (hl _ h) (by simp <;> omega))), fun _ _ _ _ st h0 hl hj e0 => e0, fun _ _ _ _ st h0 hl hj e1 => e1, fun _ _ _ _ st h0 hl hj hB2 => (hB2.mono st (hj 0 (by simp) _ rfl)), fun _ _ _ _ st h0 hl hj hB1 => (hB1.mono st (hj 1 (by simp) _ rfl)), trivial⟩ ⟨hB1, hB2, hB22, hB24, trivial, trivial, trivial, trivial, trivial⟩ (by kernel_rfl) (fun vs => by kernel_rfl) ?_ ?_ ?_
        · intro j hj; exact absurd hj (by simp)
        · intro j hj
          have hq : j = 0 ∨ j = 1 ∨ j = 2 ∨ j = 3 := by have h : j < 4 := hj; omega
          rcases hq with rfl | rfl | rfl | rfl
          · intro vs gq stq hl hf
            replace hl : vs.length = 4 := hl
            obtain ⟨v0, vs0, rfl, hl0⟩ := len_succ hl
            obtain ⟨v1, vs1, rfl, hl1⟩ := len_succ hl0
            obtain ⟨v2, vs2, rfl, hl2⟩ := len_succ hl1
            obtain ⟨v3, vs3, rfl, hl3⟩ := len_succ hl2
            obtain rfl := len_zero hl3
            have hB22 := (show Box gq (t + 16) b17 32 [encA .u8 d45, [.int .i64 x32], encA .i64 d46, [.slice a24 l24.length c24]] [8, 1, 2, 1] from hf _ (List.mem_of_getElem? (i := 2) rfl) (by kernel_rfl))
            refine WP.loadB (v := AG [encA .u8 d45, [.int .i64 x32], encA .i64 d46, [.slice a24 l24.length c24]]) hB22 (by kernel_rfl) (by kernel_rfl) ?_
            refine WP.done (by kernel_rfl) (Shown.ok (v := AG [encA .u8 d45, [.int .i64 x32], encA .i64 d46, [.slice a24 l24.length c24]]) (by kernel_rfl) (Step.refl _ _) ?_)
            exact ⟨trivial, trivial, trivial, trivial, rfl, trivial, trivial, trivial, trivial⟩
          · intro vs gq stq hl hf
            replace hl : vs.length = 4 := hl
            obtain ⟨v0, vs0, rfl, hl0⟩ := len_succ hl
            obtain ⟨v1, vs1, rfl, hl1⟩ := len_succ hl0
            obtain ⟨v2, vs2, rfl, hl2⟩ := len_succ hl1
            obtain ⟨v3, vs3, rfl, hl3⟩ := len_succ hl2
            obtain rfl := len_zero hl3
            have hB24 := (show Box gq (t + 18) b19 26 [encA .u8 d47, [.int .i64 x34], encA .i64 d48, [.slice a25 l25.length c25]] [8, 1, 2, 1] from hf _ (List.mem_of_getElem? (i := 3) rfl) (by kernel_rfl))
            refine WP.loadB (v := AG [encA .u8 d47, [.int .i64 x34], encA .i64 d48, [.slice a25 l25.length c25]]) hB24 (by kernel_rfl) (by kernel_rfl) ?_
            refine WP.done (by kernel_rfl) (Shown.ok (v := AG [encA .u8 d47, [.int .i64 x34], encA .i64 d48, [.slice a25 l25.length c25]]) (by kernel_rfl) (Step.refl _ _) ?_)
            exact ⟨trivial, trivial, trivial, trivial, trivial, rfl, trivial, trivial, trivial⟩
          · intro vs gq stq hl hf
            replace hl : vs.length = 4 := hl
            obtain ⟨v0, vs0, rfl, hl0⟩ := len_succ hl
            obtain ⟨v1, vs1, rfl, hl1⟩ := len_succ hl0
            obtain ⟨v2, vs2, rfl, hl2⟩ := len_succ hl1
            obtain ⟨v3, vs3, rfl, hl3⟩ := len_succ hl2
            obtain rfl := len_zero hl3
            have hB2 := (show Box gq (t + 3) b2 32 [encA .u8 d19, [.int .i64 x13], encA .i64 d20, [.slice a11 n11 c11]] [8, 1, 2, 1] from hf _ (List.mem_of_getElem? (i := 1) rfl) (by kernel_rfl))
            have e0 := (show v0 = AG [encA .u8 d45, [.int .i64 x32], encA .i64 d46, [.slice a24 l24.length c24]] from hf _ (List.mem_of_getElem? (i := 4) rfl) (by kernel_rfl))
            subst e0
            refine WP.storeB (ty := 32) (off := 0) (v := AG [encA .u8 d45, [.int .i64 x32], encA .i64 d46, [.slice a24 l24.length c24]]) hB2 [encA .u8 d45, [.int .i64 x32], encA .i64 d46, [.slice a24 l24.length c24]] [8, 1, 2, 1] (by kernel_rfl) (by kernel_rfl) (by simp [len_encA]) (by kernel_rfl) [encA .u8 d45, [.int .i64 x32], encA .i64 d46, [.slice a24 l24.length c24]] (by kernel_rfl) (.arr (.one rfl (.arr (.one rfl .nil)))) ?_
            intro g55 st55 hB26
            refine WP.done (by kernel_rfl) (Shown.ok (v := undef) (by kernel_rfl) st55 ?_)
            exact ⟨trivial, trivial, trivial, trivial, trivial, trivial, hB26, trivial, trivial⟩
          · intro vs gq stq hl hf
            replace hl : vs.length = 4 := hl
            obtain ⟨v0, vs0, rfl, hl0⟩ := len_succ hl
            obtain ⟨v1, vs1, rfl, hl1⟩ := len_succ hl0
            obtain ⟨v2, vs2, rfl, hl2⟩ := len_succ hl1
            obtain ⟨v3, vs3, rfl, hl3⟩ := len_succ hl2
            obtain rfl := len_zero hl3
            have hB1 := (show Box gq (t + 1) b1 26 [encA .u8 d17, [.int .i64 x12], encA .i64 d18, [.slice a10 n10 c10]] [8, 1, 2, 1] from hf _ (List.mem_of_getElem? (i := 0) rfl) (by kernel_rfl))
            have e1 := (show v1 = AG [encA .u8 d47, [.int .i64 x34], encA .i64 d48, [.slice a25 l25.length c25]] from hf _ (List.mem_of_getElem? (i := 5) rfl) (by kernel_rfl))
            subst e1
            refine WP.storeB (ty := 26) (off := 0) (v := AG [encA .u8 d47, [.int .i64 x34], encA .i64 d48, [.slice a25 l25.length c25]]) hB1 [encA .u8 d47, [.int .i64 x34], encA .i64 d48, [.slice a25 l25.length c25]] [8, 1, 2, 1] (by kernel_rfl) (by kernel_rfl) (by simp [len_encA]) (by kernel_rfl) [encA .u8 d47, [.int .i64 x34], encA .i64 d48, [.slice a25 l25.length c25]] (by kernel_rfl) (.arr (.one rfl (.arr (.one rfl .nil)))) ?_
            intro g56 st56 hB27
            refine WP.done (by kernel_rfl) (Shown.ok (v := undef) (by kernel_rfl) st56 ?_)
            exact ⟨trivial, trivial, trivial, trivial, trivial, trivial, trivial, hB27, trivial⟩
        intro vs g57 st57 hl hf
        replace hl : vs.length = 4 := hl
        obtain ⟨v0, vs0, rfl, hl0⟩ := len_succ hl
        obtain ⟨v1, vs1, rfl, hl1⟩ := len_succ hl0
        obtain ⟨v2, vs2, rfl, hl2⟩ := len_succ hl1
        obtain ⟨v3, vs3, rfl, hl3⟩ := len_succ hl2
        obtain rfl := len_zero hl3
        have hB2 := (show Box g57 (t + 3) b2 32 [encA .u8 d45, [.int .i64 x32], encA .i64 d46, [.slice a24 l24.length c24]] [8, 1, 2, 1] from hf _ (List.mem_of_getElem? (i := 6) rfl) (by kernel_rfl))
        have hB1 := (show Box g57 (t + 1) b1 26 [encA .u8 d47, [.int .i64 x34], encA .i64 d48, [.slice a25 l25.length c25]] [8, 1, 2, 1] from hf _ (List.mem_of_getElem? (i := 7) rfl) (by kernel_rfl))
        replace hR2 := hR2.mono st57 (WL.no2 (by omega) (by omega))
        replace hR25 := hR25.mono st57 (WL.no2 (by omega) (by omega)) (WL.no2 (by omega) (by omega))
        replace hR24 := hR24.mono st57 (WL.no2 (by omega) (by omega))
        replace tot := tot.trans (st57.up2 (.inr (by omega)) (.inr (by omega)))
        refine NX.block_n ?_
        obtain ⟨g58, hw2, st58, hnew⟩ := hR25.freeze (by omega)
        refine NX.regw hw2 ?_
        replace hR2 := hR2.mono st58 (WL.no1 (by omega))
        replace hB1 := hB1.mono st58 (WL.no1 (by omega))
        replace hB2 := hB2.mono st58 (WL.no1 (by omega))
        replace hR24 := hR24.mono st58 (WL.no1 (by omega))
        replace tot := tot.trans (st58.up1 (.inr (by omega)))
        clear hR25
        have hR25 := hnew
        clear hnew
        refine NX.post ?_
        exact ⟨d47, x34, d48, l25, a25, l25.length, c25, d45, x32, d46, l24, a24, l24.length, c24, ⟨by kernel_rfl, by kernel_rfl⟩, tot, hR2, hB1, hR25, hB2, hR24, hs⟩
      replace hs := of_if_f hs h17
      refine CP.skip ?_
      refine NX.block_n ?_
      refine NX.post ?_
      exact ⟨d17, x12, d18, l10, a10, n10, c10, d19, x13, d20, l11, a11, n11, c11, ⟨by kernel_rfl, by kernel_rfl⟩, tot, hR2, hB1, hR10, hB2, hR11, hs⟩
    clear tot hs hR2 hB1 hR10 hB2 hR11
    rintro tm g ⟨d41, x30, d42, l22, a22, n22, c22, d43, x31, d44, l23, a23, n23, c23, hF, tot, hR2, hB1, hR22, hB2, hR23, hs⟩
    clear ds
    obtain ⟨ds, rfl⟩ := hF.open
    clear hF
    unfold F.baizelaw47_PurseActs.c2 at hs
    refine CP.region ?_
    refine WP.still 3 (by kernel_rfl) ?_
    refine WP.done (by kernel_rfl) ?_
    refine NX.post ?_
    exact ⟨d41, x30, d42, l22, a22, n22, c22, d43, x31, d44, l23, a23, n23, c23, (IntKind.i64.wrap (x14 + 1)), ⟨by kernel_rfl, by kernel_rfl⟩, tot, hR2, hB1, hR22, hB2, hR23, hs⟩
  replace hs := of_if_f hs h11
  refine CP.exit ?_
  refine NX.then_e ?_
  refine NX.then_e ?_
  refine NX.block_s ?_
  refine NX.then_n ?_
  refine CP.seqR ?_
  replace hs := Option.bind_eq_some_iff.1 hs
  obtain ⟨q15, hk25, hs⟩ := hs
  have hcal25 := P.baizelaw47_told g q15 hk25
  refine WP.callC hcal25 (by kernel_rfl) ?_
  rintro _ g64 st64 rfl
  replace tot := tot.trans st64.pure
  refine WP.still 1 (by kernel_rfl) ?_
  refine WP.done (by kernel_rfl) ?_
  refine NX.then_n ?_
  refine CP.ret ?_
  replace hs := Option.some.inj hs
  obtain rfl := hs
  exact NX.fin (v := .bool q15) (Res.still (by kernel_rfl)) tot htL rfl
def N.slices_Equal_purse_Held_purse_Held_0 : List (List Nat) := [[], [], [0, 1], [0, 1, 2], [], [], [4, 5], [4, 5, 6], [0, 1, 2, 3, 4, 5, 6, 7]]
def F.slices_Equal_purse_Held_purse_Held.l1 (l1 : List S_purse_Held) (l2 : List S_purse_Held) : Nat → Int → Option (Bool)
  | 0, _ => none
  | k + 1, x1 => (if decide (x1 < (l1.length : Int)) = true then (if (0 : Int) ≤ x1 ∧ x1 < (l1.length : Int) then (if (0 : Int) ≤ x1 ∧ x1 < (l2.length : Int) then (if (!((((getI l1 x1).f1).1 == ((getI l2 x1).f1).1) && ((((getI l1 x1).f2) == ((getI l2 x1).f2)) && ((((getI l1 x1).f3) == ((getI l2 x1).f3)) && (((getI l1 x1).f4) == ((getI l2 x1).f4)))))) = true then (some false) else (F.slices_Equal_purse_Held_purse_Held.l1 l1 l2 k (IntKind.i64.wrap (x1 + 1)))) else none) else none) else (some true))
def F.slices_Equal_purse_Held_purse_Held (l1 : List S_purse_Held) (l2 : List S_purse_Held) : Option (Bool) := (if ((l1.length : Int) != (l2.length : Int)) = true then (some false) else (F.slices_Equal_purse_Held_purse_Held.l1 l1 l2 fuel 0))
theorem P.slices_Equal_purse_Held_purse_Held (g0 : GW) (l1 : List S_purse_Held) (l2 : List S_purse_Held) (a1 : Option Addr) (n1 : Nat) (c1 : Nat) (a2 : Option Addr) (n2 : Nat) (c2 : Nat) (hR1 : RdS k_S_purse_Held g0 56 a1 n1 c1 l1) (hR2 : RdS k_S_purse_Held g0 56 a2 n2 c2 l2) (o1 : Bool) (hs : F.slices_Equal_purse_Held_purse_Held l1 l2 = some o1) :
    Calls Try.prog 47 #[.slice a1 n1 c1, .slice a2 n2 c2] g0.w (Ret NoM g0 fun v g => v = .bool o1) := by
  refine calls_of (args := [.slice a1 n1 c1, .slice a2 n2 c2]) Try.func47 rfl (0) ?_
  intro t ht htL
  refine ⟨_, rfl, ?_⟩
  refine CP.refr 26 [(0, .slice a1 n1 c1), (1, .slice a2 n2 c2)] (by kernel_rfl) (by kernel_rfl) ?_
  intro ds
  have tot : Step (fun l => NoM l ∨ t ≤ l) g0 g0 := Step.refl _ _
  unfold F.slices_Equal_purse_Held_purse_Held at hs
  refine CP.seqR ?_
  refine WP.still 1 (by kernel_rfl) ?_
  refine WP.done (by kernel_rfl) ?_
  refine NX.then_n ?_
  refine CP.seq ?_
  refine CP.seqR ?_
  refine WP.still 1 (by kernel_rfl) ?_
  refine WP.len (a := a1) (cp := c1) hR1.len (by kernel_rfl) ?_
  refine WP.still 1 (by kernel_rfl) ?_
  refine WP.len (a := a2) (cp := c2) hR2.len (by kernel_rfl) ?_
  refine WP.still 1 (by kernel_rfl) ?_
  refine WP.done (by kernel_rfl) ?_
  refine NX.then_n ?_
  refine CP.cond (b := ((l1.length : Int) != (l2.length : Int))) (by kernel_rfl) (fun h1 => ?_) (fun h1 => ?_)
  · replace hs := of_if_t hs h1
    refine CP.seqR ?_
    refine WP.still 1 (by kernel_rfl) ?_
    refine WP.done (by kernel_rfl) ?_
    refine NX.then_n ?_
    refine CP.ret ?_
    refine NX.then_r ?_
    replace hs := Option.some.inj hs
    obtain rfl := hs
    exact NX.fin (v := .bool false) (Res.still (by kernel_rfl)) tot htL rfl
  replace hs := of_if_f hs h1
  refine CP.skip ?_
  refine NX.then_n ?_
  refine CP.seq ?_
  refine CP.seqR ?_
  refine WP.still 1 (by kernel_rfl) ?_
  refine WP.len (a := a1) (cp := c1) hR1.len (by kernel_rfl) ?_
  refine WP.still 1 (by kernel_rfl) ?_
  refine WP.done (by kernel_rfl) ?_
  refine NX.then_n ?_
  refine CP.block ?_
  generalize fuel = k1 at hs
  refine CP.loop (fun k1 tm g => ∃ (x1 : Int), Fr 26 [(0, .slice a1 n1 c1), (1, .slice a2 n2 c2), (12, .int .i64 (l1.length : Int)), (13, .int .i64 x1)] tm ∧ Step (fun l => NoM l ∨ t ≤ l) g0 g ∧ RdS k_S_purse_Held g 56 a1 n1 c1 l1 ∧ RdS k_S_purse_Held g 56 a2 n2 c2 l2 ∧ F.slices_Equal_purse_Held_purse_Held.l1 l1 l2 k1 x1 = some o1) k1 ?_ ?_ ?_
  · exact ⟨0, ⟨by kernel_rfl, by kernel_rfl⟩, tot, hR1, hR2, hs⟩
  · rintro tm g ⟨x1, hF, tot, hR1, hR2, hs⟩
    exact absurd hs (by simp [F.slices_Equal_purse_Held_purse_Held.l1])
  clear tot hs hR1 hR2
  rintro k1 tm g ⟨x1, hF, tot, hR1, hR2, hs⟩
  clear ds
  obtain ⟨ds, rfl⟩ := hF.open
  clear hF
  unfold F.slices_Equal_purse_Held_purse_Held.l1 at hs
  refine CP.seqR ?_
  refine WP.still 1 (by kernel_rfl) ?_
  refine WP.done (by kernel_rfl) ?_
  refine NX.then_n ?_
  refine CP.seq ?_
  refine CP.cond (b := decide (x1 < (l1.length : Int))) (by kernel_rfl) (fun h6 => ?_) (fun h6 => ?_)
  · replace hs := of_if_t hs h6
    refine CP.skip ?_
    refine NX.then_n ?_
    refine CP.seq ?_
    refine CP.block ?_
    refine CP.seqR ?_
    refine WP.still 2 (by kernel_rfl) ?_
    refine WP.done (by kernel_rfl) ?_
    refine NX.then_n ?_
    refine CP.seq ?_
    by_cases hc5 : (0 : Int) ≤ x1 ∧ x1 < (l1.length : Int)
    case neg => rw [if_neg hc5] at hs; cases hs
    replace hs := of_if_p hs hc5
    by_cases hc6 : (0 : Int) ≤ x1 ∧ x1 < (l2.length : Int)
    case neg => rw [if_neg hc6] at hs; cases hs
    replace hs := of_if_p hs hc6
    obtain ⟨b5, u5, ha5⟩ := hR1.at hc5
    obtain ⟨b6, u6, ha6⟩ := hR2.at hc6
    refine CP.drawL (by kernel_rfl) [2, 3, 6, 7, 8] N.slices_Equal_purse_Held_purse_Held_0 [⟨none, [], [], fun l g => RdS k_S_purse_Held g 56 a1 n1 c1 l1⟩, ⟨none, [], [], fun l g => RdS k_S_purse_Held g 56 a2 n2 c2 l2⟩, ⟨some 0, [], [0], fun l g => l.getD 0 undef = .pointer (some ⟨b5, u5 + x1.toNat * 11, none⟩)⟩, ⟨some 1, [], [1], fun l g => l.getD 0 undef = AG [encA .u8 ((getI l1 x1).f1), [.int .i64 ((getI l1 x1).f2)], [.int .i64 ((getI l1 x1).f3)], [.int .i64 ((getI l1 x1).f4)]]⟩, ⟨some 2, [], [2], fun l g => l.getD 0 undef = .pointer (some ⟨b6, u6 + x1.toNat * 11, none⟩)⟩, ⟨some 3, [], [3], fun l g => l.getD 0 undef = AG [encA .u8 ((getI l2 x1).f1), [.int .i64 ((getI l2 x1).f2)], [.int .i64 ((getI l2 x1).f3)], [.int .i64 ((getI l2 x1).f4)]]⟩, ⟨some 4, [], [4], fun l g => l.getD 0 undef = .bool (!((((getI l1 x1).f1).1 == ((getI l2 x1).f1).1) && ((((getI l1 x1).f2) == ((getI l2 x1).f2)) && ((((getI l1 x1).f3) == ((getI l2 x1).f3)) && (((getI l1 x1).f4) == ((getI l2 x1).f4))))))⟩] [[], [], [], [], []] [] [0, 1, 4, 5] [] (by kernel_rfl) (by simp) (by simp) ⟨fun _ _ _ _ st h0 hl hj hR1 => (RdS.mono (e := 56) hR1 st h0), fun _ _ _ _ st h0 hl hj hR2 => (RdS.mono (e := 56) hR2 st h0), fun _ _ _ _ st h0 hl hj e0 => e0, fun _ _ _ _ st h0 hl hj e1 => e1, fun _ _ _ _ st h0 hl hj e2 => e2, fun _ _ _ _ st h0 hl hj e3 => e3, fun _ _ _ _ st h0 hl hj e4 => e4, trivial⟩ ⟨hR1, hR2, trivial, trivial, trivial, trivial, trivial, trivial⟩ (by kernel_rfl) (fun vs => by kernel_rfl) ?_ ?_ ?_
    · intro j hj; exact absurd hj (by simp)
    · intro j hj
      have hq : j = 0 ∨ j = 1 ∨ j = 2 ∨ j = 3 ∨ j = 4 := by have h : j < 5 := hj; omega
      rcases hq with rfl | rfl | rfl | rfl | rfl
      · intro vs gq stq hl hf
        replace hl : vs.length = 5 := hl
        obtain ⟨v0, vs0, rfl, hl0⟩ := len_succ hl
        obtain ⟨v1, vs1, rfl, hl1⟩ := len_succ hl0
        obtain ⟨v2, vs2, rfl, hl2⟩ := len_succ hl1
        obtain ⟨v3, vs3, rfl, hl3⟩ := len_succ hl2
        obtain ⟨v4, vs4, rfl, hl4⟩ := len_succ hl3
        obtain rfl := len_zero hl4
        have hR1 := (show RdS k_S_purse_Held gq 56 a1 n1 c1 l1 from hf _ (List.mem_of_getElem? (i := 0) rfl) (by kernel_rfl))
        refine WP.indexA (t := 30) (e := 56) (sz := 11) (cap := c1) (k := .i64) (i := x1) hR1.len ha5 (by kernel_rfl) (by kernel_rfl) hc5 ?_
        refine WP.done (by kernel_rfl) (Shown.ok (v := .pointer (some ⟨b5, u5 + x1.toNat * 11, none⟩)) (by kernel_rfl) (Step.refl _ _) ?_)
        exact ⟨trivial, trivial, rfl, trivial, trivial, trivial, trivial, trivial⟩
      · intro vs gq stq hl hf
        replace hl : vs.length = 5 := hl
        obtain ⟨v0, vs0, rfl, hl0⟩ := len_succ hl
        obtain ⟨v1, vs1, rfl, hl1⟩ := len_succ hl0
        obtain ⟨v2, vs2, rfl, hl2⟩ := len_succ hl1
        obtain ⟨v3, vs3, rfl, hl3⟩ := len_succ hl2
        obtain ⟨v4, vs4, rfl, hl4⟩ := len_succ hl3
        obtain rfl := len_zero hl4
        have hR1 := (show RdS k_S_purse_Held gq 56 a1 n1 c1 l1 from hf _ (List.mem_of_getElem? (i := 0) rfl) (by kernel_rfl))
        have e0 := (show v0 = .pointer (some ⟨b5, u5 + x1.toNat * 11, none⟩) from hf _ (List.mem_of_getElem? (i := 2) rfl) (by kernel_rfl))
        subst e0
        obtain ⟨cs5, hcR5, hcV5⟩ := hR1.src.view (getI_some hc5) ha5
        replace hcR5 := k_S_purse_Held.opn hcR5
        refine WP.loadV [encA .u8 ((getI l1 x1).f1), [.int .i64 ((getI l1 x1).f2)], [.int .i64 ((getI l1 x1).f3)], [.int .i64 ((getI l1 x1).f4)]] [8, 1, 1, 1] hcV5 hcR5 (by simp [len_encA]) (f := 0) (ty := 56) (agg := true) (size := 11) (rs := [encA .u8 ((getI l1 x1).f1), [.int .i64 ((getI l1 x1).f2)], [.int .i64 ((getI l1 x1).f3)], [.int .i64 ((getI l1 x1).f4)]]) (v := AG [encA .u8 ((getI l1 x1).f1), [.int .i64 ((getI l1 x1).f2)], [.int .i64 ((getI l1 x1).f3)], [.int .i64 ((getI l1 x1).f4)]]) (by kernel_rfl) (by kernel_rfl) (by kernel_rfl) (by kernel_rfl) ?_
        refine WP.done (by kernel_rfl) (Shown.ok (v := AG [encA .u8 ((getI l1 x1).f1), [.int .i64 ((getI l1 x1).f2)], [.int .i64 ((getI l1 x1).f3)], [.int .i64 ((getI l1 x1).f4)]]) (by kernel_rfl) (Step.refl _ _) ?_)
        exact ⟨trivial, trivial, trivial, rfl, trivial, trivial, trivial, trivial⟩
      · intro vs gq stq hl hf
        replace hl : vs.length = 5 := hl
        obtain ⟨v0, vs0, rfl, hl0⟩ := len_succ hl
        obtain ⟨v1, vs1, rfl, hl1⟩ := len_succ hl0
        obtain ⟨v2, vs2, rfl, hl2⟩ := len_succ hl1
        obtain ⟨v3, vs3, rfl, hl3⟩ := len_succ hl2
        obtain ⟨v4, vs4, rfl, hl4⟩ := len_succ hl3
        obtain rfl := len_zero hl4
        have hR2 := (show RdS k_S_purse_Held gq 56 a2 n2 c2 l2 from hf _ (List.mem_of_getElem? (i := 1) rfl) (by kernel_rfl))
        refine WP.indexA (t := 30) (e := 56) (sz := 11) (cap := c2) (k := .i64) (i := x1) hR2.len ha6 (by kernel_rfl) (by kernel_rfl) hc6 ?_
        refine WP.done (by kernel_rfl) (Shown.ok (v := .pointer (some ⟨b6, u6 + x1.toNat * 11, none⟩)) (by kernel_rfl) (Step.refl _ _) ?_)
        exact ⟨trivial, trivial, trivial, trivial, rfl, trivial, trivial, trivial⟩
      · intro vs gq stq hl hf
        replace hl : vs.length = 5 := hl
        obtain ⟨v0, vs0, rfl, hl0⟩ := len_succ hl
        obtain ⟨v1, vs1, rfl, hl1⟩ := len_succ hl0
        obtain ⟨v2, vs2, rfl, hl2⟩ := len_succ hl1
        obtain ⟨v3, vs3, rfl, hl3⟩ := len_succ hl2
        obtain ⟨v4, vs4, rfl, hl4⟩ := len_succ hl3
        obtain rfl := len_zero hl4
        have hR2 := (show RdS k_S_purse_Held gq 56 a2 n2 c2 l2 from hf _ (List.mem_of_getElem? (i := 1) rfl) (by kernel_rfl))
        have e2 := (show v2 = .pointer (some ⟨b6, u6 + x1.toNat * 11, none⟩) from hf _ (List.mem_of_getElem? (i := 4) rfl) (by kernel_rfl))
        subst e2
        obtain ⟨cs6, hcR6, hcV6⟩ := hR2.src.view (getI_some hc6) ha6
        replace hcR6 := k_S_purse_Held.opn hcR6
        refine WP.loadV [encA .u8 ((getI l2 x1).f1), [.int .i64 ((getI l2 x1).f2)], [.int .i64 ((getI l2 x1).f3)], [.int .i64 ((getI l2 x1).f4)]] [8, 1, 1, 1] hcV6 hcR6 (by simp [len_encA]) (f := 0) (ty := 56) (agg := true) (size := 11) (rs := [encA .u8 ((getI l2 x1).f1), [.int .i64 ((getI l2 x1).f2)], [.int .i64 ((getI l2 x1).f3)], [.int .i64 ((getI l2 x1).f4)]]) (v := AG [encA .u8 ((getI l2 x1).f1), [.int .i64 ((getI l2 x1).f2)], [.int .i64 ((getI l2 x1).f3)], [.int .i64 ((getI l2 x1).f4)]]) (by kernel_rfl) (by kernel_rfl) (by kernel_rfl) (by kernel_rfl) ?_
        refine WP.done (by kernel_rfl) (Shown.ok (v := AG [encA .u8 ((getI l2 x1).f1), [.int .i64 ((getI l2 x1).f2)], [.int .i64 ((getI l2 x1).f3)], [.int .i64 ((getI l2 x1).f4)]]) (by kernel_rfl) (Step.refl _ _) ?_)
        exact ⟨trivial, trivial, trivial, trivial, trivial, rfl, trivial, trivial⟩
      · intro vs gq stq hl hf
        replace hl : vs.length = 5 := hl
        obtain ⟨v0, vs0, rfl, hl0⟩ := len_succ hl
        obtain ⟨v1, vs1, rfl, hl1⟩ := len_succ hl0
        obtain ⟨v2, vs2, rfl, hl2⟩ := len_succ hl1
        obtain ⟨v3, vs3, rfl, hl3⟩ := len_succ hl2
        obtain ⟨v4, vs4, rfl, hl4⟩ := len_succ hl3
        obtain rfl := len_zero hl4
        have e1 := (show v1 = AG [encA .u8 ((getI l1 x1).f1), [.int .i64 ((getI l1 x1).f2)], [.int .i64 ((getI l1 x1).f3)], [.int .i64 ((getI l1 x1).f4)]] from hf _ (List.mem_of_getElem? (i := 3) rfl) (by kernel_rfl))
        subst e1
        have e3 := (show v3 = AG [encA .u8 ((getI l2 x1).f1), [.int .i64 ((getI l2 x1).f2)], [.int .i64 ((getI l2 x1).f3)], [.int .i64 ((getI l2 x1).f4)]] from hf _ (List.mem_of_getElem? (i := 5) rfl) (by kernel_rfl))
        subst e3
        refine WP.neV (by kernel_rfl) (by kernel_rfl) (EqV.struct (d := 9999) (t := 56) (xs := [encA .u8 ((getI l1 x1).f1), [.int .i64 ((getI l1 x1).f2)], [.int .i64 ((getI l1 x1).f3)], [.int .i64 ((getI l1 x1).f4)]]) (ys := [encA .u8 ((getI l2 x1).f1), [.int .i64 ((getI l2 x1).f2)], [.int .i64 ((getI l2 x1).f3)], [.int .i64 ((getI l2 x1).f4)]]) (by kernel_rfl) (by kernel_rfl) (EqFi.cons (ns := [8, 1, 1, 1]) (ms := [8, 1, 1, 1]) (t' := 29) (x := AG [encA .u8 ((getI l1 x1).f1)]) (y := AG [encA .u8 ((getI l2 x1).f1)]) (by simp [len_encA]) (by simp [len_encA]) (by kernel_rfl) (by kernel_rfl) (EqV.arr (d := 9997) (t := 29) (e := 5) (m := 8) (k := .u8) (x := (getI l1 x1).f1) (y := (getI l2 x1).f1) (by kernel_rfl) (by kernel_rfl)) (EqFi.cons (ns := [8, 1, 1, 1]) (ms := [8, 1, 1, 1]) (t' := 3) (x := .int .i64 ((getI l1 x1).f2)) (y := .int .i64 ((getI l2 x1).f2)) (by simp [len_encA]) (by simp [len_encA]) (by kernel_rfl) (by kernel_rfl) (EqV.int (d := 9998) (k' := .i64) (by kernel_rfl)) (EqFi.cons (ns := [8, 1, 1, 1]) (ms := [8, 1, 1, 1]) (t' := 3) (x := .int .i64 ((getI l1 x1).f3)) (y := .int .i64 ((getI l2 x1).f3)) (by simp [len_encA]) (by simp [len_encA]) (by kernel_rfl) (by kernel_rfl) (EqV.int (d := 9998) (k' := .i64) (by kernel_rfl)) (EqFi.one (ns := [8, 1, 1, 1]) (ms := [8, 1, 1, 1]) (t' := 3) (x := .int .i64 ((getI l1 x1).f4)) (y := .int .i64 ((getI l2 x1).f4)) (by simp [len_encA]) (by simp [len_encA]) (by kernel_rfl) (by kernel_rfl) (EqV.int (d := 9998) (k' := .i64) (by kernel_rfl)) (Nat.le_of_ble_eq_true rfl)))))) ?_
        refine WP.done (by kernel_rfl) (Shown.ok (v := .bool (!((((getI l1 x1).f1).1 == ((getI l2 x1).f1).1) && ((((getI l1 x1).f2) == ((getI l2 x1).f2)) && ((((getI l1 x1).f3) == ((getI l2 x1).f3)) && (((getI l1 x1).f4) == ((getI l2 x1).f4))))))) (by kernel_rfl) (Step.refl _ _) ?_)
        exact ⟨trivial, trivial, trivial, trivial, trivial, trivial, rfl, trivial⟩
    intro vs g1 st1 hl hf
    replace hl : vs.length = 5 := hl
    obtain ⟨v0, vs0, rfl, hl0⟩ := len_succ hl
    obtain ⟨v1, vs1, rfl, hl1⟩ := len_succ hl0
    obtain ⟨v2, vs2, rfl, hl2⟩ := len_succ hl1
    obtain ⟨v3, vs3, rfl, hl3⟩ := len_succ hl2
    obtain ⟨v4, vs4, rfl, hl4⟩ := len_succ hl3
    obtain rfl := len_zero hl4
    have e4 := (show v4 = .bool (!((((getI l1 x1).f1).1 == ((getI l2 x1).f1).1) && ((((getI l1 x1).f2) == ((getI l2 x1).f2)) && ((((getI l1 x1).f3) == ((getI l2 x1).f3)) && (((getI l1 x1).f4) == ((getI l2 x1).f4)))))) from hf _ (List.mem_of_getElem? (i := 6) rfl) (by kernel_rfl))
    subst e4
    replace hR1 := hR1.mono st1.toNo (fun x => x)
    replace hR2 := hR2.mono st1.toNo (fun x => x)
    replace tot := tot.trans st1.toNo.pure
    refine NX.then_n ?_
    refine CP.refr 26 [(0, .slice a1 n1 c1), (1, .slice a2 n2 c2), (12, .int .i64 (l1.length : Int)), (13, .int .i64 x1), (24, .bool (!((((getI l1 x1).f1).1 == ((getI l2 x1).f1).1) && ((((getI l1 x1).f2) == ((getI l2 x1).f2)) && ((((getI l1 x1).f3) == ((getI l2 x1).f3)) && (((getI l1 x1).f4) == ((getI l2 x1).f4)))))))] (by kernel_rfl) (by kernel_rfl) ?_
    clear ds
    intro ds
    refine CP.cond (b := (!((((getI l1 x1).f1).1 == ((getI l2 x1).f1).1) && ((((getI l1 x1).f2) == ((getI l2 x1).f2)) && ((((getI l1 x1).f3) == ((getI l2 x1).f3)) && (((getI l1 x1).f4) == ((getI l2 x1).f4))))))) (by kernel_rfl) (fun h7 => ?_) (fun h7 => ?_)
    · replace hs := of_if_t hs h7
      refine CP.seqR ?_
      refine WP.still 1 (by kernel_rfl) ?_
      refine WP.done (by kernel_rfl) ?_
      refine NX.then_n ?_
      refine CP.ret ?_
      refine NX.block_r ?_
      refine NX.then_r ?_
      refine NX.then_r ?_
      refine NX.block_r ?_
      refine NX.then_r ?_
      replace hs := Option.some.inj hs
      obtain rfl := hs
      exact NX.fin (v := .bool false) (Res.still (by kernel_rfl)) tot htL rfl
    replace hs := of_if_f hs h7
    refine CP.skip ?_
    refine NX.block_n ?_
    refine NX.then_n ?_
    refine CP.region ?_
    refine WP.still 2 (by kernel_rfl) ?_
    refine WP.done (by kernel_rfl) ?_
    refine NX.post ?_
    exact ⟨(IntKind.i64.wrap (x1 + 1)), ⟨by kernel_rfl, by kernel_rfl⟩, tot, hR1, hR2, hs⟩
  replace hs := of_if_f hs h6
  refine CP.exit ?_
  refine NX.then_e ?_
  refine NX.then_e ?_
  refine NX.block_s ?_
  refine NX.then_n ?_
  refine CP.seqR ?_
  refine WP.still 1 (by kernel_rfl) ?_
  refine WP.done (by kernel_rfl) ?_
  refine NX.then_n ?_
  refine CP.ret ?_
  replace hs := Option.some.inj hs
  obtain rfl := hs
  exact NX.fin (v := .bool true) (Res.still (by kernel_rfl)) tot htL rfl
def F.purse_Same.c1 (q2 : Bool) : Option (Bool) := (some q2)
def F.purse_Same (d1 : Arr Int 8) (x1 : Int) (d2 : Arr Int 2) (l1 : List S_purse_Held) (d3 : Arr Int 8) (x2 : Int) (d4 : Arr Int 2) (l2 : List S_purse_Held) : Option (Bool) := (if (d1.1 == d3.1) = true then (if (x1 == x2) = true then (if (d2.1 == d4.1) = true then ((F.slices_Equal_purse_Held_purse_Held l1 l2).bind fun q3 => (F.purse_Same.c1 q3)) else (F.purse_Same.c1 false)) else (F.purse_Same.c1 false)) else (F.purse_Same.c1 false))
theorem P.purse_Same (g0 : GW) (d1 : Arr Int 8) (x1 : Int) (d2 : Arr Int 2) (l1 : List S_purse_Held) (d3 : Arr Int 8) (x2 : Int) (d4 : Arr Int 2) (l2 : List S_purse_Held) (a1 : Option Addr) (n1 : Nat) (c1 : Nat) (a2 : Option Addr) (n2 : Nat) (c2 : Nat) (hR1 : RdS k_S_purse_Held g0 56 a1 n1 c1 l1) (hR2 : RdS k_S_purse_Held g0 56 a2 n2 c2 l2) (o1 : Bool) (hs : F.purse_Same d1 x1 d2 l1 d3 x2 d4 l2 = some o1) :
    Calls Try.prog 20 #[AG [encA .u8 d1, [.int .i64 x1], encA .i64 d2, [.slice a1 n1 c1]], AG [encA .u8 d3, [.int .i64 x2], encA .i64 d4, [.slice a2 n2 c2]]] g0.w (Ret NoM g0 fun v g => v = .bool o1) := by
  refine calls_of (args := [AG [encA .u8 d1, [.int .i64 x1], encA .i64 d2, [.slice a1 n1 c1]], AG [encA .u8 d3, [.int .i64 x2], encA .i64 d4, [.slice a2 n2 c2]]]) Try.func20 rfl (0) ?_
  intro t ht htL
  refine ⟨_, rfl, ?_⟩
  refine CP.refr 31 [(0, AG [encA .u8 d1, [.int .i64 x1], encA .i64 d2, [.slice a1 n1 c1]]), (1, AG [encA .u8 d3, [.int .i64 x2], encA .i64 d4, [.slice a2 n2 c2]])] (by kernel_rfl) (by kernel_rfl) ?_
  intro ds
  have tot : Step (fun l => NoM l ∨ t ≤ l) g0 g0 := Step.refl _ _
  unfold F.purse_Same at hs
  refine CP.seqR ?_
  refine WP.alloc (T := 32) (t + 1) [encA .u8 d1, [.int .i64 x1], encA .i64 d2, [.slice a1 n1 c1]] [8, 1, 2, 1] (by kernel_rfl) (by simp [len_encA]) ?_
  intro g1 b1 st1 hB1
  replace hR1 := hR1.mono st1 (fun x => x)
  replace hR2 := hR2.mono st1 (fun x => x)
  replace tot := tot.trans st1.pure
  refine WP.alloc (T := 32) (t + 2) [encA .u8 d3, [.int .i64 x2], encA .i64 d4, [.slice a2 n2 c2]] [8, 1, 2, 1] (by kernel_rfl) (by simp [len_encA]) ?_
  intro g2 b2 st2 hB2
  replace hR1 := hR1.mono st2 (fun x => x)
  replace hR2 := hR2.mono st2 (fun x => x)
  replace hB1 := hB1.mono st2 (fun x => x)
  replace tot := tot.trans st2.pure
  refine WP.still 1 (by kernel_rfl) ?_
  refine WP.done (by kernel_rfl) ?_
  refine NX.then_n ?_
  refine CP.cut (fun tm g => ∃ (q2 : Bool), Fr 31 [(4, .bool q2)] tm ∧ Step (fun l => NoM l ∨ t ≤ l) g0 g ∧ (F.purse_Same.c1 q2) = some o1) ?_ ?_
  · refine CP.region ?_
    refine WP.still 1 (by kernel_rfl) ?_
    refine WP.loadB (v := AG [encA .u8 d1]) hB1 (by kernel_rfl) (by kernel_rfl) ?_
    refine WP.still 1 (by kernel_rfl) ?_
    refine WP.loadB (v := AG [encA .u8 d3]) hB2 (by kernel_rfl) (by kernel_rfl) ?_
    refine WP.eqV (by kernel_rfl) (by kernel_rfl) (EqV.arr (d := 9998) (t := 29) (e := 5) (m := 8) (k := .u8) (x := d1) (y := d3) (by kernel_rfl) (by kernel_rfl)) ?_
    refine WP.still 1 (by kernel_rfl) ?_
    refine WP.guard 10 (b := (d1.1 == d3.1)) (by kernel_rfl) (fun h4 => ?_) (fun h4 => ?_)
    · replace hs := of_if_t hs h4
      refine WP.still 1 (by kernel_rfl) ?_
      refine WP.loadB (v := .int .i64 x1) hB1 (by kernel_rfl) (by kernel_rfl) ?_
      refine WP.still 1 (by kernel_rfl) ?_
      refine WP.loadB (v := .int .i64 x2) hB2 (by kernel_rfl) (by kernel_rfl) ?_
      refine WP.still 3 (by kernel_rfl) ?_
      refine WP.guard 17 (b := (x1 == x2)) (by kernel_rfl) (fun h5 => ?_) (fun h5 => ?_)
      · replace hs := of_if_t hs h5
        refine WP.still 1 (by kernel_rfl) ?_
        refine WP.loadB (v := AG [encA .i64 d2]) hB1 (by kernel_rfl) (by kernel_rfl) ?_
        refine WP.still 1 (by kernel_rfl) ?_
        refine WP.loadB (v := AG [encA .i64 d4]) hB2 (by kernel_rfl) (by kernel_rfl) ?_
        refine WP.eqV (by kernel_rfl) (by kernel_rfl) (EqV.arr (d := 9998) (t := 23) (e := 3) (m := 2) (k := .i64) (x := d2) (y := d4) (by kernel_rfl) (by kernel_rfl)) ?_
        refine WP.still 2 (by kernel_rfl) ?_
        refine WP.guard 24 (b := (d2.1 == d4.1)) (by kernel_rfl) (fun h6 => ?_) (fun h6 => ?_)
        · replace hs := of_if_t hs h6
          refine WP.still 1 (by kernel_rfl) ?_
          refine WP.loadB (v := .slice a1 n1 c1) hB1 (by kernel_rfl) (by kernel_rfl) ?_
          refine WP.still 1 (by kernel_rfl) ?_
          refine WP.loadB (v := .slice a2 n2 c2) hB2 (by kernel_rfl) (by kernel_rfl) ?_
          replace hs := Option.bind_eq_some_iff.1 hs
          obtain ⟨q3, hk2, hs⟩ := hs
          have hcal2 := P.slices_Equal_purse_Held_purse_Held g2 l1 l2 a1 n1 c1 a2 n2 c2 hR1 hR2 q3 hk2
          refine WP.callC hcal2 (by kernel_rfl) ?_
          rintro _ g4 st4 rfl
          replace hB1 := hB1.mono st4 (fun x => x)
          replace hR1 := hR1.mono st4 (fun x => x)
          replace hB2 := hB2.mono st4 (fun x => x)
          replace hR2 := hR2.mono st4 (fun x => x)
          replace tot := tot.trans st4.pure
          refine WP.still 2 (by kernel_rfl) ?_
          refine WP.done (by kernel_rfl) ?_
          refine NX.post ?_
          exact ⟨q3, ⟨by kernel_rfl, by kernel_rfl⟩, tot, hs⟩
        replace hs := of_if_f hs h6
        refine WP.still 7 (by kernel_rfl) ?_
        refine WP.done (by kernel_rfl) ?_
        refine NX.post ?_
        exact ⟨false, ⟨by kernel_rfl, by kernel_rfl⟩, tot, hs⟩
      replace hs := of_if_f hs h5
      refine WP.still 14 (by kernel_rfl) ?_
      refine WP.done (by kernel_rfl) ?_
      refine NX.post ?_
      exact ⟨false, ⟨by kernel_rfl, by kernel_rfl⟩, tot, hs⟩
    replace hs := of_if_f hs h4
    refine WP.still 21 (by kernel_rfl) ?_
    refine WP.done (by kernel_rfl) ?_
    refine NX.post ?_
    exact ⟨false, ⟨by kernel_rfl, by kernel_rfl⟩, tot, hs⟩
  clear tot hs hB1 hR1 hB2 hR2
  rintro tm g ⟨q2, hF, tot, hs⟩
  clear ds
  obtain ⟨ds, rfl⟩ := hF.open
  clear hF
  unfold F.purse_Same.c1 at hs
  refine CP.ret ?_
  replace hs := Option.some.inj hs
  obtain rfl := hs
  exact NX.fin (v := .bool q2) (Res.still (by kernel_rfl)) tot htL rfl
def F.baizelaw47_PurseKeeps.c2 (nx1 : (Arr Int 8) → Int → (Arr Int 2) → (List S_purse_Held) → Int → Option (Bool)) (x12 : Int) (d21 : Arr Int 8) (x24 : Int) (d22 : Arr Int 2) (l12 : List S_purse_Held) : Option (Bool) := (nx1 d21 x24 d22 l12 (IntKind.i64.wrap (x12 + 1)))
def N.baizelaw47_PurseKeeps_0 : List (List Nat) := [[], [], [], [1, 2], [1, 2, 3], [0, 1, 2, 3, 4], [0, 1, 2, 3, 4, 5], [0, 1, 2, 3, 4, 5, 6], [0, 1, 2, 3, 4, 5, 6], [], [0, 1, 2, 3, 4, 5, 6, 7, 9], [0, 1, 2, 3, 4, 5, 6, 7, 8, 9, 10]]
def F.baizelaw47_PurseKeeps.c3 (nx1 : (Arr Int 8) → Int → (Arr Int 2) → (List S_purse_Held) → Int → Option (Bool)) (x12 : Int) (d23 : Arr Int 8) (x25 : Int) (d24 : Arr Int 2) (l13 : List S_purse_Held) (q13 : Bool) : Option (Bool) := (if q13 = true then (some false) else (F.baizelaw47_PurseKeeps.c2 nx1 x12 d23 x25 d24 l13))
def F.baizelaw47_PurseKeeps.l1 (l2 : List S_baizelaw47_Deed) (x3 : Int) : Nat → (Arr Int 8) → Int → (Arr Int 2) → (List S_purse_Held) → Int → Option (Bool)
  | 0, _, _, _, _, _ => none
  | k + 1, d11, x11, d12, l7, x12 => (if decide (x12 < (l2.length : Int)) = true then (if (0 : Int) ≤ x12 ∧ x12 < (l2.length : Int) then ((F.baizelaw47_do d11 x11 d12 l7 ((getI l2 x12).f1) ((getI l2 x12).f2) ((getI l2 x12).f3) ((getI l2 x12).f4) ((getI l2 x12).f5)).bind fun (d23, x25, d24, l13, x26) => (if (x26 != 0) = true then ((F.purse_Same d23 x25 d24 l13 (zA 8) 0 (zA 2) ([])).bind fun q12 => (if (!q12) = true then (some false) else (F.baizelaw47_PurseKeeps.c2 (F.baizelaw47_PurseKeeps.l1 l2 x3 k) x12 d11 x11 d12 l7))) else ((F.purse_Purse_Total d23 x25 d24 l13).bind fun x29 => (if (x29 != x3) = true then (F.baizelaw47_PurseKeeps.c3 (F.baizelaw47_PurseKeeps.l1 l2 x3 k) x12 d23 x25 d24 l13 true) else (if (x25 != (IntKind.i64.wrap (x11 + 1))) = true then (F.baizelaw47_PurseKeeps.c3 (F.baizelaw47_PurseKeeps.l1 l2 x3 k) x12 d23 x25 d24 l13 true) else ((F.purse_Purse_Check d23 x25 d24 l13).bind fun x30 => (if (x30 != 0) = true then (F.baizelaw47_PurseKeeps.c3 (F.baizelaw47_PurseKeeps.l1 l2 x3 k) x12 d23 x25 d24 l13 true) else (F.baizelaw47_PurseKeeps.c3 (F.baizelaw47_PurseKeeps.l1 l2 x3 k) x12 d23 x25 d24 l13 (!(d23.1 == d11.1)))))))))) else none) else ((F.baizelaw47_told).bind fun q14 => (some q14)))
def F.baizelaw47_PurseKeeps.c1 (d1 : Arr Int 8) (x1 : Int) (d2 : Arr Int 2) (l1 : List S_baizeref47_Held) (l2 : List S_baizelaw47_Deed) (q2 : Bool) : Option (Bool) := (if q2 = true then ((F.baizelaw47_told).bind fun q3 => (some q3)) else ((F.baizelaw47_Own d1 x1 d2 l1).bind fun (d3, x2, d4, l3) => ((F.purse_Purse_Total d3 x2 d4 l3).bind fun x3 => (F.baizelaw47_PurseKeeps.l1 l2 x3 fuel d3 x2 d4 l3 0))))
def F.baizelaw47_PurseKeeps (d1 : Arr Int 8) (x1 : Int) (d2 : Arr Int 2) (l1 : List S_baizeref47_Held) (l2 : List S_baizelaw47_Deed) : Option (Bool) := ((F.baizelaw47_great d1 x1 d2 l1).bind fun q15 => (if q15 = true then (F.baizelaw47_PurseKeeps.c1 d1 x1 d2 l1 l2 true) else (F.baizelaw47_PurseKeeps.c1 d1 x1 d2 l1 l2 (decide ((l2.length : Int) > 40)))))
theorem P.baizelaw47_PurseKeeps (g0 : GW) (d1 : Arr Int 8) (x1 : Int) (d2 : Arr Int 2) (l1 : List S_baizeref47_Held) (l2 : List S_baizelaw47_Deed) (a1 : Option Addr) (n1 : Nat) (c1 : Nat) (a2 : Option Addr) (n2 : Nat) (c2 : Nat) (hR1 : RdS k_S_baizeref47_Held g0 60 a1 n1 c1 l1) (hR2 : RdS k_S_baizelaw47_Deed g0 43 a2 n2 c2 l2) (o1 : Bool) (hs : F.baizelaw47_PurseKeeps d1 x1 d2 l1 l2 = some o1) :
    Calls Try.prog 5 #[AG [encA .u8 d1, [.int .i64 x1], encA .i64 d2, [.slice a1 n1 c1]], .slice a2 n2 c2] g0.w (Ret NoM g0 fun v g => v = .bool o1) := by
  refine calls_of (args := [AG [encA .u8 d1, [.int .i64 x1], encA .i64 d2, [.slice a1 n1 c1]], .slice a2 n2 c2]) Try.func5 rfl (0) ?_
  intro t ht htL
  refine ⟨_, rfl, ?_⟩
  refine CP.refr 69 [(0, AG [encA .u8 d1, [.int .i64 x1], encA .i64 d2, [.slice a1 n1 c1]]), (1, .slice a2 n2 c2)] (by kernel_rfl) (by kernel_rfl) ?_
  intro ds
  have tot : Step (fun l => NoM l ∨ t ≤ l) g0 g0 := Step.refl _ _
  unfold F.baizelaw47_PurseKeeps at hs
  refine CP.seqR ?_
  refine WP.alloc (T := 26) (t + 1) [encA .u8 d1, [.int .i64 x1], encA .i64 d2, [.slice a1 n1 c1]] [8, 1, 2, 1] (by kernel_rfl) (by simp [len_encA]) ?_
  intro g1 b1 st1 hB1
  replace hR1 := hR1.mono st1 (fun x => x)
  replace hR2 := hR2.mono st1 (fun x => x)
  replace tot := tot.trans st1.pure
  refine WP.still 1 (by kernel_rfl) ?_
  refine WP.done (by kernel_rfl) ?_
  refine NX.then_n ?_
  refine CP.seq ?_
  refine CP.cut (fun tm g => ∃ (q2 : Bool), Fr 69 [(1, .slice a2 n2 c2), (2, .pointer (some ⟨b1, 0, none⟩)), (16, .bool q2)] tm ∧ Step (fun l => NoM l ∨ t ≤ l) g0 g ∧ RdS k_S_baizelaw47_Deed g 43 a2 n2 c2 l2 ∧ Box g (t + 1) b1 26 [encA .u8 d1, [.int .i64 x1], encA .i64 d2, [.slice a1 n1 c1]] [8, 1, 2, 1] ∧ RdS k_S_baizeref47_Held g 60 a1 n1 c1 l1 ∧ (F.baizelaw47_PurseKeeps.c1 d1 x1 d2 l1 l2 q2) = some o1) ?_ ?_
  · refine CP.region ?_
    refine WP.loadB (v := AG [encA .u8 d1, [.int .i64 x1], encA .i64 d2, [.slice a1 n1 c1]]) hB1 (by kernel_rfl) (by kernel_rfl) ?_
    replace hs := Option.bind_eq_some_iff.1 hs
    obtain ⟨q15, hk27, hs⟩ := hs
    have hcal27 := P.baizelaw47_great g1 d1 x1 d2 l1 a1 n1 c1 hR1 q15 hk27
    refine WP.callC hcal27 (by kernel_rfl) ?_
    rintro _ g46 st46 rfl
    replace hR2 := hR2.mono st46 (fun x => x)
    replace hB1 := hB1.mono st46 (fun x => x)
    replace hR1 := hR1.mono st46 (fun x => x)
    replace tot := tot.trans st46.pure
    refine WP.still 1 (by kernel_rfl) ?_
    refine WP.guard 12 (b := q15) (by kernel_rfl) (fun h33 => ?_) (fun h33 => ?_)
    · replace hs := of_if_t hs h33
      refine WP.still 4 (by kernel_rfl) ?_
      refine WP.done (by kernel_rfl) ?_
      refine NX.post ?_
      exact ⟨true, ⟨by kernel_rfl, by kernel_rfl⟩, tot, hR2, hB1, hR1, hs⟩
    replace hs := of_if_f hs h33
    refine WP.still 1 (by kernel_rfl) ?_
    refine WP.len (a := a2) (cp := c2) hR2.len (by kernel_rfl) ?_
    refine WP.still 2 (by kernel_rfl) ?_
    refine WP.done (by kernel_rfl) ?_
    refine NX.post ?_
    exact ⟨decide ((l2.length : Int) > 40), ⟨by kernel_rfl, by kernel_rfl⟩, tot, hR2, hB1, hR1, hs⟩
  clear tot hs hR2 hB1 hR1
  rintro tm g ⟨q2, hF, tot, hR2, hB1, hR1, hs⟩
  clear ds
  obtain ⟨ds, rfl⟩ := hF.open
  clear hF
  unfold F.baizelaw47_PurseKeeps.c1 at hs
  refine CP.cond (b := q2) (by kernel_rfl) (fun h2 => ?_) (fun h2 => ?_)
  · replace hs := of_if_t hs h2
    refine CP.seqR ?_
    replace hs := Option.bind_eq_some_iff.1 hs
    obtain ⟨q3, hk2, hs⟩ := hs
    have hcal2 := P.baizelaw47_told g q3 hk2
    refine WP.callC hcal2 (by kernel_rfl) ?_
    rintro _ g3 st3 rfl
    replace hR2 := hR2.mono st3 (fun x => x)
    replace hB1 := hB1.mono st3 (fun x => x)
    replace hR1 := hR1.mono st3 (fun x => x)
    replace tot := tot.trans st3.pure
    refine WP.still 1 (by kernel_rfl) ?_
    refine WP.done (by kernel_rfl) ?_
    refine NX.then_n ?_
    refine CP.ret ?_
    refine NX.then_r ?_
    replace hs := Option.some.inj hs
    obtain rfl := hs
    exact NX.fin (v := .bool q3) (Res.still (by kernel_rfl)) tot htL rfl
  replace hs := of_if_f hs h2
  refine CP.skip ?_
  refine NX.then_n ?_
  refine CP.seqR ?_
  refine WP.loadB (v := AG [encA .u8 d1, [.int .i64 x1], encA .i64 d2, [.slice a1 n1 c1]]) hB1 (by kernel_rfl) (by kernel_rfl) ?_
  replace hs := Option.bind_eq_some_iff.1 hs
  obtain ⟨⟨d3, x2, d4, l3⟩, hk3, hs⟩ := hs
  dsimp only at hs
  have hcal3 := P.baizelaw47_Own g (t + 2) d1 x1 d2 l1 a1 n1 c1 hR1 d3 x2 d4 l3 hk3
  refine WP.callC hcal3 (by kernel_rfl) ?_
  rintro _ g4 st4 ⟨a3, n3, c3, rfl, hR3⟩
  replace hR2 := hR2.mono st4 (fun x => x)
  replace hB1 := hB1.mono st4 (fun x => x)
  replace hR1 := hR1.mono st4 (fun x => x)
  replace tot := tot.trans st4.pure
  refine WP.alloc (T := 32) (t + 3) [encA .u8 (zA 8), [.int .i64 0], encA .i64 (zA 2), [.slice none 0 0]] [8, 1, 2, 1] (by kernel_rfl) (by simp [len_encA]) ?_
  intro g5 b2 st5 hB2
  replace hR2 := hR2.mono st5 (fun x => x)
  replace hB1 := hB1.mono st5 (fun x => x)
  replace hR1 := hR1.mono st5 (fun x => x)
  replace hR3 := hR3.mono st5 (fun x => x) (fun x => x)
  replace tot := tot.trans st5.pure
  refine WP.storeB (ty := 32) (off := 0) (v := AG [encA .u8 d3, [.int .i64 x2], encA .i64 d4, [.slice a3 n3 c3]]) hB2 [encA .u8 d3, [.int .i64 x2], encA .i64 d4, [.slice a3 n3 c3]] [8, 1, 2, 1] (by kernel_rfl) (by kernel_rfl) (by simp [len_encA]) (by kernel_rfl) [encA .u8 d3, [.int .i64 x2], encA .i64 d4, [.slice a3 n3 c3]] (by kernel_rfl) (.arr (.one rfl (.arr (.one rfl .nil)))) ?_
  intro g6 st6 hB3
  replace hR2 := hR2.mono st6 (WL.no1 (by omega))
  replace hB1 := hB1.mono st6 (WL.no1 (by omega))
  replace hR1 := hR1.mono st6 (WL.no1 (by omega))
  replace hR3 := hR3.mono st6 (WL.no1 (by omega)) (WL.no1 (by omega))
  replace tot := tot.trans (st6.up1 (.inr (by omega)))
  clear hB2
  have hB2 := hB3
  clear hB3
  refine WP.done (by kernel_rfl) ?_
  refine NX.then_n ?_
  refine CP.seqR ?_
  refine WP.loadB (v := AG [encA .u8 d3, [.int .i64 x2], encA .i64 d4, [.slice a3 n3 c3]]) hB2 (by kernel_rfl) (by kernel_rfl) ?_
  replace hs := Option.bind_eq_some_iff.1 hs
  obtain ⟨x3, hk4, hs⟩ := hs
  have hS1 : 0 ∉ ([(t + 2)] : List Nat) := by simp <;> omega
  have stl1 := GW.lend_step g6 [(t + 2)]
  have hRl1 := hR3.lendTo hS1 (by simp)
  refine WP.regw (g' := GW.lend g6 [(t + 2)]) rfl ?_
  have hcal4 := P.purse_Purse_Total (GW.lend g6 [(t + 2)]) d3 x2 d4 l3 a3 n3 c3 hRl1 x3 hk4
  refine WP.callC hcal4 (by kernel_rfl) ?_
  rintro _ g7 st7 rfl
  have st8 := (GW.back_step st7).lentS
  have hO1 := hR3.backTo hS1 (by simp) st7 (fun x => x)
  refine WP.regw (g' := GW.back g6 g7 [(t + 2)]) rfl ?_
  generalize GW.back g6 g7 [(t + 2)] = g8 at *
  replace hR2 := hR2.mono st8 (WL.no1 (by omega))
  replace hB2 := hB2.mono st8 (WL.no1 (by omega))
  replace tot := tot.trans (st8.up1 (.inr (by omega)))
  clear hR3
  have hR3 : OwnS k_S_purse_Held g8 (t + 2) 56 a3 n3 c3 l3 := hO1
  clear hO1
  refine WP.still 1 (by kernel_rfl) ?_
  refine WP.done (by kernel_rfl) ?_
  refine NX.then_n ?_
  refine CP.seq ?_
  refine CP.seqR ?_
  refine WP.still 1 (by kernel_rfl) ?_
  refine WP.done (by kernel_rfl) ?_
  refine NX.then_n ?_
  refine CP.block ?_
  obtain ⟨g45, hw2, st45, hnew⟩ := hR3.freeze (by omega)
  refine CP.regw hw2 ?_
  replace hR2 := hR2.mono st45 (WL.no1 (by omega))
  replace hB2 := hB2.mono st45 (WL.no1 (by omega))
  replace tot := tot.trans (st45.up1 (.inr (by omega)))
  clear hR3
  have hR3 := hnew
  clear hnew
  generalize fuel = k1 at hs
  refine CP.loop (fun k1 tm g => ∃ (d11 : Arr Int 8) (x11 : Int) (d12 : Arr Int 2) (l7 : List S_purse_Held) (a7 : Option Addr) (n7 : Nat) (c7 : Nat) (x12 : Int), Fr 69 [(1, .slice a2 n2 c2), (5, .pointer (some ⟨b2, 0, none⟩)), (6, .int .i64 x3), (7, .int .i64 x12)] tm ∧ Step (fun l => NoM l ∨ t ≤ l) g0 g ∧ RdS k_S_baizelaw47_Deed g 43 a2 n2 c2 l2 ∧ Box g (t + 3) b2 32 [encA .u8 d11, [.int .i64 x11], encA .i64 d12, [.slice a7 n7 c7]] [8, 1, 2, 1] ∧ RdS k_S_purse_Held g 56 a7 n7 c7 l7 ∧ F.baizelaw47_PurseKeeps.l1 l2 x3 k1 d11 x11 d12 l7 x12 = some o1) k1 ?_ ?_ ?_
  · exact ⟨d3, x2, d4, l3, a3, n3, c3, 0, ⟨by kernel_rfl, by kernel_rfl⟩, tot, hR2, hB2, hR3, hs⟩
  · rintro tm g ⟨d11, x11, d12, l7, a7, n7, c7, x12, hF, tot, hR2, hB2, hR7, hs⟩
    exact absurd hs (by simp [F.baizelaw47_PurseKeeps.l1])
  clear tot hs hR2 hB2 hR3
  rintro k1 tm g ⟨d11, x11, d12, l7, a7, n7, c7, x12, hF, tot, hR2, hB2, hR7, hs⟩
  clear ds
  obtain ⟨ds, rfl⟩ := hF.open
  clear hF
  unfold F.baizelaw47_PurseKeeps.l1 at hs
  refine CP.seq ?_
  refine CP.seqR ?_
  refine WP.still 2 (by kernel_rfl) ?_
  refine WP.len (a := a2) (cp := c2) hR2.len (by kernel_rfl) ?_
  refine WP.still 1 (by kernel_rfl) ?_
  refine WP.done (by kernel_rfl) ?_
  refine NX.then_n ?_
  refine CP.cond (b := decide (x12 < (l2.length : Int))) (by kernel_rfl) (fun h17 => ?_) (fun h17 => ?_)
  · replace hs := of_if_t hs h17
    refine CP.skip ?_
    refine NX.then_n ?_
    refine CP.cut (fun tm g => ∃ (d21 : Arr Int 8) (x24 : Int) (d22 : Arr Int 2) (l12 : List S_purse_Held) (a12 : Option Addr) (n12 : Nat) (c12 : Nat), Fr 69 [(1, .slice a2 n2 c2), (5, .pointer (some ⟨b2, 0, none⟩)), (6, .int .i64 x3), (7, .int .i64 x12)] tm ∧ Step (fun l => NoM l ∨ t ≤ l) g0 g ∧ RdS k_S_baizelaw47_Deed g 43 a2 n2 c2 l2 ∧ Box g (t + 3) b2 32 [encA .u8 d21, [.int .i64 x24], encA .i64 d22, [.slice a12 n12 c12]] [8, 1, 2, 1] ∧ RdS k_S_purse_Held g 56 a12 n12 c12 l12 ∧ (F.baizelaw47_PurseKeeps.c2 (F.baizelaw47_PurseKeeps.l1 l2 x3 k1) x12 d21 x24 d22 l12) = some o1) ?_ ?_
    · refine CP.block ?_
      refine CP.seq ?_
      by_cases hc5 : (0 : Int) ≤ x12 ∧ x12 < (l2.length : Int)
      case neg => rw [if_neg hc5] at hs; cases hs
      replace hs := of_if_p hs hc5
      replace hs := Option.bind_eq_some_iff.1 hs
      obtain ⟨⟨d23, x25, d24, l13, x26⟩, hk20, hs⟩ := hs
      dsimp only at hs
      obtain ⟨b10, u5, ha5⟩ := hR2.at hc5
      refine CP.drawL (by kernel_rfl) [0, 3, 4, 5, 9, 10] N.baizelaw47_PurseKeeps_0 [⟨none, [], [], fun l g => RdS k_S_baizelaw47_Deed g 43 a2 n2 c2 l2⟩, ⟨none, [], [], fun l g => Box g (t + 3) b2 32 [encA .u8 d11, [.int .i64 x11], encA .i64 d12, [.slice a7 n7 c7]] [8, 1, 2, 1]⟩, ⟨none, [], [], fun l g => RdS k_S_purse_Held g 56 a7 n7 c7 l7⟩, ⟨some 0, [], [0], fun l g => l.getD 0 undef = AG [encA .u8 d11, [.int .i64 x11], encA .i64 d12, [.slice a7 n7 c7]]⟩, ⟨some 1, [], [1], fun l g => l.getD 0 undef = .pointer (some ⟨b10, u5 + x12.toNat * 12, none⟩)⟩, ⟨some 2, [], [2], fun l g => l.getD 0 undef = AG [[.int .u8 ((getI l2 x12).f1)], encA .u8 ((getI l2 x12).f2), [.int .i64 ((getI l2 x12).f3)], [.int .i64 ((getI l2 x12).f4)], [.int .i64 ((getI l2 x12).f5)]]⟩, ⟨some 3, [], [3], fun l g => ∃ (a13 : Option Addr) (c13 : Nat), l.getD 0 undef = .tuple #[AG [encA .u8 d23, [.int .i64 x25], encA .i64 d24, [.slice a13 l13.length c13]], .int .i64 x26] ∧ RdS k_S_purse_Held g 56 a13 l13.length c13 l13⟩, ⟨some 4, [0], [4], fun l g => ∃ (b11 : Nat), l.getD 0 undef = .pointer (some ⟨b11, 0, none⟩) ∧ Box g (t + 7) b11 32 [encA .u8 (zA 8), [.int .i64 0], encA .i64 (zA 2), [.slice none 0 0]] [8, 1, 2, 1]⟩, ⟨some 5, [0], [4, 3], fun l g => ∃ (b11 : Nat) (a13 : Option Addr) (c13 : Nat), l.getD 0 undef = .pointer (some ⟨b11, 0, none⟩) ∧ l.getD 1 undef = .tuple #[AG [encA .u8 d23, [.int .i64 x25], encA .i64 d24, [.slice a13 l13.length c13]], .int .i64 x26] ∧ Box g (t + 7) b11 32 [encA .u8 d23, [.int .i64 x25], encA .i64 d24, [.slice a13 l13.length c13]] [8, 1, 2, 1] ∧ RdS k_S_purse_Held g 56 a13 l13.length c13 l13⟩] [[], [], [], [], [], [0]] [(t + 7)] [1, 2] [6, 7, 8, 11] (by kernel_rfl) (by simp <;> omega) (by simp) ⟨fun _ _ _ _ st h0 hl hj hR2 => (RdS.mono (e := 43) hR2 st h0), fun _ _ _ _ st h0 hl hj hB2 => (hB2.mono st (fun h => absurd (hl _ h) (by simp <;> omega))), fun _ _ _ _ st h0 hl hj hR7 => (RdS.mono (e := 56) hR7 st h0), fun _ _ _ _ st h0 hl hj e0 => e0, fun _ _ _ _ st h0 hl hj e1 => e1, fun _ _ _ _ st h0 hl hj e2 => e2, fun _ _ _ _ st h0 hl hj ⟨a13, c13, e3, hR13⟩ => ⟨a13, c13, e3, (RdS.mono (e := 56) hR13 st h0)⟩, fun _ _ _ _ st h0 hl hj ⟨b11, e4, hB13⟩ => ⟨b11, e4, (hB13.mono st (hj 0 (by simp) _ rfl))⟩, fun _ _ _ _ st h0 hl hj ⟨b11, a13, c13, e4, e3, hB13, hR13⟩ => ⟨b11, a13, c13, e4, e3, (hB13.mono st (hj 0 (by simp) _ rfl)), (RdS.mono (e := 56) hR13 st h0)⟩, trivial⟩ ⟨hR2, hB2, hR7, trivial, trivial, trivial, trivial, trivial, trivial, trivial⟩ (by kernel_rfl) (fun vs => by kernel_rfl) ?_ ?_ ?_
      · intro j hj
        have hq : j = 0 ∨ j = 1 ∨ j = 2 ∨ j = 3 := by have h : j < 4 := hj; omega
        rcases hq with rfl | rfl | rfl | rfl
        · intro vs gq stq hl hf
          replace hl : vs.length = 6 := hl
          obtain ⟨v0, vs0, rfl, hl0⟩ := len_succ hl
          obtain ⟨v1, vs1, rfl, hl1⟩ := len_succ hl0
          obtain ⟨v2, vs2, rfl, hl2⟩ := len_succ hl1
          obtain ⟨v3, vs3, rfl, hl3⟩ := len_succ hl2
          obtain ⟨v4, vs4, rfl, hl4⟩ := len_succ hl3
          obtain ⟨v5, vs5, rfl, hl5⟩ := len_succ hl4
          obtain rfl := len_zero hl5
          obtain ⟨a13, c13, e3, hR13⟩ := (show ∃ (a13 : Option Addr) (c13 : Nat), v3 = .tuple #[AG [encA .u8 d23, [.int .i64 x25], encA .i64 d24, [.slice a13 l13.length c13]], .int .i64 x26] ∧ RdS k_S_purse_Held gq 56 a13 l13.length c13 l13 from hf _ (List.mem_of_getElem? (i := 6) rfl) (by kernel_rfl))
          subst e3
          show Option.isSome _ = true
          kernel_rfl
        · intro vs gq stq hl hf
          replace hl : vs.length = 6 := hl
          obtain ⟨v0, vs0, rfl, hl0⟩ := len_succ hl
          obtain ⟨v1, vs1, rfl, hl1⟩ := len_succ hl0
          obtain ⟨v2, vs2, rfl, hl2⟩ := len_succ hl1
          obtain ⟨v3, vs3, rfl, hl3⟩ := len_succ hl2
          obtain ⟨v4, vs4, rfl, hl4⟩ := len_succ hl3
          obtain ⟨v5, vs5, rfl, hl5⟩ := len_succ hl4
          obtain rfl := len_zero hl5
          obtain ⟨a13, c13, e3, hR13⟩ := (show ∃ (a13 : Option Addr) (c13 : Nat), v3 = .tuple #[AG [encA .u8 d23, [.int .i64 x25], encA .i64 d24, [.slice a13 l13.length c13]], .int .i64 x26] ∧ RdS k_S_purse_Held gq 56 a13 l13.length c13 l13 from hf _ (List.mem_of_getElem? (i := 6) rfl) (by kernel_rfl))
          subst e3
          show Option.isSome _ = true
          kernel_rfl
        · intro vs gq stq hl hf
          replace hl : vs.length = 6 := hl
          obtain ⟨v0, vs0, rfl, hl0⟩ := len_succ hl
          obtain ⟨v1, vs1, rfl, hl1⟩ := len_succ hl0
          obtain ⟨v2, vs2, rfl, hl2⟩ := len_succ hl1
          obtain ⟨v3, vs3, rfl, hl3⟩ := len_succ hl2
          obtain ⟨v4, vs4, rfl, hl4⟩ := len_succ hl3
          obtain ⟨v5, vs5, rfl, hl5⟩ := len_succ hl4
          obtain rfl := len_zero hl5
          obtain ⟨a13, c13, e3, hR13⟩ := (show ∃ (a13 : Option Addr) (c13 : Nat), v3 = .tuple #[AG [encA .u8 d23, [.int .i64 x25], encA .i64 d24, [.slice a13 l13.length c13]], .int .i64 x26] ∧ RdS k_S_purse_Held gq 56 a13 l13.length c13 l13 from hf _ (List.mem_of_getElem? (i := 6) rfl) (by kernel_rfl))
          subst e3
          show Option.isSome _ = true
          kernel_rfl
        · intro vs gq stq hl hf
          replace hl : vs.length = 6 := hl
          obtain ⟨v0, vs0, rfl, hl0⟩ := len_succ hl
          obtain ⟨v1, vs1, rfl, hl1⟩ := len_succ hl0
          obtain ⟨v2, vs2, rfl, hl2⟩ := len_succ hl1
          obtain ⟨v3, vs3, rfl, hl3⟩ := len_succ hl2
          obtain ⟨v4, vs4, rfl, hl4⟩ := len_succ hl3
          obtain ⟨v5, vs5, rfl, hl5⟩ := len_succ hl4
          obtain rfl := len_zero hl5
          obtain ⟨b11, a13, c13, e4, e3, hB13, hR13⟩ := (show ∃ (b11 : Nat) (a13 : Option Addr) (c13 : Nat), v4 = .pointer (some ⟨b11, 0, none⟩) ∧ v3 = .tuple #[AG [encA .u8 d23, [.int .i64 x25], encA .i64 d24, [.slice a13 l13.length c13]], .int .i64 x26] ∧ Box gq (t + 7) b11 32 [encA .u8 d23, [.int .i64 x25], encA .i64 d24, [.slice a13 l13.length c13]] [8, 1, 2, 1] ∧ RdS k_S_purse_Held gq 56 a13 l13.length c13 l13 from hf _ (List.mem_of_getElem? (i := 8) rfl) (by kernel_rfl))
          subst e4
          subst e3
          show Option.isSome _ = true
          kernel_rfl
      · intro j hj
        have hq : j = 0 ∨ j = 1 ∨ j = 2 ∨ j = 3 ∨ j = 4 ∨ j = 5 := by have h : j < 6 := hj; omega
        rcases hq with rfl | rfl | rfl | rfl | rfl | rfl
        · intro vs gq stq hl hf
          replace hl : vs.length = 6 := hl
          obtain ⟨v0, vs0, rfl, hl0⟩ := len_succ hl
          obtain ⟨v1, vs1, rfl, hl1⟩ := len_succ hl0
          obtain ⟨v2, vs2, rfl, hl2⟩ := len_succ hl1
          obtain ⟨v3, vs3, rfl, hl3⟩ := len_succ hl2
          obtain ⟨v4, vs4, rfl, hl4⟩ := len_succ hl3
          obtain ⟨v5, vs5, rfl, hl5⟩ := len_succ hl4
          obtain rfl := len_zero hl5
          have hB2 := (show Box gq (t + 3) b2 32 [encA .u8 d11, [.int .i64 x11], encA .i64 d12, [.slice a7 n7 c7]] [8, 1, 2, 1] from hf _ (List.mem_of_getElem? (i := 1) rfl) (by kernel_rfl))
          refine WP.loadB (v := AG [encA .u8 d11, [.int .i64 x11], encA .i64 d12, [.slice a7 n7 c7]]) hB2 (by kernel_rfl) (by kernel_rfl) ?_
          refine WP.done (by kernel_rfl) (Shown.ok (v := AG [encA .u8 d11, [.int .i64 x11], encA .i64 d12, [.slice a7 n7 c7]]) (by kernel_rfl) (Step.refl _ _) ?_)
          exact ⟨trivial, trivial, trivial, rfl, trivial, trivial, trivial, trivial, trivial, trivial⟩
        · intro vs gq stq hl hf
          replace hl : vs.length = 6 := hl
          obtain ⟨v0, vs0, rfl, hl0⟩ := len_succ hl
          obtain ⟨v1, vs1, rfl, hl1⟩ := len_succ hl0
          obtain ⟨v2, vs2, rfl, hl2⟩ := len_succ hl1
          obtain ⟨v3, vs3, rfl, hl3⟩ := len_succ hl2
          obtain ⟨v4, vs4, rfl, hl4⟩ := len_succ hl3
          obtain ⟨v5, vs5, rfl, hl5⟩ := len_succ hl4
          obtain rfl := len_zero hl5
          have hR2 := (show RdS k_S_baizelaw47_Deed gq 43 a2 n2 c2 l2 from hf _ (List.mem_of_getElem? (i := 0) rfl) (by kernel_rfl))
          refine WP.indexA (t := 38) (e := 43) (sz := 12) (cap := c2) (k := .i64) (i := x12) hR2.len ha5 (by kernel_rfl) (by kernel_rfl) hc5 ?_
          refine WP.done (by kernel_rfl) (Shown.ok (v := .pointer (some ⟨b10, u5 + x12.toNat * 12, none⟩)) (by kernel_rfl) (Step.refl _ _) ?_)
          exact ⟨trivial, trivial, trivial, trivial, rfl, trivial, trivial, trivial, trivial, trivial⟩
        · intro vs gq stq hl hf
          replace hl : vs.length = 6 := hl
          obtain ⟨v0, vs0, rfl, hl0⟩ := len_succ hl
          obtain ⟨v1, vs1, rfl, hl1⟩ := len_succ hl0
          obtain ⟨v2, vs2, rfl, hl2⟩ := len_succ hl1
          obtain ⟨v3, vs3, rfl, hl3⟩ := len_succ hl2
          obtain ⟨v4, vs4, rfl, hl4⟩ := len_succ hl3
          obtain ⟨v5, vs5, rfl, hl5⟩ := len_succ hl4
          obtain rfl := len_zero hl5
          have hR2 := (show RdS k_S_baizelaw47_Deed gq 43 a2 n2 c2 l2 from hf _ (List.mem_of_getElem? (i := 0) rfl) (by kernel_rfl))
          have e1 := (show v1 = .pointer (some ⟨b10, u5 + x12.toNat * 12, none⟩) from hf _ (List.mem_of_getElem? (i := 4) rfl) (by kernel_rfl))
          subst e1
          obtain ⟨cs5, hcR5, hcV5⟩ := hR2.src.view (getI_some hc5) ha5
          replace hcR5 := k_S_baizelaw47_Deed.opn hcR5
          refine WP.loadV [[.int .u8 ((getI l2 x12).f1)], encA .u8 ((getI l2 x12).f2), [.int .i64 ((getI l2 x12).f3)], [.int .i64 ((getI l2 x12).f4)], [.int .i64 ((getI l2 x12).f5)]] [1, 8, 1, 1, 1] hcV5 hcR5 (by simp [len_encA]) (f := 0) (ty := 43) (agg := true) (size := 12) (rs := [[.int .u8 ((getI l2 x12).f1)], encA .u8 ((getI l2 x12).f2), [.int .i64 ((getI l2 x12).f3)], [.int .i64 ((getI l2 x12).f4)], [.int .i64 ((getI l2 x12).f5)]]) (v := AG [[.int .u8 ((getI l2 x12).f1)], encA .u8 ((getI l2 x12).f2), [.int .i64 ((getI l2 x12).f3)], [.int .i64 ((getI l2 x12).f4)], [.int .i64 ((getI l2 x12).f5)]]) (by kernel_rfl) (by kernel_rfl) (by kernel_rfl) (by kernel_rfl) ?_
          refine WP.done (by kernel_rfl) (Shown.ok (v := AG [[.int .u8 ((getI l2 x12).f1)], encA .u8 ((getI l2 x12).f2), [.int .i64 ((getI l2 x12).f3)], [.int .i64 ((getI l2 x12).f4)], [.int .i64 ((getI l2 x12).f5)]]) (by kernel_rfl) (Step.refl _ _) ?_)
          exact ⟨trivial, trivial, trivial, trivial, trivial, rfl, trivial, trivial, trivial, trivial⟩
        · intro vs gq stq hl hf
          replace hl : vs.length = 6 := hl
          obtain ⟨v0, vs0, rfl, hl0⟩ := len_succ hl
          obtain ⟨v1, vs1, rfl, hl1⟩ := len_succ hl0
          obtain ⟨v2, vs2, rfl, hl2⟩ := len_succ hl1
          obtain ⟨v3, vs3, rfl, hl3⟩ := len_succ hl2
          obtain ⟨v4, vs4, rfl, hl4⟩ := len_succ hl3
          obtain ⟨v5, vs5, rfl, hl5⟩ := len_succ hl4
          obtain rfl := len_zero hl5
          have hR7 := (show RdS k_S_purse_Held gq 56 a7 n7 c7 l7 from hf _ (List.mem_of_getElem? (i := 2) rfl) (by kernel_rfl))
          have e0 := (show v0 = AG [encA .u8 d11, [.int .i64 x11], encA .i64 d12, [.slice a7 n7 c7]] from hf _ (List.mem_of_getElem? (i := 3) rfl) (by kernel_rfl))
          subst e0
          have e2 := (show v2 = AG [[.int .u8 ((getI l2 x12).f1)], encA .u8 ((getI l2 x12).f2), [.int .i64 ((getI l2 x12).f3)], [.int .i64 ((getI l2 x12).f4)], [.int .i64 ((getI l2 x12).f5)]] from hf _ (List.mem_of_getElem? (i := 5) rfl) (by kernel_rfl))
          subst e2
          have hcal20 := P.baizelaw47_do gq d11 x11 d12 l7 ((getI l2 x12).f1) ((getI l2 x12).f2) ((getI l2 x12).f3) ((getI l2 x12).f4) ((getI l2 x12).f5) a7 n7 c7 hR7 d23 x25 d24 l13 x26 hk20
          refine WP.callC hcal20 (by kernel_rfl) ?_
          rintro _ g34 st34 ⟨a13, n13, c13, rfl, hR13⟩
          obtain rfl := hR13.len
          refine WP.done (by kernel_rfl) (Shown.ok (v := .tuple #[AG [encA .u8 d23, [.int .i64 x25], encA .i64 d24, [.slice a13 l13.length c13]], .int .i64 x26]) (by kernel_rfl) st34.pure ?_)
          exact ⟨trivial, trivial, trivial, trivial, trivial, trivial, ⟨a13, c13, rfl, hR13⟩, trivial, trivial, trivial⟩
        · intro vs gq stq hl hf
          replace hl : vs.length = 6 := hl
          obtain ⟨v0, vs0, rfl, hl0⟩ := len_succ hl
          obtain ⟨v1, vs1, rfl, hl1⟩ := len_succ hl0
          obtain ⟨v2, vs2, rfl, hl2⟩ := len_succ hl1
          obtain ⟨v3, vs3, rfl, hl3⟩ := len_succ hl2
          obtain ⟨v4, vs4, rfl, hl4⟩ := len_succ hl3
          obtain ⟨v5, vs5, rfl, hl5⟩ := len_succ hl4
          obtain rfl := len_zero hl5
          refine WP.alloc (T := 32) (t + 7) [encA .u8 (zA 8), [.int .i64 0], encA .i64 (zA 2), [.slice none 0 0]] [8, 1, 2, 1] (by kernel_rfl) (by simp [len_encA]) ?_
          intro g35 b11 st35 hB13
          refine WP.done (by kernel_rfl) (Shown.ok (v := .pointer (some ⟨b11, 0, none⟩)) (by kernel_rfl) st35.pure ?_)
          exact ⟨trivial, trivial, trivial, trivial, trivial, trivial, trivial, ⟨b11, rfl, hB13⟩, trivial, trivial⟩
        · intro vs gq stq hl hf
          replace hl : vs.length = 6 := hl
          obtain ⟨v0, vs0, rfl, hl0⟩ := len_succ hl
          obtain ⟨v1, vs1, rfl, hl1⟩ := len_succ hl0
          obtain ⟨v2, vs2, rfl, hl2⟩ := len_succ hl1
          obtain ⟨v3, vs3, rfl, hl3⟩ := len_succ hl2
          obtain ⟨v4, vs4, rfl, hl4⟩ := len_succ hl3
          obtain ⟨v5, vs5, rfl, hl5⟩ := len_succ hl4
          obtain rfl := len_zero hl5
          obtain ⟨a13, c13, e3, hR13⟩ := (show ∃ (a13 : Option Addr) (c13 : Nat), v3 = .tuple #[AG [encA .u8 d23, [.int .i64 x25], encA .i64 d24, [.slice a13 l13.length c13]], .int .i64 x26] ∧ RdS k_S_purse_Held gq 56 a13 l13.length c13 l13 from hf _ (List.mem_of_getElem? (i := 6) rfl) (by kernel_rfl))
          subst e3
          obtain ⟨b11, e4, hB13⟩ := (show ∃ (b11 : Nat), v4 = .pointer (some ⟨b11, 0, none⟩) ∧ Box gq (t + 7) b11 32 [encA .u8 (zA 8), [.int .i64 0], encA .i64 (zA 2), [.slice none 0 0]] [8, 1, 2, 1] from hf _ (List.mem_of_getElem? (i := 7) rfl) (by kernel_rfl))
          subst e4
          refine WP.storeB (ty := 32) (off := 0) (v := AG [encA .u8 d23, [.int .i64 x25], encA .i64 d24, [.slice a13 l13.length c13]]) hB13 [encA .u8 d23, [.int .i64 x25], encA .i64 d24, [.slice a13 l13.length c13]] [8, 1, 2, 1] (by kernel_rfl) (by kernel_rfl) (by simp [len_encA]) (by kernel_rfl) [encA .u8 d23, [.int .i64 x25], encA .i64 d24, [.slice a13 l13.length c13]] (by kernel_rfl) (.arr (.one rfl (.arr (.one rfl .nil)))) ?_
          intro g36 st36 hB14
          refine WP.done (by kernel_rfl) (Shown.ok (v := undef) (by kernel_rfl) st36 ?_)
          exact ⟨trivial, trivial, trivial, trivial, trivial, trivial, trivial, trivial, ⟨b11, a13, c13, rfl, rfl, hB14, (hR13.mono st36 (WL.no (by simp <;> omega)))⟩, trivial⟩
      intro vs g37 st37 hl hf
      replace hl : vs.length = 6 := hl
      obtain ⟨v0, vs0, rfl, hl0⟩ := len_succ hl
      obtain ⟨v1, vs1, rfl, hl1⟩ := len_succ hl0
      obtain ⟨v2, vs2, rfl, hl2⟩ := len_succ hl1
      obtain ⟨v3, vs3, rfl, hl3⟩ := len_succ hl2
      obtain ⟨v4, vs4, rfl, hl4⟩ := len_succ hl3
      obtain ⟨v5, vs5, rfl, hl5⟩ := len_succ hl4
      obtain rfl := len_zero hl5
      obtain ⟨b11, a13, c13, e4, e3, hB13, hR13⟩ := (show ∃ (b11 : Nat) (a13 : Option Addr) (c13 : Nat), v4 = .pointer (some ⟨b11, 0, none⟩) ∧ v3 = .tuple #[AG [encA .u8 d23, [.int .i64 x25], encA .i64 d24, [.slice a13 l13.length c13]], .int .i64 x26] ∧ Box g37 (t + 7) b11 32 [encA .u8 d23, [.int .i64 x25], encA .i64 d24, [.slice a13 l13.length c13]] [8, 1, 2, 1] ∧ RdS k_S_purse_Held g37 56 a13 l13.length c13 l13 from hf _ (List.mem_of_getElem? (i := 8) rfl) (by kernel_rfl))
      subst e4
      subst e3
      replace hR2 := hR2.mono st37 (WL.no1 (by omega))
      replace hB2 := hB2.mono st37 (WL.no1 (by omega))
      replace hR7 := hR7.mono st37 (WL.no1 (by omega))
      replace tot := tot.trans (st37.up1 (.inr (by omega)))
      refine NX.then_n ?_
      refine CP.refr 69 [(1, .slice a2 n2 c2), (5, .pointer (some ⟨b2, 0, none⟩)), (6, .int .i64 x3), (7, .int .i64 x12), (8, .pointer (some ⟨b11, 0, none⟩)), (9, .int .i64 x26)] (by kernel_rfl) (by kernel_rfl) ?_
      clear ds
      intro ds
      refine CP.seq ?_
      refine CP.seqR ?_
      refine WP.still 2 (by kernel_rfl) ?_
      refine WP.done (by kernel_rfl) ?_
      refine NX.then_n ?_
      refine CP.cond (b := (x26 != 0)) (by kernel_rfl) (fun h24 => ?_) (fun h24 => ?_)
      · replace hs := of_if_t hs h24
        refine CP.seq ?_
        refine CP.seqR ?_
        refine WP.loadB (v := AG [encA .u8 d23, [.int .i64 x25], encA .i64 d24, [.slice a13 l13.length c13]]) hB13 (by kernel_rfl) (by kernel_rfl) ?_
        refine WP.buildS (places := #[(0, 8), (8, 1), (9, 2), (11, 1)]) (t := 32) [encA .u8 (zA 8), [.int .i64 0], encA .i64 (zA 2), [.slice none 0 0]] [8, 1, 2, 1] (by kernel_rfl) (by kernel_rfl) (by simp [len_encA]) (by kernel_rfl) (.nil) ?_
        replace hs := Option.bind_eq_some_iff.1 hs
        obtain ⟨q12, hk21, hs⟩ := hs
        have hcal21 := P.purse_Same g37 d23 x25 d24 l13 (zA 8) 0 (zA 2) ([]) a13 l13.length c13 none 0 0 hR13 (RdS.nil _ _ _) q12 hk21
        refine WP.callC hcal21 (by kernel_rfl) ?_
        rintro _ g38 st38 rfl
        replace hR2 := hR2.mono st38 (fun x => x)
        replace hB2 := hB2.mono st38 (fun x => x)
        replace hR7 := hR7.mono st38 (fun x => x)
        replace hB13 := hB13.mono st38 (fun x => x)
        replace hR13 := hR13.mono st38 (fun x => x)
        replace tot := tot.trans st38.pure
        refine WP.still 1 (by kernel_rfl) ?_
        refine WP.done (by kernel_rfl) ?_
        refine NX.then_n ?_
        refine CP.cond (b := (!q12)) (by kernel_rfl) (fun h25 => ?_) (fun h25 => ?_)
        · replace hs := of_if_t hs h25
          refine CP.seqR ?_
          refine WP.still 1 (by kernel_rfl) ?_
          refine WP.done (by kernel_rfl) ?_
          refine NX.then_n ?_
          refine CP.ret ?_
          refine NX.then_r ?_
          refine NX.then_r ?_
          refine NX.block_r ?_
          refine NX.then_r ?_
          refine NX.then_r ?_
          refine NX.block_r ?_
          refine NX.then_r ?_
          replace hs := Option.some.inj hs
          obtain rfl := hs
          exact NX.fin (v := .bool false) (Res.still (by kernel_rfl)) tot htL rfl
        replace hs := of_if_f hs h25
        refine CP.skip ?_
        refine NX.then_n ?_
        refine CP.exit ?_
        refine NX.then_e ?_
        refine NX.block_s ?_
        refine NX.post ?_
        exact ⟨d11, x11, d12, l7, a7, n7, c7, ⟨by kernel_rfl, by kernel_rfl⟩, tot, hR2, hB2, hR7, hs⟩
      replace hs := of_if_f hs h24
      refine CP.skip ?_
      refine NX.then_n ?_
      refine CP.seq ?_
      refine CP.cut (fun tm g => ∃ (q13 : Bool), Fr 69 [(1, .slice a2 n2 c2), (5, .pointer (some ⟨b2, 0, none⟩)), (6, .int .i64 x3), (7, .int .i64 x12), (8, .pointer (some ⟨b11, 0, none⟩)), (66, .bool q13)] tm ∧ Step (fun l => NoM l ∨ t ≤ l) g0 g ∧ RdS k_S_baizelaw47_Deed g 43 a2 n2 c2 l2 ∧ Box g (t + 3) b2 32 [encA .u8 d11, [.int .i64 x11], encA .i64 d12, [.slice a7 n7 c7]] [8, 1, 2, 1] ∧ RdS k_S_purse_Held g 56 a7 n7 c7 l7 ∧ Box g (t + 7) b11 32 [encA .u8 d23, [.int .i64 x25], encA .i64 d24, [.slice a13 l13.length c13]] [8, 1, 2, 1] ∧ RdS k_S_purse_Held g 56 a13 l13.length c13 l13 ∧ (F.baizelaw47_PurseKeeps.c3 (F.baizelaw47_PurseKeeps.l1 l2 x3 k1) x12 d23 x25 d24 l13 q13) = some o1) ?_ ?_
      · refine CP.region ?_
        refine WP.loadB (v := AG [encA .u8 d23, [.int .i64 x25], encA .i64 d24, [.slice a13 l13.length c13]]) hB13 (by kernel_rfl) (by kernel_rfl) ?_
        replace hs := Option.bind_eq_some_iff.1 hs
        obtain ⟨x29, hk24, hs⟩ := hs
        have hcal24 := P.purse_Purse_Total g37 d23 x25 d24 l13 a13 l13.length c13 hR13 x29 hk24
        refine WP.callC hcal24 (by kernel_rfl) ?_
        rintro _ g42 st42 rfl
        replace hR2 := hR2.mono st42 (fun x => x)
        replace hB2 := hB2.mono st42 (fun x => x)
        replace hR7 := hR7.mono st42 (fun x => x)
        replace hB13 := hB13.mono st42 (fun x => x)
        replace hR13 := hR13.mono st42 (fun x => x)
        replace tot := tot.trans st42.pure
        refine WP.still 3 (by kernel_rfl) ?_
        refine WP.guard 47 (b := (x29 != x3)) (by kernel_rfl) (fun h30 => ?_) (fun h30 => ?_)
        · replace hs := of_if_t hs h30
          refine WP.still 19 (by kernel_rfl) ?_
          refine WP.done (by kernel_rfl) ?_
          refine NX.post ?_
          exact ⟨true, ⟨by kernel_rfl, by kernel_rfl⟩, tot, hR2, hB2, hR7, hB13, hR13, hs⟩
        replace hs := of_if_f hs h30
        refine WP.still 1 (by kernel_rfl) ?_
        refine WP.loadB (v := .int .i64 x25) hB13 (by kernel_rfl) (by kernel_rfl) ?_
        refine WP.still 1 (by kernel_rfl) ?_
        refine WP.loadB (v := .int .i64 x11) hB2 (by kernel_rfl) (by kernel_rfl) ?_
        refine WP.still 4 (by kernel_rfl) ?_
        refine WP.guard 55 (b := (x25 != (IntKind.i64.wrap (x11 + 1)))) (by kernel_rfl) (fun h31 => ?_) (fun h31 => ?_)
        · replace hs := of_if_t hs h31
          refine WP.still 11 (by kernel_rfl) ?_
          refine WP.done (by kernel_rfl) ?_
          refine NX.post ?_
          exact ⟨true, ⟨by kernel_rfl, by kernel_rfl⟩, tot, hR2, hB2, hR7, hB13, hR13, hs⟩
        replace hs := of_if_f hs h31
        refine WP.loadB (v := AG [encA .u8 d23, [.int .i64 x25], encA .i64 d24, [.slice a13 l13.length c13]]) hB13 (by kernel_rfl) (by kernel_rfl) ?_
        replace hs := Option.bind_eq_some_iff.1 hs
        obtain ⟨x30, hk25, hs⟩ := hs
        have hcal25 := P.purse_Purse_Check g42 d23 x25 d24 l13 a13 l13.length c13 hR13 x30 hk25
        refine WP.callC hcal25 (by kernel_rfl) ?_
        rintro _ g43 st43 rfl
        replace hR2 := hR2.mono st43 (fun x => x)
        replace hB2 := hB2.mono st43 (fun x => x)
        replace hR7 := hR7.mono st43 (fun x => x)
        replace hB13 := hB13.mono st43 (fun x => x)
        replace hR13 := hR13.mono st43 (fun x => x)
        replace tot := tot.trans st43.pure
        refine WP.still 3 (by kernel_rfl) ?_
        refine WP.guard 60 (b := (x30 != 0)) (by kernel_rfl) (fun h32 => ?_) (fun h32 => ?_)
        · replace hs := of_if_t hs h32
          refine WP.still 6 (by kernel_rfl) ?_
          refine WP.done (by kernel_rfl) ?_
          refine NX.post ?_
          exact ⟨true, ⟨by kernel_rfl, by kernel_rfl⟩, tot, hR2, hB2, hR7, hB13, hR13, hs⟩
        replace hs := of_if_f hs h32
        refine WP.still 1 (by kernel_rfl) ?_
        refine WP.loadB (v := AG [encA .u8 d23]) hB13 (by kernel_rfl) (by kernel_rfl) ?_
        refine WP.still 1 (by kernel_rfl) ?_
        refine WP.loadB (v := AG [encA .u8 d11]) hB2 (by kernel_rfl) (by kernel_rfl) ?_
        refine WP.neV (by kernel_rfl) (by kernel_rfl) (EqV.arr (d := 9998) (t := 29) (e := 5) (m := 8) (k := .u8) (x := d23) (y := d11) (by kernel_rfl) (by kernel_rfl)) ?_
        refine WP.still 1 (by kernel_rfl) ?_
        refine WP.done (by kernel_rfl) ?_
        refine NX.post ?_
        exact ⟨(!(d23.1 == d11.1)), ⟨by kernel_rfl, by kernel_rfl⟩, tot, hR2, hB2, hR7, hB13, hR13, hs⟩
      clear tot hs hR2 hB2 hR7 hB13 hR13
      rintro tm g ⟨q13, hF, tot, hR2, hB2, hR7, hB13, hR13, hs⟩
      clear ds
      obtain ⟨ds, rfl⟩ := hF.open
      clear hF
      unfold F.baizelaw47_PurseKeeps.c3 at hs
      refine CP.cond (b := q13) (by kernel_rfl) (fun h29 => ?_) (fun h29 => ?_)
      · replace hs := of_if_t hs h29
        refine CP.seqR ?_
        refine WP.still 1 (by kernel_rfl) ?_
        refine WP.done (by kernel_rfl) ?_
        refine NX.then_n ?_
        refine CP.ret ?_
        refine NX.then_r ?_
        refine NX.block_r ?_
        refine NX.then_r ?_
        refine NX.then_r ?_
        refine NX.block_r ?_
        refine NX.then_r ?_
        replace hs := Option.some.inj hs
        obtain rfl := hs
        exact NX.fin (v := .bool false) (Res.still (by kernel_rfl)) tot htL rfl
      replace hs := of_if_f hs h29
      refine CP.skip ?_
      refine NX.then_n ?_
      refine CP.region ?_
      refine WP.loadB (v := AG [encA .u8 d23, [.int .i64 x25], encA .i64 d24, [.slice a13 l13.length c13]]) hB13 (by kernel_rfl) (by kernel_rfl) ?_
      refine WP.storeB (ty := 32) (off := 0) (v := AG [encA .u8 d23, [.int .i64 x25], encA .i64 d24, [.slice a13 l13.length c13]]) hB2 [encA .u8 d23, [.int .i64 x25], encA .i64 d24, [.slice a13 l13.length c13]] [8, 1, 2, 1] (by kernel_rfl) (by kernel_rfl) (by simp [len_encA]) (by kernel_rfl) [encA .u8 d23, [.int .i64 x25], encA .i64 d24, [.slice a13 l13.length c13]] (by kernel_rfl) (.arr (.one rfl (.arr (.one rfl .nil)))) ?_
      intro g41 st41 hB15
      replace hR2 := hR2.mono st41 (WL.no1 (by omega))
      replace hR13 := hR13.mono st41 (WL.no1 (by omega))
      replace hB13 := hB13.mono st41 (WL.no1 (by omega))
      replace tot := tot.trans (st41.up1 (.inr (by omega)))
      clear hB2
      have hB2 := hB15
      clear hB15
      refine WP.done (by kernel_rfl) ?_
      refine NX.block_n ?_
      refine NX.post ?_
      exact ⟨d23, x25, d24, l13, a13, l13.length, c13, ⟨by kernel_rfl, by kernel_rfl⟩, tot, hR2, hB2, hR13, hs⟩
    clear tot hs hR2 hB2 hR7
    rintro tm g ⟨d21, x24, d22, l12, a12, n12, c12, hF, tot, hR2, hB2, hR12, hs⟩
    clear ds
    obtain ⟨ds, rfl⟩ := hF.open
    clear hF
    unfold F.baizelaw47_PurseKeeps.c2 at hs
    refine CP.region ?_
    refine WP.still 3 (by kernel_rfl) ?_
    refine WP.done (by kernel_rfl) ?_
    refine NX.post ?_
    exact ⟨d21, x24, d22, l12, a12, n12, c12, (IntKind.i64.wrap (x12 + 1)), ⟨by kernel_rfl, by kernel_rfl⟩, tot, hR2, hB2, hR12, hs⟩
  replace hs := of_if_f hs h17
  refine CP.exit ?_
  refine NX.then_e ?_
  refine NX.then_e ?_
  refine NX.block_s ?_
  refine NX.then_n ?_
  refine CP.seqR ?_
  replace hs := Option.bind_eq_some_iff.1 hs
  obtain ⟨q14, hk26, hs⟩ := hs
  have hcal26 := P.baizelaw47_told g q14 hk26
  refine WP.callC hcal26 (by kernel_rfl) ?_
  rintro _ g44 st44 rfl
  replace tot := tot.trans st44.pure
  refine WP.still 1 (by kernel_rfl) ?_
  refine WP.done (by kernel_rfl) ?_
  refine NX.then_n ?_
  refine CP.ret ?_
  replace hs := Option.some.inj hs
  obtain rfl := hs
  exact NX.fin (v := .bool q14) (Res.still (by kernel_rfl)) tot htL rfl
def F.baizelaw47_PurseBack.c5 (q13 : Bool) : Option (Bool) := (some q13)
def F.baizelaw47_PurseBack.c4 (d15 : Arr Int 8) (x19 : Int) (d16 : Arr Int 2) (l7 : List S_purse_Held) (d17 : Arr Int 8) (d18 : Arr Int 2) (l8 : List S_purse_Held) (q10 : Bool) : Option (Bool) := (if q10 = true then (some false) else ((F.purse_Same d17 x19 d18 l8 d15 x19 d16 l7).bind fun q14 => (if q14 = true then ((F.baizelaw47_told).bind fun q15 => (F.baizelaw47_PurseBack.c5 q15)) else (F.baizelaw47_PurseBack.c5 false))))
def F.baizelaw47_PurseBack.c3 (d3 : Arr Int 8) (x6 : Int) (d4 : Arr Int 8) (x7 : Int) (x8 : Int) (x9 : Int) (d5 : Arr Int 8) (x10 : Int) (d6 : Arr Int 2) (l2 : List S_purse_Held) (d7 : Arr Int 8) (x11 : Int) (d8 : Arr Int 2) (l3 : List S_purse_Held) (d9 : Arr Int 8) (d10 : Arr Int 2) (l4 : List S_purse_Held) (q7 : Bool) : Option (Bool) := (if q7 = true then (some false) else ((F.purse_Same d9 x10 d10 l4 d5 x10 d6 l2).bind fun q8 => (if (!q8) = true then (some false) else ((F.baizelaw47_do d7 x11 d8 l3 x6 d4 x7 x8 x9).bind fun (d13, x17, d14, l6, x18) => ((F.baizelaw47_do d5 x10 d6 l2 x6 d4 x7 x8 x9).bind fun (d15, x19, d16, l7, x20) => (if (!((x18 == 0) == (x20 == 0))) = true then (some false) else (if (x18 != 0) = true then ((F.baizelaw47_told).bind fun q9 => (some q9)) else ((F.purse_Purse_Free d13 x17 d14 l6 d3 0).bind fun (d17, x21, d18, l8, x22) => (if (x22 != 0) = true then (F.baizelaw47_PurseBack.c4 d15 x19 d16 l7 d17 d18 l8 true) else (F.baizelaw47_PurseBack.c4 d15 x19 d16 l7 d17 d18 l8 (x21 != (IntKind.i64.wrap (x19 + 2)))))))))))))
def F.baizelaw47_PurseBack.c2 (d3 : Arr Int 8) (x5 : Int) (x6 : Int) (d4 : Arr Int 8) (x7 : Int) (x8 : Int) (x9 : Int) (d5 : Arr Int 8) (x10 : Int) (d6 : Arr Int 2) (l2 : List S_purse_Held) (d7 : Arr Int 8) (x11 : Int) (d8 : Arr Int 2) (l3 : List S_purse_Held) (q4 : Bool) : Option (Bool) := (if q4 = true then ((F.baizelaw47_told).bind fun q5 => (some q5)) else ((F.purse_Purse_Free d7 x11 d8 l3 d3 0).bind fun (d9, x13, d10, l4, x14) => ((F.purse_Purse_Back d7 x11 d8 l3 d3 (IntKind.i64.wrap (x5 + 1))).bind fun (d11, x15, d12, l5, x16) => (if (x14 != 0) = true then (F.baizelaw47_PurseBack.c3 d3 x6 d4 x7 x8 x9 d5 x10 d6 l2 d7 x11 d8 l3 d9 d10 l4 true) else (if (x16 != 0) = true then (F.baizelaw47_PurseBack.c3 d3 x6 d4 x7 x8 x9 d5 x10 d6 l2 d7 x11 d8 l3 d9 d10 l4 true) else ((F.purse_Same d9 x13 d10 l4 d11 x15 d12 l5).bind fun q16 => (if (!q16) = true then (F.baizelaw47_PurseBack.c3 d3 x6 d4 x7 x8 x9 d5 x10 d6 l2 d7 x11 d8 l3 d9 d10 l4 true) else (F.baizelaw47_PurseBack.c3 d3 x6 d4 x7 x8 x9 d5 x10 d6 l2 d7 x11 d8 l3 d9 d10 l4 (x13 != (IntKind.i64.wrap (x10 + 2)))))))))))
def F.baizelaw47_PurseBack.c1 (d1 : Arr Int 8) (x1 : Int) (d2 : Arr Int 2) (l1 : List S_baizeref47_Held) (d3 : Arr Int 8) (x3 : Int) (x4 : Int) (x5 : Int) (x6 : Int) (d4 : Arr Int 8) (x7 : Int) (x8 : Int) (x9 : Int) (q2 : Bool) : Option (Bool) := (if q2 = true then ((F.baizelaw47_told).bind fun q3 => (some q3)) else ((F.baizelaw47_Own d1 x1 d2 l1).bind fun (d5, x10, d6, l2) => ((F.baizelaw47_do d5 x10 d6 l2 1 d3 x3 x4 x5).bind fun (d7, x11, d8, l3, x12) => (if (x12 != 0) = true then (F.baizelaw47_PurseBack.c2 d3 x5 x6 d4 x7 x8 x9 d5 x10 d6 l2 d7 x11 d8 l3 true) else (F.baizelaw47_PurseBack.c2 d3 x5 x6 d4 x7 x8 x9 d5 x10 d6 l2 d7 x11 d8 l3 (decide (x11 > 549755813888)))))))
def F.baizelaw47_PurseBack (d1 : Arr Int 8) (x1 : Int) (d2 : Arr Int 2) (l1 : List S_baizeref47_Held) (x2 : Int) (d3 : Arr Int 8) (x3 : Int) (x4 : Int) (x5 : Int) (x6 : Int) (d4 : Arr Int 8) (x7 : Int) (x8 : Int) (x9 : Int) : Option (Bool) := ((F.baizelaw47_great d1 x1 d2 l1).bind fun q17 => (if q17 = true then (F.baizelaw47_PurseBack.c1 d1 x1 d2 l1 d3 x3 x4 x5 x6 d4 x7 x8 x9 true) else (if (d3.1 == d4.1) = true then (F.baizelaw47_PurseBack.c1 d1 x1 d2 l1 d3 x3 x4 x5 x6 d4 x7 x8 x9 true) else (if ((x6.tmod 4) == 0) = true then (F.baizelaw47_PurseBack.c1 d1 x1 d2 l1 d3 x3 x4 x5 x6 d4 x7 x8 x9 true) else (F.baizelaw47_PurseBack.c1 d1 x1 d2 l1 d3 x3 x4 x5 x6 d4 x7 x8 x9 ((x6.tmod 4) == 1))))))
theorem P.baizelaw47_PurseBack (g0 : GW) (d1 : Arr Int 8) (x1 : Int) (d2 : Arr Int 2) (l1 : List S_baizeref47_Held) (x2 : Int) (d3 : Arr Int 8) (x3 : Int) (x4 : Int) (x5 : Int) (x6 : Int) (d4 : Arr Int 8) (x7 : Int) (x8 : Int) (x9 : Int) (a1 : Option Addr) (n1 : Nat) (c1 : Nat) (hR1 : RdS k_S_baizeref47_Held g0 60 a1 n1 c1 l1) (o1 : Bool) (hs : F.baizelaw47_PurseBack d1 x1 d2 l1 x2 d3 x3 x4 x5 x6 d4 x7 x8 x9 = some o1) :
    Calls Try.prog 6 #[AG [encA .u8 d1, [.int .i64 x1], encA .i64 d2, [.slice a1 n1 c1]], AG [[.int .u8 x2], encA .u8 d3, [.int .i64 x3], [.int .i64 x4], [.int .i64 x5]], AG [[.int .u8 x6], encA .u8 d4, [.int .i64 x7], [.int .i64 x8], [.int .i64 x9]]] g0.w (Ret NoM g0 fun v g => v = .bool o1) := by
  refine calls_of (args := [AG [encA .u8 d1, [.int .i64 x1], encA .i64 d2, [.slice a1 n1 c1]], AG [[.int .u8 x2], encA .u8 d3, [.int .i64 x3], [.int .i64 x4], [.int .i64 x5]], AG [[.int .u8 x6], encA .u8 d4, [.int .i64 x7], [.int .i64 x8], [.int .i64 x9]]]) Try.func6 rfl (0) ?_
  intro t ht htL
  refine ⟨_, rfl, ?_⟩
  refine CP.refr 147 [(0, AG [encA .u8 d1, [.int .i64 x1], encA .i64 d2, [.slice a1 n1 c1]]), (1, AG [[.int .u8 x2], encA .u8 d3, [.int .i64 x3], [.int .i64 x4], [.int .i64 x5]]), (2, AG [[.int .u8 x6], encA .u8 d4, [.int .i64 x7], [.int .i64 x8], [.int .i64 x9]])] (by kernel_rfl) (by kernel_rfl) ?_
  intro ds
  have tot : Step (fun l => NoM l ∨ t ≤ l) g0 g0 := Step.refl _ _
  unfold F.baizelaw47_PurseBack at hs
  refine CP.seqR ?_
  refine WP.alloc (T := 26) (t + 1) [encA .u8 d1, [.int .i64 x1], encA .i64 d2, [.slice a1 n1 c1]] [8, 1, 2, 1] (by kernel_rfl) (by simp [len_encA]) ?_
  intro g1 b1 st1 hB1
  replace hR1 := hR1.mono st1 (fun x => x)
  replace tot := tot.trans st1.pure
  refine WP.alloc (T := 43) (t + 2) [[.int .u8 x2], encA .u8 d3, [.int .i64 x3], [.int .i64 x4], [.int .i64 x5]] [1, 8, 1, 1, 1] (by kernel_rfl) (by simp [len_encA]) ?_
  intro g2 b2 st2 hB2
  replace hR1 := hR1.mono st2 (fun x => x)
  replace hB1 := hB1.mono st2 (fun x => x)
  replace tot := tot.trans st2.pure
  refine WP.alloc (T := 43) (t + 3) [[.int .u8 x6], encA .u8 d4, [.int .i64 x7], [.int .i64 x8], [.int .i64 x9]] [1, 8, 1, 1, 1] (by kernel_rfl) (by simp [len_encA]) ?_
  intro g3 b3 st3 hB3
  replace hR1 := hR1.mono st3 (fun x => x)
  replace hB1 := hB1.mono st3 (fun x => x)
  replace hB2 := hB2.mono st3 (fun x => x)
  replace tot := tot.trans st3.pure
  refine WP.still 1 (by kernel_rfl) ?_
  refine WP.done (by kernel_rfl) ?_
  refine NX.then_n ?_
  refine CP.seq ?_
  refine CP.cut (fun tm g => ∃ (q2 : Bool), Fr 147 [(3, .pointer (some ⟨b1, 0, none⟩)), (4, .pointer (some ⟨b2, 0, none⟩)), (5, .pointer (some ⟨b3, 0, none⟩)), (38, .bool q2)] tm ∧ Step (fun l => NoM l ∨ t ≤ l) g0 g ∧ Box g (t + 1) b1 26 [encA .u8 d1, [.int .i64 x1], encA .i64 d2, [.slice a1 n1 c1]] [8, 1, 2, 1] ∧ RdS k_S_baizeref47_Held g 60 a1 n1 c1 l1 ∧ Box g (t + 2) b2 43 [[.int .u8 x2], encA .u8 d3, [.int .i64 x3], [.int .i64 x4], [.int .i64 x5]] [1, 8, 1, 1, 1] ∧ Box g (t + 3) b3 43 [[.int .u8 x6], encA .u8 d4, [.int .i64 x7], [.int .i64 x8], [.int .i64 x9]] [1, 8, 1, 1, 1] ∧ (F.baizelaw47_PurseBack.c1 d1 x1 d2 l1 d3 x3 x4 x5 x6 d4 x7 x8 x9 q2) = some o1) ?_ ?_
  · refine CP.region ?_
    refine WP.loadB (v := AG [encA .u8 d1, [.int .i64 x1], encA .i64 d2, [.slice a1 n1 c1]]) hB1 (by kernel_rfl) (by kernel_rfl) ?_
    replace hs := Option.bind_eq_some_iff.1 hs
    obtain ⟨q17, hk19, hs⟩ := hs
    have hcal19 := P.baizelaw47_great g3 d1 x1 d2 l1 a1 n1 c1 hR1 q17 hk19
    refine WP.callC hcal19 (by kernel_rfl) ?_
    rintro _ g39 st39 rfl
    replace hB1 := hB1.mono st39 (fun x => x)
    replace hR1 := hR1.mono st39 (fun x => x)
    replace hB2 := hB2.mono st39 (fun x => x)
    replace hB3 := hB3.mono st39 (fun x => x)
    replace tot := tot.trans st39.pure
    refine WP.still 1 (by kernel_rfl) ?_
    refine WP.guard 20 (b := q17) (by kernel_rfl) (fun h23 => ?_) (fun h23 => ?_)
    · replace hs := of_if_t hs h23
      refine WP.still 18 (by kernel_rfl) ?_
      refine WP.done (by kernel_rfl) ?_
      refine NX.post ?_
      exact ⟨true, ⟨by kernel_rfl, by kernel_rfl⟩, tot, hB1, hR1, hB2, hB3, hs⟩
    replace hs := of_if_f hs h23
    refine WP.still 1 (by kernel_rfl) ?_
    refine WP.loadB (v := AG [encA .u8 d3]) hB2 (by kernel_rfl) (by kernel_rfl) ?_
    refine WP.still 1 (by kernel_rfl) ?_
    refine WP.loadB (v := AG [encA .u8 d4]) hB3 (by kernel_rfl) (by kernel_rfl) ?_
    refine WP.eqV (by kernel_rfl) (by kernel_rfl) (EqV.arr (d := 9998) (t := 22) (e := 5) (m := 8) (k := .u8) (x := d3) (y := d4) (by kernel_rfl) (by kernel_rfl)) ?_
    refine WP.still 2 (by kernel_rfl) ?_
    refine WP.guard 27 (b := (d3.1 == d4.1)) (by kernel_rfl) (fun h24 => ?_) (fun h24 => ?_)
    · replace hs := of_if_t hs h24
      refine WP.still 11 (by kernel_rfl) ?_
      refine WP.done (by kernel_rfl) ?_
      refine NX.post ?_
      exact ⟨true, ⟨by kernel_rfl, by kernel_rfl⟩, tot, hB1, hR1, hB2, hB3, hs⟩
    replace hs := of_if_f hs h24
    refine WP.still 1 (by kernel_rfl) ?_
    refine WP.loadB (v := .int .u8 x6) hB3 (by kernel_rfl) (by kernel_rfl) ?_
    refine WP.still 4 (by kernel_rfl) ?_
    refine WP.guard 33 (b := ((x6.tmod 4) == 0)) (by kernel_rfl) (fun h25 => ?_) (fun h25 => ?_)
    · replace hs := of_if_t hs h25
      refine WP.still 5 (by kernel_rfl) ?_
      refine WP.done (by kernel_rfl) ?_
      refine NX.post ?_
      exact ⟨true, ⟨by kernel_rfl, by kernel_rfl⟩, tot, hB1, hR1, hB2, hB3, hs⟩
    replace hs := of_if_f hs h25
    refine WP.still 1 (by kernel_rfl) ?_
    refine WP.loadB (v := .int .u8 x6) hB3 (by kernel_rfl) (by kernel_rfl) ?_
    refine WP.still 3 (by kernel_rfl) ?_
    refine WP.done (by kernel_rfl) ?_
    refine NX.post ?_
    exact ⟨((x6.tmod 4) == 1), ⟨by kernel_rfl, by kernel_rfl⟩, tot, hB1, hR1, hB2, hB3, hs⟩
  clear tot hs hB1 hR1 hB2 hB3
  rintro tm g ⟨q2, hF, tot, hB1, hR1, hB2, hB3, hs⟩
  clear ds
  obtain ⟨ds, rfl⟩ := hF.open
  clear hF
  unfold F.baizelaw47_PurseBack.c1 at hs
  refine CP.cond (b := q2) (by kernel_rfl) (fun h4 => ?_) (fun h4 => ?_)
  · replace hs := of_if_t hs h4
    refine CP.seqR ?_
    replace hs := Option.bind_eq_some_iff.1 hs
    obtain ⟨q3, hk2, hs⟩ := hs
    have hcal2 := P.baizelaw47_told g q3 hk2
    refine WP.callC hcal2 (by kernel_rfl) ?_
    rintro _ g5 st5 rfl
    replace hB1 := hB1.mono st5 (fun x => x)
    replace hR1 := hR1.mono st5 (fun x => x)
    replace hB2 := hB2.mono st5 (fun x => x)
    replace hB3 := hB3.mono st5 (fun x => x)
    replace tot := tot.trans st5.pure
    refine WP.still 1 (by kernel_rfl) ?_
    refine WP.done (by kernel_rfl) ?_
    refine NX.then_n ?_
    refine CP.ret ?_
    refine NX.then_r ?_
    replace hs := Option.some.inj hs
    obtain rfl := hs
    exact NX.fin (v := .bool q3) (Res.still (by kernel_rfl)) tot htL rfl
  replace hs := of_if_f hs h4
  refine CP.skip ?_
  refine NX.then_n ?_
  refine CP.seqR ?_
  refine WP.loadB (v := AG [encA .u8 d1, [.int .i64 x1], encA .i64 d2, [.slice a1 n1 c1]]) hB1 (by kernel_rfl) (by kernel_rfl) ?_
  replace hs := Option.bind_eq_some_iff.1 hs
  obtain ⟨⟨d5, x10, d6, l2⟩, hk3, hs⟩ := hs
  dsimp only at hs
  have hcal3 := P.baizelaw47_Own g (t + 4) d1 x1 d2 l1 a1 n1 c1 hR1 d5 x10 d6 l2 hk3
  refine WP.callC hcal3 (by kernel_rfl) ?_
  rintro _ g6 st6 ⟨a2, n2, c2, rfl, hR2⟩
  replace hB1 := hB1.mono st6 (fun x => x)
  replace hR1 := hR1.mono st6 (fun x => x)
  replace hB2 := hB2.mono st6 (fun x => x)
  replace hB3 := hB3.mono st6 (fun x => x)
  replace tot := tot.trans st6.pure
  refine WP.alloc (T := 32) (t + 5) [encA .u8 (zA 8), [.int .i64 0], encA .i64 (zA 2), [.slice none 0 0]] [8, 1, 2, 1] (by kernel_rfl) (by simp [len_encA]) ?_
  intro g7 b4 st7 hB4
  replace hB1 := hB1.mono st7 (fun x => x)
  replace hR1 := hR1.mono st7 (fun x => x)
  replace hB2 := hB2.mono st7 (fun x => x)
  replace hB3 := hB3.mono st7 (fun x => x)
  replace hR2 := hR2.mono st7 (fun x => x) (fun x => x)
  replace tot := tot.trans st7.pure
  refine WP.storeB (ty := 32) (off := 0) (v := AG [encA .u8 d5, [.int .i64 x10], encA .i64 d6, [.slice a2 n2 c2]]) hB4 [encA .u8 d5, [.int .i64 x10], encA .i64 d6, [.slice a2 n2 c2]] [8, 1, 2, 1] (by kernel_rfl) (by kernel_rfl) (by simp [len_encA]) (by kernel_rfl) [encA .u8 d5, [.int .i64 x10], encA .i64 d6, [.slice a2 n2 c2]] (by kernel_rfl) (.arr (.one rfl (.arr (.one rfl .nil)))) ?_
  intro g8 st8 hB5
  replace hB1 := hB1.mono st8 (WL.no1 (by omega))
  replace hR1 := hR1.mono st8 (WL.no1 (by omega))
  replace hB2 := hB2.mono st8 (WL.no1 (by omega))
  replace hB3 := hB3.mono st8 (WL.no1 (by omega))
  replace hR2 := hR2.mono st8 (WL.no1 (by omega)) (WL.no1 (by omega))
  replace tot := tot.trans (st8.up1 (.inr (by omega)))
  clear hB4
  have hB4 := hB5
  clear hB5
  refine WP.done (by kernel_rfl) ?_
  refine NX.then_n ?_
  refine CP.seqR ?_
  refine WP.still 1 (by kernel_rfl) ?_
  refine WP.storeB (ty := 5) (off := 0) (v := .int .u8 1) hB2 [[.int .u8 1]] [1] (by kernel_rfl) (by kernel_rfl) rfl (by kernel_rfl) [[.int .u8 1], encA .u8 d3, [.int .i64 x3], [.int .i64 x4], [.int .i64 x5]] (by kernel_rfl) (.one rfl .nil) ?_
  intro g9 st9 hB6
  replace hB3 := hB3.mono st9 (WL.no1 (by omega))
  replace hB4 := hB4.mono st9 (WL.no1 (by omega))
  replace hR2 := hR2.mono st9 (WL.no1 (by omega)) (WL.no1 (by omega))
  replace tot := tot.trans (st9.up1 (.inr (by omega)))
  clear hB2
  have hB2 := hB6
  clear hB6
  refine WP.done (by kernel_rfl) ?_
  refine NX.then_n ?_
  refine CP.seqR ?_
  refine WP.loadB (v := AG [encA .u8 d5, [.int .i64 x10], encA .i64 d6, [.slice a2 n2 c2]]) hB4 (by kernel_rfl) (by kernel_rfl) ?_
  refine WP.loadB (v := AG [[.int .u8 1], encA .u8 d3, [.int .i64 x3], [.int .i64 x4], [.int .i64 x5]]) hB2 (by kernel_rfl) (by kernel_rfl) ?_
  replace hs := Option.bind_eq_some_iff.1 hs
  obtain ⟨⟨d7, x11, d8, l3, x12⟩, hk4, hs⟩ := hs
  dsimp only at hs
  obtain ⟨g11, hw1, st11, hnew⟩ := hR2.freeze (by omega)
  refine WP.regw hw1 ?_
  replace hB2 := hB2.mono st11 (WL.no1 (by omega))
  replace hB3 := hB3.mono st11 (WL.no1 (by omega))
  replace hB4 := hB4.mono st11 (WL.no1 (by omega))
  replace tot := tot.trans (st11.up1 (.inr (by omega)))
  clear hR2
  have hR2 := hnew
  clear hnew
  have hcal4 := P.baizelaw47_do g11 d5 x10 d6 l2 1 d3 x3 x4 x5 a2 n2 c2 hR2 d7 x11 d8 l3 x12 hk4
  refine WP.callC hcal4 (by kernel_rfl) ?_
  rintro _ g10 st10 ⟨a3, n3, c3, rfl, hR3⟩
  replace hB2 := hB2.mono st10 (fun x => x)
  replace hB3 := hB3.mono st10 (fun x => x)
  replace hB4 := hB4.mono st10 (fun x => x)
  replace hR2 := hR2.mono st10 (fun x => x)
  replace tot := tot.trans st10.pure
  refine WP.still 3 (by kernel_rfl) ?_
  refine WP.alloc (T := 32) (t + 6) [encA .u8 (zA 8), [.int .i64 0], encA .i64 (zA 2), [.slice none 0 0]] [8, 1, 2, 1] (by kernel_rfl) (by simp [len_encA]) ?_
  intro g12 b5 st12 hB7
  replace hB2 := hB2.mono st12 (fun x => x)
  replace hB3 := hB3.mono st12 (fun x => x)
  replace hB4 := hB4.mono st12 (fun x => x)
  replace hR2 := hR2.mono st12 (fun x => x)
  replace hR3 := hR3.mono st12 (fun x => x)
  replace tot := tot.trans st12.pure
  refine WP.storeB (ty := 32) (off := 0) (v := AG [encA .u8 d7, [.int .i64 x11], encA .i64 d8, [.slice a3 n3 c3]]) hB7 [encA .u8 d7, [.int .i64 x11], encA .i64 d8, [.slice a3 n3 c3]] [8, 1, 2, 1] (by kernel_rfl) (by kernel_rfl) (by simp [len_encA]) (by kernel_rfl) [encA .u8 d7, [.int .i64 x11], encA .i64 d8, [.slice a3 n3 c3]] (by kernel_rfl) (.arr (.one rfl (.arr (.one rfl .nil)))) ?_
  intro g13 st13 hB8
  replace hB2 := hB2.mono st13 (WL.no1 (by omega))
  replace hB3 := hB3.mono st13 (WL.no1 (by omega))
  replace hB4 := hB4.mono st13 (WL.no1 (by omega))
  replace hR2 := hR2.mono st13 (WL.no1 (by omega))
  replace hR3 := hR3.mono st13 (WL.no1 (by omega))
  replace tot := tot.trans (st13.up1 (.inr (by omega)))
  clear hB7
  have hB7 := hB8
  clear hB8
  refine WP.still 1 (by kernel_rfl) ?_
  refine WP.done (by kernel_rfl) ?_
  refine NX.then_n ?_
  refine CP.refr 147 [(4, .pointer (some ⟨b2, 0, none⟩)), (5, .pointer (some ⟨b3, 0, none⟩)), (7, .pointer (some ⟨b4, 0, none⟩)), (8, .pointer (some ⟨b5, 0, none⟩)), (9, .int .i64 x12)] (by kernel_rfl) (by kernel_rfl) ?_
  clear ds
  intro ds
  refine CP.seq ?_
  refine CP.cut (fun tm g => ∃ (q4 : Bool), Fr 147 [(4, .pointer (some ⟨b2, 0, none⟩)), (5, .pointer (some ⟨b3, 0, none⟩)), (7, .pointer (some ⟨b4, 0, none⟩)), (8, .pointer (some ⟨b5, 0, none⟩)), (55, .bool q4)] tm ∧ Step (fun l => NoM l ∨ t ≤ l) g0 g ∧ Box g (t + 2) b2 43 [[.int .u8 1], encA .u8 d3, [.int .i64 x3], [.int .i64 x4], [.int .i64 x5]] [1, 8, 1, 1, 1] ∧ Box g (t + 3) b3 43 [[.int .u8 x6], encA .u8 d4, [.int .i64 x7], [.int .i64 x8], [.int .i64 x9]] [1, 8, 1, 1, 1] ∧ Box g (t + 5) b4 32 [encA .u8 d5, [.int .i64 x10], encA .i64 d6, [.slice a2 n2 c2]] [8, 1, 2, 1] ∧ RdS k_S_purse_Held g 56 a2 n2 c2 l2 ∧ Box g (t + 6) b5 32 [encA .u8 d7, [.int .i64 x11], encA .i64 d8, [.slice a3 n3 c3]] [8, 1, 2, 1] ∧ RdS k_S_purse_Held g 56 a3 n3 c3 l3 ∧ (F.baizelaw47_PurseBack.c2 d3 x5 x6 d4 x7 x8 x9 d5 x10 d6 l2 d7 x11 d8 l3 q4) = some o1) ?_ ?_
  · refine CP.region ?_
    refine WP.still 3 (by kernel_rfl) ?_
    refine WP.guard 51 (b := (x12 != 0)) (by kernel_rfl) (fun h22 => ?_) (fun h22 => ?_)
    · replace hs := of_if_t hs h22
      refine WP.still 4 (by kernel_rfl) ?_
      refine WP.done (by kernel_rfl) ?_
      refine NX.post ?_
      exact ⟨true, ⟨by kernel_rfl, by kernel_rfl⟩, tot, hB2, hB3, hB4, hR2, hB7, hR3, hs⟩
    replace hs := of_if_f hs h22
    refine WP.still 1 (by kernel_rfl) ?_
    refine WP.loadB (v := .int .i64 x11) hB7 (by kernel_rfl) (by kernel_rfl) ?_
    refine WP.still 2 (by kernel_rfl) ?_
    refine WP.done (by kernel_rfl) ?_
    refine NX.post ?_
    exact ⟨decide (x11 > 549755813888), ⟨by kernel_rfl, by kernel_rfl⟩, tot, hB2, hB3, hB4, hR2, hB7, hR3, hs⟩
  clear tot hs hB2 hB3 hB4 hR2 hB7 hR3
  rintro tm g ⟨q4, hF, tot, hB2, hB3, hB4, hR2, hB7, hR3, hs⟩
  clear ds
  obtain ⟨ds, rfl⟩ := hF.open
  clear hF
  unfold F.baizelaw47_PurseBack.c2 at hs
  refine CP.cond (b := q4) (by kernel_rfl) (fun h6 => ?_) (fun h6 => ?_)
  · replace hs := of_if_t hs h6
    refine CP.seqR ?_
    replace hs := Option.bind_eq_some_iff.1 hs
    obtain ⟨q5, hk5, hs⟩ := hs
    have hcal5 := P.baizelaw47_told g q5 hk5
    refine WP.callC hcal5 (by kernel_rfl) ?_
    rintro _ g14 st14 rfl
    replace hB2 := hB2.mono st14 (fun x => x)
    replace hB3 := hB3.mono st14 (fun x => x)
    replace hB4 := hB4.mono st14 (fun x => x)
    replace hR2 := hR2.mono st14 (fun x => x)
    replace hB7 := hB7.mono st14 (fun x => x)
    replace hR3 := hR3.mono st14 (fun x => x)
    replace tot := tot.trans st14.pure
    refine WP.still 1 (by kernel_rfl) ?_
    refine WP.done (by kernel_rfl) ?_
    refine NX.then_n ?_
    refine CP.ret ?_
    refine NX.then_r ?_
    replace hs := Option.some.inj hs
    obtain rfl := hs
    exact NX.fin (v := .bool q5) (Res.still (by kernel_rfl)) tot htL rfl
  replace hs := of_if_f hs h6
  refine CP.skip ?_
  refine NX.then_n ?_
  refine CP.seqR ?_
  refine WP.loadB (v := AG [encA .u8 d7, [.int .i64 x11], encA .i64 d8, [.slice a3 n3 c3]]) hB7 (by kernel_rfl) (by kernel_rfl) ?_
  refine WP.still 1 (by kernel_rfl) ?_
  refine WP.loadB (v := AG [encA .u8 d3]) hB2 (by kernel_rfl) (by kernel_rfl) ?_
  replace hs := Option.bind_eq_some_iff.1 hs
  obtain ⟨⟨d9, x13, d10, l4, x14⟩, hk6, hs⟩ := hs
  dsimp only at hs
  have hcal6 := P.purse_Purse_Free g d7 x11 d8 l3 d3 0 a3 n3 c3 hR3 d9 x13 d10 l4 x14 hk6
  refine WP.callC hcal6 (by kernel_rfl) ?_
  rintro _ g15 st15 ⟨a4, n4, c4, rfl, hR4⟩
  replace hB2 := hB2.mono st15 (fun x => x)
  replace hB3 := hB3.mono st15 (fun x => x)
  replace hB4 := hB4.mono st15 (fun x => x)
  replace hR2 := hR2.mono st15 (fun x => x)
  replace hB7 := hB7.mono st15 (fun x => x)
  replace hR3 := hR3.mono st15 (fun x => x)
  replace tot := tot.trans st15.pure
  refine WP.still 3 (by kernel_rfl) ?_
  refine WP.alloc (T := 32) (t + 7) [encA .u8 (zA 8), [.int .i64 0], encA .i64 (zA 2), [.slice none 0 0]] [8, 1, 2, 1] (by kernel_rfl) (by simp [len_encA]) ?_
  intro g16 b6 st16 hB9
  replace hB2 := hB2.mono st16 (fun x => x)
  replace hB3 := hB3.mono st16 (fun x => x)
  replace hB4 := hB4.mono st16 (fun x => x)
  replace hR2 := hR2.mono st16 (fun x => x)
  replace hB7 := hB7.mono st16 (fun x => x)
  replace hR3 := hR3.mono st16 (fun x => x)
  replace hR4 := hR4.mono st16 (fun x => x)
  replace tot := tot.trans st16.pure
  refine WP.storeB (ty := 32) (off := 0) (v := AG [encA .u8 d9, [.int .i64 x13], encA .i64 d10, [.slice a4 n4 c4]]) hB9 [encA .u8 d9, [.int .i64 x13], encA .i64 d10, [.slice a4 n4 c4]] [8, 1, 2, 1] (by kernel_rfl) (by kernel_rfl) (by simp [len_encA]) (by kernel_rfl) [encA .u8 d9, [.int .i64 x13], encA .i64 d10, [.slice a4 n4 c4]] (by kernel_rfl) (.arr (.one rfl (.arr (.one rfl .nil)))) ?_
  intro g17 st17 hB10
  replace hB2 := hB2.mono st17 (WL.no1 (by omega))
  replace hB3 := hB3.mono st17 (WL.no1 (by omega))
  replace hB4 := hB4.mono st17 (WL.no1 (by omega))
  replace hR2 := hR2.mono st17 (WL.no1 (by omega))
  replace hB7 := hB7.mono st17 (WL.no1 (by omega))
  replace hR3 := hR3.mono st17 (WL.no1 (by omega))
  replace hR4 := hR4.mono st17 (WL.no1 (by omega))
  replace tot := tot.trans (st17.up1 (.inr (by omega)))
  clear hB9
  have hB9 := hB10
  clear hB10
  refine WP.still 1 (by kernel_rfl) ?_
  refine WP.done (by kernel_rfl) ?_
  refine NX.then_n ?_
  refine CP.seqR ?_
  refine WP.loadB (v := AG [encA .u8 d7, [.int .i64 x11], encA .i64 d8, [.slice a3 n3 c3]]) hB7 (by kernel_rfl) (by kernel_rfl) ?_
  refine WP.still 1 (by kernel_rfl) ?_
  refine WP.loadB (v := AG [encA .u8 d3]) hB2 (by kernel_rfl) (by kernel_rfl) ?_
  refine WP.still 1 (by kernel_rfl) ?_
  refine WP.loadB (v := .int .i64 x5) hB2 (by kernel_rfl) (by kernel_rfl) ?_
  refine WP.still 1 (by kernel_rfl) ?_
  replace hs := Option.bind_eq_some_iff.1 hs
  obtain ⟨⟨d11, x15, d12, l5, x16⟩, hk7, hs⟩ := hs
  dsimp only at hs
  have hcal7 := P.purse_Purse_Back g17 d7 x11 d8 l3 d3 (IntKind.i64.wrap (x5 + 1)) a3 n3 c3 hR3 d11 x15 d12 l5 x16 hk7
  refine WP.callC hcal7 (by kernel_rfl) ?_
  rintro _ g18 st18 ⟨a5, n5, c5, rfl, hR5⟩
  replace hB2 := hB2.mono st18 (fun x => x)
  replace hB3 := hB3.mono st18 (fun x => x)
  replace hB4 := hB4.mono st18 (fun x => x)
  replace hR2 := hR2.mono st18 (fun x => x)
  replace hB7 := hB7.mono st18 (fun x => x)
  replace hR3 := hR3.mono st18 (fun x => x)
  replace hB9 := hB9.mono st18 (fun x => x)
  replace hR4 := hR4.mono st18 (fun x => x)
  replace tot := tot.trans st18.pure
  refine WP.still 3 (by kernel_rfl) ?_
  refine WP.alloc (T := 32) (t + 8) [encA .u8 (zA 8), [.int .i64 0], encA .i64 (zA 2), [.slice none 0 0]] [8, 1, 2, 1] (by kernel_rfl) (by simp [len_encA]) ?_
  intro g19 b7 st19 hB11
  replace hB2 := hB2.mono st19 (fun x => x)
  replace hB3 := hB3.mono st19 (fun x => x)
  replace hB4 := hB4.mono st19 (fun x => x)
  replace hR2 := hR2.mono st19 (fun x => x)
  replace hB7 := hB7.mono st19 (fun x => x)
  replace hR3 := hR3.mono st19 (fun x => x)
  replace hB9 := hB9.mono st19 (fun x => x)
  replace hR4 := hR4.mono st19 (fun x => x)
  replace hR5 := hR5.mono st19 (fun x => x)
  replace tot := tot.trans st19.pure
  refine WP.storeB (ty := 32) (off := 0) (v := AG [encA .u8 d11, [.int .i64 x15], encA .i64 d12, [.slice a5 n5 c5]]) hB11 [encA .u8 d11, [.int .i64 x15], encA .i64 d12, [.slice a5 n5 c5]] [8, 1, 2, 1] (by kernel_rfl) (by kernel_rfl) (by simp [len_encA]) (by kernel_rfl) [encA .u8 d11, [.int .i64 x15], encA .i64 d12, [.slice a5 n5 c5]] (by kernel_rfl) (.arr (.one rfl (.arr (.one rfl .nil)))) ?_
  intro g20 st20 hB12
  replace hB2 := hB2.mono st20 (WL.no1 (by omega))
  replace hB3 := hB3.mono st20 (WL.no1 (by omega))
  replace hB4 := hB4.mono st20 (WL.no1 (by omega))
  replace hR2 := hR2.mono st20 (WL.no1 (by omega))
  replace hB7 := hB7.mono st20 (WL.no1 (by omega))
  replace hR3 := hR3.mono st20 (WL.no1 (by omega))
  replace hB9 := hB9.mono st20 (WL.no1 (by omega))
  replace hR4 := hR4.mono st20 (WL.no1 (by omega))
  replace hR5 := hR5.mono st20 (WL.no1 (by omega))
  replace tot := tot.trans (st20.up1 (.inr (by omega)))
  clear hB11
  have hB11 := hB12
  clear hB12
  refine WP.still 1 (by kernel_rfl) ?_
  refine WP.done (by kernel_rfl) ?_
  refine NX.then_n ?_
  refine CP.refr 147 [(4, .pointer (some ⟨b2, 0, none⟩)), (5, .pointer (some ⟨b3, 0, none⟩)), (7, .pointer (some ⟨b4, 0, none⟩)), (8, .pointer (some ⟨b5, 0, none⟩)), (10, .pointer (some ⟨b6, 0, none⟩)), (11, .int .i64 x14), (12, .pointer (some ⟨b7, 0, none⟩)), (13, .int .i64 x16)] (by kernel_rfl) (by kernel_rfl) ?_
  clear ds
  intro ds
  refine CP.seq ?_
  refine CP.cut (fun tm g => ∃ (q7 : Bool), Fr 147 [(4, .pointer (some ⟨b2, 0, none⟩)), (5, .pointer (some ⟨b3, 0, none⟩)), (7, .pointer (some ⟨b4, 0, none⟩)), (8, .pointer (some ⟨b5, 0, none⟩)), (10, .pointer (some ⟨b6, 0, none⟩)), (93, .bool q7)] tm ∧ Step (fun l => NoM l ∨ t ≤ l) g0 g ∧ Box g (t + 2) b2 43 [[.int .u8 1], encA .u8 d3, [.int .i64 x3], [.int .i64 x4], [.int .i64 x5]] [1, 8, 1, 1, 1] ∧ Box g (t + 3) b3 43 [[.int .u8 x6], encA .u8 d4, [.int .i64 x7], [.int .i64 x8], [.int .i64 x9]] [1, 8, 1, 1, 1] ∧ Box g (t + 5) b4 32 [encA .u8 d5, [.int .i64 x10], encA .i64 d6, [.slice a2 n2 c2]] [8, 1, 2, 1] ∧ RdS k_S_purse_Held g 56 a2 n2 c2 l2 ∧ Box g (t + 6) b5 32 [encA .u8 d7, [.int .i64 x11], encA .i64 d8, [.slice a3 n3 c3]] [8, 1, 2, 1] ∧ RdS k_S_purse_Held g 56 a3 n3 c3 l3 ∧ Box g (t + 7) b6 32 [encA .u8 d9, [.int .i64 x13], encA .i64 d10, [.slice a4 n4 c4]] [8, 1, 2, 1] ∧ RdS k_S_purse_Held g 56 a4 n4 c4 l4 ∧ (F.baizelaw47_PurseBack.c3 d3 x6 d4 x7 x8 x9 d5 x10 d6 l2 d7 x11 d8 l3 d9 d10 l4 q7) = some o1) ?_ ?_
  · refine CP.region ?_
    refine WP.still 3 (by kernel_rfl) ?_
    refine WP.guard 76 (b := (x14 != 0)) (by kernel_rfl) (fun h19 => ?_) (fun h19 => ?_)
    · replace hs := of_if_t hs h19
      refine WP.still 17 (by kernel_rfl) ?_
      refine WP.done (by kernel_rfl) ?_
      refine NX.post ?_
      exact ⟨true, ⟨by kernel_rfl, by kernel_rfl⟩, tot, hB2, hB3, hB4, hR2, hB7, hR3, hB9, hR4, hs⟩
    replace hs := of_if_f hs h19
    refine WP.still 4 (by kernel_rfl) ?_
    refine WP.guard 80 (b := (x16 != 0)) (by kernel_rfl) (fun h20 => ?_) (fun h20 => ?_)
    · replace hs := of_if_t hs h20
      refine WP.still 13 (by kernel_rfl) ?_
      refine WP.done (by kernel_rfl) ?_
      refine NX.post ?_
      exact ⟨true, ⟨by kernel_rfl, by kernel_rfl⟩, tot, hB2, hB3, hB4, hR2, hB7, hR3, hB9, hR4, hs⟩
    replace hs := of_if_f hs h20
    refine WP.loadB (v := AG [encA .u8 d9, [.int .i64 x13], encA .i64 d10, [.slice a4 n4 c4]]) hB9 (by kernel_rfl) (by kernel_rfl) ?_
    refine WP.loadB (v := AG [encA .u8 d11, [.int .i64 x15], encA .i64 d12, [.slice a5 n5 c5]]) hB11 (by kernel_rfl) (by kernel_rfl) ?_
    replace hs := Option.bind_eq_some_iff.1 hs
    obtain ⟨q16, hk18, hs⟩ := hs
    have hcal18 := P.purse_Same g20 d9 x13 d10 l4 d11 x15 d12 l5 a4 n4 c4 a5 n5 c5 hR4 hR5 q16 hk18
    refine WP.callC hcal18 (by kernel_rfl) ?_
    rintro _ g38 st38 rfl
    replace hB2 := hB2.mono st38 (fun x => x)
    replace hB3 := hB3.mono st38 (fun x => x)
    replace hB4 := hB4.mono st38 (fun x => x)
    replace hR2 := hR2.mono st38 (fun x => x)
    replace hB7 := hB7.mono st38 (fun x => x)
    replace hR3 := hR3.mono st38 (fun x => x)
    replace hB9 := hB9.mono st38 (fun x => x)
    replace hR4 := hR4.mono st38 (fun x => x)
    replace hB11 := hB11.mono st38 (fun x => x)
    replace hR5 := hR5.mono st38 (fun x => x)
    replace tot := tot.trans st38.pure
    refine WP.still 3 (by kernel_rfl) ?_
    refine WP.guard 86 (b := (!q16)) (by kernel_rfl) (fun h21 => ?_) (fun h21 => ?_)
    · replace hs := of_if_t hs h21
      refine WP.still 7 (by kernel_rfl) ?_
      refine WP.done (by kernel_rfl) ?_
      refine NX.post ?_
      exact ⟨true, ⟨by kernel_rfl, by kernel_rfl⟩, tot, hB2, hB3, hB4, hR2, hB7, hR3, hB9, hR4, hs⟩
    replace hs := of_if_f hs h21
    refine WP.still 1 (by kernel_rfl) ?_
    refine WP.loadB (v := .int .i64 x13) hB9 (by kernel_rfl) (by kernel_rfl) ?_
    refine WP.still 1 (by kernel_rfl) ?_
    refine WP.loadB (v := .int .i64 x10) hB4 (by kernel_rfl) (by kernel_rfl) ?_
    refine WP.still 3 (by kernel_rfl) ?_
    refine WP.done (by kernel_rfl) ?_
    refine NX.post ?_
    exact ⟨(x13 != (IntKind.i64.wrap (x10 + 2))), ⟨by kernel_rfl, by kernel_rfl⟩, tot, hB2, hB3, hB4, hR2, hB7, hR3, hB9, hR4, hs⟩
  clear tot hs hB2 hB3 hB4 hR2 hB7 hR3 hB9 hR4 hB11 hR5
  rintro tm g ⟨q7, hF, tot, hB2, hB3, hB4, hR2, hB7, hR3, hB9, hR4, hs⟩
  clear ds
  obtain ⟨ds, rfl⟩ := hF.open
  clear hF
  unfold F.baizelaw47_PurseBack.c3 at hs
  refine CP.cond (b := q7) (by kernel_rfl) (fun h10 => ?_) (fun h10 => ?_)
  · replace hs := of_if_t hs h10
    refine CP.seqR ?_
    refine WP.still 1 (by kernel_rfl) ?_
    refine WP.done (by kernel_rfl) ?_
    refine NX.then_n ?_
    refine CP.ret ?_
    refine NX.then_r ?_
    replace hs := Option.some.inj hs
    obtain rfl := hs
    exact NX.fin (v := .bool false) (Res.still (by kernel_rfl)) tot htL rfl
  replace hs := of_if_f hs h10
  refine CP.skip ?_
  refine NX.then_n ?_
  refine CP.seqR ?_
  refine WP.still 1 (by kernel_rfl) ?_
  refine WP.loadB (v := .int .i64 x10) hB4 (by kernel_rfl) (by kernel_rfl) ?_
  refine WP.still 1 (by kernel_rfl) ?_
  refine WP.storeB (ty := 3) (off := 8) (v := .int .i64 x10) hB9 [[.int .i64 x10]] [1] (by kernel_rfl) (by kernel_rfl) rfl (by kernel_rfl) [encA .u8 d9, [.int .i64 x10], encA .i64 d10, [.slice a4 n4 c4]] (by kernel_rfl) (.one rfl .nil) ?_
  intro g22 st22 hB13
  replace hB2 := hB2.mono st22 (WL.no1 (by omega))
  replace hB3 := hB3.mono st22 (WL.no1 (by omega))
  replace hB4 := hB4.mono st22 (WL.no1 (by omega))
  replace hR2 := hR2.mono st22 (WL.no1 (by omega))
  replace hB7 := hB7.mono st22 (WL.no1 (by omega))
  replace hR3 := hR3.mono st22 (WL.no1 (by omega))
  replace hR4 := hR4.mono st22 (WL.no1 (by omega))
  replace tot := tot.trans (st22.up1 (.inr (by omega)))
  clear hB9
  have hB9 := hB13
  clear hB13
  refine WP.done (by kernel_rfl) ?_
  refine NX.then_n ?_
  refine CP.seq ?_
  refine CP.seqR ?_
  refine WP.loadB (v := AG [encA .u8 d9, [.int .i64 x10], encA .i64 d10, [.slice a4 n4 c4]]) hB9 (by kernel_rfl) (by kernel_rfl) ?_
  refine WP.loadB (v := AG [encA .u8 d5, [.int .i64 x10], encA .i64 d6, [.slice a2 n2 c2]]) hB4 (by kernel_rfl) (by kernel_rfl) ?_
  replace hs := Option.bind_eq_some_iff.1 hs
  obtain ⟨q8, hk9, hs⟩ := hs
  have hcal9 := P.purse_Same g22 d9 x10 d10 l4 d5 x10 d6 l2 a4 n4 c4 a2 n2 c2 hR4 hR2 q8 hk9
  refine WP.callC hcal9 (by kernel_rfl) ?_
  rintro _ g23 st23 rfl
  replace hB2 := hB2.mono st23 (fun x => x)
  replace hB3 := hB3.mono st23 (fun x => x)
  replace hB4 := hB4.mono st23 (fun x => x)
  replace hR2 := hR2.mono st23 (fun x => x)
  replace hB7 := hB7.mono st23 (fun x => x)
  replace hR3 := hR3.mono st23 (fun x => x)
  replace hB9 := hB9.mono st23 (fun x => x)
  replace hR4 := hR4.mono st23 (fun x => x)
  replace tot := tot.trans st23.pure
  refine WP.still 1 (by kernel_rfl) ?_
  refine WP.done (by kernel_rfl) ?_
  refine NX.then_n ?_
  refine CP.cond (b := (!q8)) (by kernel_rfl) (fun h11 => ?_) (fun h11 => ?_)
  · replace hs := of_if_t hs h11
    refine CP.seqR ?_
    refine WP.still 1 (by kernel_rfl) ?_
    refine WP.done (by kernel_rfl) ?_
    refine NX.then_n ?_
    refine CP.ret ?_
    refine NX.then_r ?_
    replace hs := Option.some.inj hs
    obtain rfl := hs
    exact NX.fin (v := .bool false) (Res.still (by kernel_rfl)) tot htL rfl
  replace hs := of_if_f hs h11
  refine CP.skip ?_
  refine NX.then_n ?_
  refine CP.seqR ?_
  refine WP.loadB (v := AG [encA .u8 d7, [.int .i64 x11], encA .i64 d8, [.slice a3 n3 c3]]) hB7 (by kernel_rfl) (by kernel_rfl) ?_
  refine WP.loadB (v := AG [[.int .u8 x6], encA .u8 d4, [.int .i64 x7], [.int .i64 x8], [.int .i64 x9]]) hB3 (by kernel_rfl) (by kernel_rfl) ?_
  replace hs := Option.bind_eq_some_iff.1 hs
  obtain ⟨⟨d13, x17, d14, l6, x18⟩, hk10, hs⟩ := hs
  dsimp only at hs
  have hcal10 := P.baizelaw47_do g23 d7 x11 d8 l3 x6 d4 x7 x8 x9 a3 n3 c3 hR3 d13 x17 d14 l6 x18 hk10
  refine WP.callC hcal10 (by kernel_rfl) ?_
  rintro _ g24 st24 ⟨a6, n6, c6, rfl, hR6⟩
  replace hB2 := hB2.mono st24 (fun x => x)
  replace hB3 := hB3.mono st24 (fun x => x)
  replace hB4 := hB4.mono st24 (fun x => x)
  replace hR2 := hR2.mono st24 (fun x => x)
  replace hB7 := hB7.mono st24 (fun x => x)
  replace hR3 := hR3.mono st24 (fun x => x)
  replace tot := tot.trans st24.pure
  refine WP.still 3 (by kernel_rfl) ?_
  refine WP.alloc (T := 32) (t + 9) [encA .u8 (zA 8), [.int .i64 0], encA .i64 (zA 2), [.slice none 0 0]] [8, 1, 2, 1] (by kernel_rfl) (by simp [len_encA]) ?_
  intro g25 b8 st25 hB14
  replace hB2 := hB2.mono st25 (fun x => x)
  replace hB3 := hB3.mono st25 (fun x => x)
  replace hB4 := hB4.mono st25 (fun x => x)
  replace hR2 := hR2.mono st25 (fun x => x)
  replace hB7 := hB7.mono st25 (fun x => x)
  replace hR3 := hR3.mono st25 (fun x => x)
  replace hR6 := hR6.mono st25 (fun x => x)
  replace tot := tot.trans st25.pure
  refine WP.storeB (ty := 32) (off := 0) (v := AG [encA .u8 d13, [.int .i64 x17], encA .i64 d14, [.slice a6 n6 c6]]) hB14 [encA .u8 d13, [.int .i64 x17], encA .i64 d14, [.slice a6 n6 c6]] [8, 1, 2, 1] (by kernel_rfl) (by kernel_rfl) (by simp [len_encA]) (by kernel_rfl) [encA .u8 d13, [.int .i64 x17], encA .i64 d14, [.slice a6 n6 c6]] (by kernel_rfl) (.arr (.one rfl (.arr (.one rfl .nil)))) ?_
  intro g26 st26 hB15
  replace hB2 := hB2.mono st26 (WL.no1 (by omega))
  replace hB3 := hB3.mono st26 (WL.no1 (by omega))
  replace hB4 := hB4.mono st26 (WL.no1 (by omega))
  replace hR2 := hR2.mono st26 (WL.no1 (by omega))
  replace hB7 := hB7.mono st26 (WL.no1 (by omega))
  replace hR3 := hR3.mono st26 (WL.no1 (by omega))
  replace hR6 := hR6.mono st26 (WL.no1 (by omega))
  replace tot := tot.trans (st26.up1 (.inr (by omega)))
  clear hB14
  have hB14 := hB15
  clear hB15
  refine WP.still 1 (by kernel_rfl) ?_
  refine WP.done (by kernel_rfl) ?_
  refine NX.then_n ?_
  refine CP.refr 147 [(4, .pointer (some ⟨b2, 0, none⟩)), (5, .pointer (some ⟨b3, 0, none⟩)), (7, .pointer (some ⟨b4, 0, none⟩)), (14, .pointer (some ⟨b8, 0, none⟩)), (15, .int .i64 x18)] (by kernel_rfl) (by kernel_rfl) ?_
  clear ds
  intro ds
  refine CP.seqR ?_
  refine WP.loadB (v := AG [encA .u8 d5, [.int .i64 x10], encA .i64 d6, [.slice a2 n2 c2]]) hB4 (by kernel_rfl) (by kernel_rfl) ?_
  refine WP.loadB (v := AG [[.int .u8 x6], encA .u8 d4, [.int .i64 x7], [.int .i64 x8], [.int .i64 x9]]) hB3 (by kernel_rfl) (by kernel_rfl) ?_
  replace hs := Option.bind_eq_some_iff.1 hs
  obtain ⟨⟨d15, x19, d16, l7, x20⟩, hk11, hs⟩ := hs
  dsimp only at hs
  have hcal11 := P.baizelaw47_do g26 d5 x10 d6 l2 x6 d4 x7 x8 x9 a2 n2 c2 hR2 d15 x19 d16 l7 x20 hk11
  refine WP.callC hcal11 (by kernel_rfl) ?_
  rintro _ g27 st27 ⟨a7, n7, c7, rfl, hR7⟩
  replace hB2 := hB2.mono st27 (fun x => x)
  replace hB3 := hB3.mono st27 (fun x => x)
  replace hB4 := hB4.mono st27 (fun x => x)
  replace hR2 := hR2.mono st27 (fun x => x)
  replace hB14 := hB14.mono st27 (fun x => x)
  replace hR6 := hR6.mono st27 (fun x => x)
  replace tot := tot.trans st27.pure
  refine WP.still 3 (by kernel_rfl) ?_
  refine WP.alloc (T := 32) (t + 10) [encA .u8 (zA 8), [.int .i64 0], encA .i64 (zA 2), [.slice none 0 0]] [8, 1, 2, 1] (by kernel_rfl) (by simp [len_encA]) ?_
  intro g28 b9 st28 hB16
  replace hB2 := hB2.mono st28 (fun x => x)
  replace hB3 := hB3.mono st28 (fun x => x)
  replace hB4 := hB4.mono st28 (fun x => x)
  replace hR2 := hR2.mono st28 (fun x => x)
  replace hB14 := hB14.mono st28 (fun x => x)
  replace hR6 := hR6.mono st28 (fun x => x)
  replace hR7 := hR7.mono st28 (fun x => x)
  replace tot := tot.trans st28.pure
  refine WP.storeB (ty := 32) (off := 0) (v := AG [encA .u8 d15, [.int .i64 x19], encA .i64 d16, [.slice a7 n7 c7]]) hB16 [encA .u8 d15, [.int .i64 x19], encA .i64 d16, [.slice a7 n7 c7]] [8, 1, 2, 1] (by kernel_rfl) (by kernel_rfl) (by simp [len_encA]) (by kernel_rfl) [encA .u8 d15, [.int .i64 x19], encA .i64 d16, [.slice a7 n7 c7]] (by kernel_rfl) (.arr (.one rfl (.arr (.one rfl .nil)))) ?_
  intro g29 st29 hB17
  replace hB2 := hB2.mono st29 (WL.no1 (by omega))
  replace hB3 := hB3.mono st29 (WL.no1 (by omega))
  replace hB4 := hB4.mono st29 (WL.no1 (by omega))
  replace hR2 := hR2.mono st29 (WL.no1 (by omega))
  replace hB14 := hB14.mono st29 (WL.no1 (by omega))
  replace hR6 := hR6.mono st29 (WL.no1 (by omega))
  replace hR7 := hR7.mono st29 (WL.no1 (by omega))
  replace tot := tot.trans (st29.up1 (.inr (by omega)))
  clear hB16
  have hB16 := hB17
  clear hB17
  refine WP.still 1 (by kernel_rfl) ?_
  refine WP.done (by kernel_rfl) ?_
  refine NX.then_n ?_
  refine CP.seq ?_
  refine CP.seqR ?_
  refine WP.still 5 (by kernel_rfl) ?_
  refine WP.done (by kernel_rfl) ?_
  refine NX.then_n ?_
  refine CP.refr 147 [(4, .pointer (some ⟨b2, 0, none⟩)), (14, .pointer (some ⟨b8, 0, none⟩)), (15, .int .i64 x18), (16, .pointer (some ⟨b9, 0, none⟩)), (117, .bool (!((x18 == 0) == (x20 == 0))))] (by kernel_rfl) (by kernel_rfl) ?_
  clear ds
  intro ds
  refine CP.cond (b := (!((x18 == 0) == (x20 == 0)))) (by kernel_rfl) (fun h12 => ?_) (fun h12 => ?_)
  · replace hs := of_if_t hs h12
    refine CP.seqR ?_
    refine WP.still 1 (by kernel_rfl) ?_
    refine WP.done (by kernel_rfl) ?_
    refine NX.then_n ?_
    refine CP.ret ?_
    refine NX.then_r ?_
    replace hs := Option.some.inj hs
    obtain rfl := hs
    exact NX.fin (v := .bool false) (Res.still (by kernel_rfl)) tot htL rfl
  replace hs := of_if_f hs h12
  refine CP.skip ?_
  refine NX.then_n ?_
  refine CP.seq ?_
  refine CP.seqR ?_
  refine WP.still 2 (by kernel_rfl) ?_
  refine WP.done (by kernel_rfl) ?_
  refine NX.then_n ?_
  refine CP.cond (b := (x18 != 0)) (by kernel_rfl) (fun h13 => ?_) (fun h13 => ?_)
  · replace hs := of_if_t hs h13
    refine CP.seqR ?_
    replace hs := Option.bind_eq_some_iff.1 hs
    obtain ⟨q9, hk12, hs⟩ := hs
    have hcal12 := P.baizelaw47_told g29 q9 hk12
    refine WP.callC hcal12 (by kernel_rfl) ?_
    rintro _ g30 st30 rfl
    replace hB2 := hB2.mono st30 (fun x => x)
    replace hB14 := hB14.mono st30 (fun x => x)
    replace hR6 := hR6.mono st30 (fun x => x)
    replace hB16 := hB16.mono st30 (fun x => x)
    replace hR7 := hR7.mono st30 (fun x => x)
    replace tot := tot.trans st30.pure
    refine WP.still 1 (by kernel_rfl) ?_
    refine WP.done (by kernel_rfl) ?_
    refine NX.then_n ?_
    refine CP.ret ?_
    refine NX.then_r ?_
    replace hs := Option.some.inj hs
    obtain rfl := hs
    exact NX.fin (v := .bool q9) (Res.still (by kernel_rfl)) tot htL rfl
  replace hs := of_if_f hs h13
  refine CP.skip ?_
  refine NX.then_n ?_
  refine CP.seqR ?_
  refine WP.loadB (v := AG [encA .u8 d13, [.int .i64 x17], encA .i64 d14, [.slice a6 n6 c6]]) hB14 (by kernel_rfl) (by kernel_rfl) ?_
  refine WP.still 1 (by kernel_rfl) ?_
  refine WP.loadB (v := AG [encA .u8 d3]) hB2 (by kernel_rfl) (by kernel_rfl) ?_
  replace hs := Option.bind_eq_some_iff.1 hs
  obtain ⟨⟨d17, x21, d18, l8, x22⟩, hk13, hs⟩ := hs
  dsimp only at hs
  have hcal13 := P.purse_Purse_Free g29 d13 x17 d14 l6 d3 0 a6 n6 c6 hR6 d17 x21 d18 l8 x22 hk13
  refine WP.callC hcal13 (by kernel_rfl) ?_
  rintro _ g31 st31 ⟨a8, n8, c8, rfl, hR8⟩
  replace hB2 := hB2.mono st31 (fun x => x)
  replace hB14 := hB14.mono st31 (fun x => x)
  replace hR6 := hR6.mono st31 (fun x => x)
  replace hB16 := hB16.mono st31 (fun x => x)
  replace hR7 := hR7.mono st31 (fun x => x)
  replace tot := tot.trans st31.pure
  refine WP.still 3 (by kernel_rfl) ?_
  refine WP.storeB (ty := 32) (off := 0) (v := AG [encA .u8 d17, [.int .i64 x21], encA .i64 d18, [.slice a8 n8 c8]]) hB14 [encA .u8 d17, [.int .i64 x21], encA .i64 d18, [.slice a8 n8 c8]] [8, 1, 2, 1] (by kernel_rfl) (by kernel_rfl) (by simp [len_encA]) (by kernel_rfl) [encA .u8 d17, [.int .i64 x21], encA .i64 d18, [.slice a8 n8 c8]] (by kernel_rfl) (.arr (.one rfl (.arr (.one rfl .nil)))) ?_
  intro g32 st32 hB18
  replace hB2 := hB2.mono st32 (WL.no1 (by omega))
  replace hR8 := hR8.mono st32 (WL.no1 (by omega))
  replace hB16 := hB16.mono st32 (WL.no1 (by omega))
  replace hR7 := hR7.mono st32 (WL.no1 (by omega))
  replace hR6 := hR6.mono st32 (WL.no1 (by omega))
  replace tot := tot.trans (st32.up1 (.inr (by omega)))
  clear hB14
  have hB14 := hB18
  clear hB18
  refine WP.still 1 (by kernel_rfl) ?_
  refine WP.done (by kernel_rfl) ?_
  refine NX.then_n ?_
  refine CP.seq ?_
  refine CP.cut (fun tm g => ∃ (q10 : Bool), Fr 147 [(14, .pointer (some ⟨b8, 0, none⟩)), (16, .pointer (some ⟨b9, 0, none⟩)), (137, .bool q10)] tm ∧ Step (fun l => NoM l ∨ t ≤ l) g0 g ∧ Box g (t + 9) b8 32 [encA .u8 d17, [.int .i64 x21], encA .i64 d18, [.slice a8 n8 c8]] [8, 1, 2, 1] ∧ RdS k_S_purse_Held g 56 a8 n8 c8 l8 ∧ Box g (t + 10) b9 32 [encA .u8 d15, [.int .i64 x19], encA .i64 d16, [.slice a7 n7 c7]] [8, 1, 2, 1] ∧ RdS k_S_purse_Held g 56 a7 n7 c7 l7 ∧ (F.baizelaw47_PurseBack.c4 d15 x19 d16 l7 d17 d18 l8 q10) = some o1) ?_ ?_
  · refine CP.region ?_
    refine WP.still 3 (by kernel_rfl) ?_
    refine WP.guard 130 (b := (x22 != 0)) (by kernel_rfl) (fun h18 => ?_) (fun h18 => ?_)
    · replace hs := of_if_t hs h18
      refine WP.still 7 (by kernel_rfl) ?_
      refine WP.done (by kernel_rfl) ?_
      refine NX.post ?_
      exact ⟨true, ⟨by kernel_rfl, by kernel_rfl⟩, tot, hB14, hR8, hB16, hR7, hs⟩
    replace hs := of_if_f hs h18
    refine WP.still 1 (by kernel_rfl) ?_
    refine WP.loadB (v := .int .i64 x21) hB14 (by kernel_rfl) (by kernel_rfl) ?_
    refine WP.still 1 (by kernel_rfl) ?_
    refine WP.loadB (v := .int .i64 x19) hB16 (by kernel_rfl) (by kernel_rfl) ?_
    refine WP.still 3 (by kernel_rfl) ?_
    refine WP.done (by kernel_rfl) ?_
    refine NX.post ?_
    exact ⟨(x21 != (IntKind.i64.wrap (x19 + 2))), ⟨by kernel_rfl, by kernel_rfl⟩, tot, hB14, hR8, hB16, hR7, hs⟩
  clear tot hs hB14 hR8 hB16 hR7
  rintro tm g ⟨q10, hF, tot, hB14, hR8, hB16, hR7, hs⟩
  clear ds
  obtain ⟨ds, rfl⟩ := hF.open
  clear hF
  unfold F.baizelaw47_PurseBack.c4 at hs
  refine CP.cond (b := q10) (by kernel_rfl) (fun h15 => ?_) (fun h15 => ?_)
  · replace hs := of_if_t hs h15
    refine CP.seqR ?_
    refine WP.still 1 (by kernel_rfl) ?_
    refine WP.done (by kernel_rfl) ?_
    refine NX.then_n ?_
    refine CP.ret ?_
    refine NX.then_r ?_
    replace hs := Option.some.inj hs
    obtain rfl := hs
    exact NX.fin (v := .bool false) (Res.still (by kernel_rfl)) tot htL rfl
  replace hs := of_if_f hs h15
  refine CP.skip ?_
  refine NX.then_n ?_
  refine CP.seqR ?_
  refine WP.still 1 (by kernel_rfl) ?_
  refine WP.loadB (v := .int .i64 x19) hB16 (by kernel_rfl) (by kernel_rfl) ?_
  refine WP.still 1 (by kernel_rfl) ?_
  refine WP.storeB (ty := 3) (off := 8) (v := .int .i64 x19) hB14 [[.int .i64 x19]] [1] (by kernel_rfl) (by kernel_rfl) rfl (by kernel_rfl) [encA .u8 d17, [.int .i64 x19], encA .i64 d18, [.slice a8 n8 c8]] (by kernel_rfl) (.one rfl .nil) ?_
  intro g33 st33 hB19
  replace hR8 := hR8.mono st33 (WL.no1 (by omega))
  replace hB16 := hB16.mono st33 (WL.no1 (by omega))
  replace hR7 := hR7.mono st33 (WL.no1 (by omega))
  replace tot := tot.trans (st33.up1 (.inr (by omega)))
  clear hB14
  have hB14 := hB19
  clear hB19
  refine WP.done (by kernel_rfl) ?_
  refine NX.then_n ?_
  refine CP.cut (fun tm g => ∃ (q13 : Bool), Fr 147 [(6, .bool q13)] tm ∧ Step (fun l => NoM l ∨ t ≤ l) g0 g ∧ (F.baizelaw47_PurseBack.c5 q13) = some o1) ?_ ?_
  · refine CP.region ?_
    refine WP.loadB (v := AG [encA .u8 d17, [.int .i64 x19], encA .i64 d18, [.slice a8 n8 c8]]) hB14 (by kernel_rfl) (by kernel_rfl) ?_
    refine WP.loadB (v := AG [encA .u8 d15, [.int .i64 x19], encA .i64 d16, [.slice a7 n7 c7]]) hB16 (by kernel_rfl) (by kernel_rfl) ?_
    replace hs := Option.bind_eq_some_iff.1 hs
    obtain ⟨q14, hk16, hs⟩ := hs
    have hcal16 := P.purse_Same g33 d17 x19 d18 l8 d15 x19 d16 l7 a8 n8 c8 a7 n7 c7 hR8 hR7 q14 hk16
    refine WP.callC hcal16 (by kernel_rfl) ?_
    rintro _ g36 st36 rfl
    replace hB14 := hB14.mono st36 (fun x => x)
    replace hR8 := hR8.mono st36 (fun x => x)
    replace hB16 := hB16.mono st36 (fun x => x)
    replace hR7 := hR7.mono st36 (fun x => x)
    replace tot := tot.trans st36.pure
    refine WP.still 1 (by kernel_rfl) ?_
    refine WP.guard 144 (b := q14) (by kernel_rfl) (fun h17 => ?_) (fun h17 => ?_)
    · replace hs := of_if_t hs h17
      replace hs := Option.bind_eq_some_iff.1 hs
      obtain ⟨q15, hk17, hs⟩ := hs
      have hcal17 := P.baizelaw47_told g36 q15 hk17
      refine WP.callC hcal17 (by kernel_rfl) ?_
      rintro _ g37 st37 rfl
      replace hB14 := hB14.mono st37 (fun x => x)
      replace hR8 := hR8.mono st37 (fun x => x)
      replace hB16 := hB16.mono st37 (fun x => x)
      replace hR7 := hR7.mono st37 (fun x => x)
      replace tot := tot.trans st37.pure
      refine WP.still 2 (by kernel_rfl) ?_
      refine WP.done (by kernel_rfl) ?_
      refine NX.post ?_
      exact ⟨q15, ⟨by kernel_rfl, by kernel_rfl⟩, tot, hs⟩
    replace hs := of_if_f hs h17
    refine WP.still 3 (by kernel_rfl) ?_
    refine WP.done (by kernel_rfl) ?_
    refine NX.post ?_
    exact ⟨false, ⟨by kernel_rfl, by kernel_rfl⟩, tot, hs⟩
  clear tot hs hB14 hR8 hB16 hR7
  rintro tm g ⟨q13, hF, tot, hs⟩
  clear ds
  obtain ⟨ds, rfl⟩ := hF.open
  clear hF
  unfold F.baizelaw47_PurseBack.c5 at hs
  refine CP.ret ?_
  replace hs := Option.some.inj hs
  obtain rfl := hs
  exact NX.fin (v := .bool q13) (Res.still (by kernel_rfl)) tot htL rfl
end Go.Proofs.Yticlfbpmfejdoaa
