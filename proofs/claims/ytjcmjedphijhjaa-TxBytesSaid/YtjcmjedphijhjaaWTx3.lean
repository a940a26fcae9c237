/-
  Walks, written by program: each Go function computes the plain function of its name, in whatever world its arguments' facts hold.
-/
import Derived.Test.YtjcmjedphijhjaaWTx2
namespace Go.Proofs.Ytjcmjedphijhjaa
open Go.RowKit Go.Lab
attribute [local irreducible] WP CP NX wpList Code.wp Calls
set_option maxRecDepth 100000
set_option maxHeartbeats 4000000
set_option linter.unusedVariables false

def F.baizelaw25_TxSame.c2 (q10 : Bool) : Option (Bool) := (some q10)
def F.baizelaw25_TxSame.c1 (x7 : Int) (d3 : Arr Int 8) (x8 : Int) (x9 : Int) (x10 : Int) (l5 : List Int) (l6 : List Int) (q6 : Bool) : Option (Bool) := (if q6 = true then (some false) else ((F.tx_Tx_Clone d3 x8 x9 x10 l5 l6).bind fun (d7, x22, x23, x24, l15, l16) => ((F.tx_Tx_Same d7 x22 x23 x24 l15 l16 d3 x8 x9 x10 l5 l6).bind fun q7 => (if (!q7) = true then (some false) else (if decide ((l15.length : Int) > 0) = true then (if (IntKind.u64.wrap (l15.length : Int)) ≠ 0 then (if (0 : Int) ≤ (IntKind.i64.wrap ((IntKind.u64.wrap x7).tmod (IntKind.u64.wrap (l15.length : Int)))) ∧ (IntKind.i64.wrap ((IntKind.u64.wrap x7).tmod (IntKind.u64.wrap (l15.length : Int)))) < (l5.length : Int) then (if (0 : Int) ≤ (IntKind.i64.wrap ((IntKind.u64.wrap x7).tmod (IntKind.u64.wrap (l15.length : Int)))) ∧ (IntKind.i64.wrap ((IntKind.u64.wrap x7).tmod (IntKind.u64.wrap (l15.length : Int)))) < (l15.length : Int) then (if (0 : Int) ≤ (IntKind.i64.wrap ((IntKind.u64.wrap x7).tmod (IntKind.u64.wrap (l15.length : Int)))) ∧ (IntKind.i64.wrap ((IntKind.u64.wrap x7).tmod (IntKind.u64.wrap (l15.length : Int)))) < (l15.length : Int) then ((F.baizelaw25_known).bind fun q11 => (if q11 = true then (if (0 : Int) ≤ (IntKind.i64.wrap ((IntKind.u64.wrap x7).tmod (IntKind.u64.wrap (l15.length : Int)))) ∧ (IntKind.i64.wrap ((IntKind.u64.wrap x7).tmod (IntKind.u64.wrap (l15.length : Int)))) < (l5.length : Int) then (if ((getI l5 (IntKind.i64.wrap ((IntKind.u64.wrap x7).tmod (IntKind.u64.wrap (l15.length : Int))))) == (getI l5 (IntKind.i64.wrap ((IntKind.u64.wrap x7).tmod (IntKind.u64.wrap (l15.length : Int)))))) = true then ((F.tx_Tx_Same d7 x22 x23 x24 (setI l15 (IntKind.i64.wrap ((IntKind.u64.wrap x7).tmod (IntKind.u64.wrap (l15.length : Int)))) (IntKind.u8.wrap ((getI l15 (IntKind.i64.wrap ((IntKind.u64.wrap x7).tmod (IntKind.u64.wrap (l15.length : Int))))) + 1))) l16 d3 x8 x9 x10 l5 l6).bind fun q12 => (F.baizelaw25_TxSame.c2 (!q12))) else (F.baizelaw25_TxSame.c2 false)) else none) else (F.baizelaw25_TxSame.c2 false))) else none) else none) else none) else none) else ((F.baizelaw25_known).bind fun q13 => (some q13)))))))
def F.baizelaw25_TxSame (d1 : Arr Int 8) (x1 : Int) (x2 : Int) (x3 : Int) (l1 : List Int) (l2 : List Int) (d2 : Arr Int 8) (x4 : Int) (x5 : Int) (x6 : Int) (l3 : List Int) (l4 : List Int) (x7 : Int) : Option (Bool) := ((F.baizelaw25_Cut d1 x1 x2 x3 l1 l2).bind fun (d3, x8, x9, x10, l5, l6) => ((F.baizelaw25_Cut d2 x4 x5 x6 l3 l4).bind fun (d4, x11, x12, x13, l7, l8) => ((F.baizelaw25_Of d3 x8 x9 x10 l5 l6).bind fun (d5, x14, x15, x16, l9, l10) => ((F.baizelaw25_Of d4 x11 x12 x13 l7 l8).bind fun (d6, x17, x18, x19, l11, l12) => ((F.baizeref25_Same d5 x14 x15 x16 l9 l10 d6 x17 x18 x19 l11 l12).bind fun q1 => ((F.tx_Tx_Encode d3 x8 x9 x10 l5 l6).bind fun (l13, x20) => ((F.tx_Tx_Encode d4 x11 x12 x13 l7 l8).bind fun (l14, x21) => ((F.tx_Tx_Same d3 x8 x9 x10 l5 l6 d4 x11 x12 x13 l7 l8).bind fun q14 => (if (!(q14 == q1)) = true then (F.baizelaw25_TxSame.c1 x7 d3 x8 x9 x10 l5 l6 true) else ((F.tx_Tx_Same d4 x11 x12 x13 l7 l8 d3 x8 x9 x10 l5 l6).bind fun q15 => (if (!(q15 == q1)) = true then (F.baizelaw25_TxSame.c1 x7 d3 x8 x9 x10 l5 l6 true) else ((F.tx_Tx_Same d3 x8 x9 x10 l5 l6 d3 x8 x9 x10 l5 l6).bind fun q16 => (if (!q16) = true then (F.baizelaw25_TxSame.c1 x7 d3 x8 x9 x10 l5 l6 true) else (if (x20 == 0) = true then (if (x21 == 0) = true then ((F.baizeref01_Same l13 l14).bind fun q17 => (F.baizelaw25_TxSame.c1 x7 d3 x8 x9 x10 l5 l6 (!(q17 == q1)))) else (F.baizelaw25_TxSame.c1 x7 d3 x8 x9 x10 l5 l6 false)) else (F.baizelaw25_TxSame.c1 x7 d3 x8 x9 x10 l5 l6 false)))))))))))))))
theorem P.baizelaw25_TxSame (g0 : GW) (d1 : Arr Int 8) (x1 : Int) (x2 : Int) (x3 : Int) (l1 : List Int) (l2 : List Int) (d2 : Arr Int 8) (x4 : Int) (x5 : Int) (x6 : Int) (l3 : List Int) (l4 : List Int) (x7 : Int) (a1 : Option Addr) (n1 : Nat) (c1 : Nat) (a2 : Option Addr) (n2 : Nat) (c2 : Nat) (a3 : Option Addr) (n3 : Nat) (c3 : Nat) (a4 : Option Addr) (n4 : Nat) (c4 : Nat) (hR1 : RdS (Kd.int .u8) g0 5 a1 n1 c1 l1) (hR2 : RdS (Kd.int .u8) g0 5 a2 n2 c2 l2) (hR3 : RdS (Kd.int .u8) g0 5 a3 n3 c3 l3) (hR4 : RdS (Kd.int .u8) g0 5 a4 n4 c4 l4) (o1 : Bool) (hs : F.baizelaw25_TxSame d1 x1 x2 x3 l1 l2 d2 x4 x5 x6 l3 l4 x7 = some o1) :
    Calls Try.prog 5 #[AG [encA .u8 d1, [.int .i64 x1], [.int .i64 x2], [.int .i64 x3], [.slice a1 n1 c1], [.slice a2 n2 c2]], AG [encA .u8 d2, [.int .i64 x4], [.int .i64 x5], [.int .i64 x6], [.slice a3 n3 c3], [.slice a4 n4 c4]], .int .i64 x7] g0.w (Ret NoM g0 fun v g => v = .bool o1) := by
  refine calls_of (args := [AG [encA .u8 d1, [.int .i64 x1], [.int .i64 x2], [.int .i64 x3], [.slice a1 n1 c1], [.slice a2 n2 c2]], AG [encA .u8 d2, [.int .i64 x4], [.int .i64 x5], [.int .i64 x6], [.slice a3 n3 c3], [.slice a4 n4 c4]], .int .i64 x7]) Try.func5 rfl (0) ?_
  intro t ht htL
  refine ⟨_, rfl, ?_⟩
  refine CP.refr 114 [(0, AG [encA .u8 d1, [.int .i64 x1], [.int .i64 x2], [.int .i64 x3], [.slice a1 n1 c1], [.slice a2 n2 c2]]), (1, AG [encA .u8 d2, [.int .i64 x4], [.int .i64 x5], [.int .i64 x6], [.slice a3 n3 c3], [.slice a4 n4 c4]]), (2, .int .i64 x7)] (by kernel_rfl) (by kernel_rfl) ?_
  intro ds
  have tot : Step (fun l => NoM l ∨ t ≤ l) g0 g0 := Step.refl _ _
  unfold F.baizelaw25_TxSame at hs
  refine CP.seqR ?_
  refine WP.alloc (T := 26) (t + 1) [encA .u8 d1, [.int .i64 x1], [.int .i64 x2], [.int .i64 x3], [.slice a1 n1 c1], [.slice a2 n2 c2]] [8, 1, 1, 1, 1, 1] (by kernel_rfl) (by simp [len_encA]) ?_
  intro g1 b1 st1 hB1
  replace hR1 := hR1.mono st1 (fun x => x)
  replace hR2 := hR2.mono st1 (fun x => x)
  replace hR3 := hR3.mono st1 (fun x => x)
  replace hR4 := hR4.mono st1 (fun x => x)
  replace tot := tot.trans st1.pure
  refine WP.alloc (T := 26) (t + 2) [encA .u8 d2, [.int .i64 x4], [.int .i64 x5], [.int .i64 x6], [.slice a3 n3 c3], [.slice a4 n4 c4]] [8, 1, 1, 1, 1, 1] (by kernel_rfl) (by simp [len_encA]) ?_
  intro g2 b2 st2 hB2
  replace hR1 := hR1.mono st2 (fun x => x)
  replace hR2 := hR2.mono st2 (fun x => x)
  replace hR3 := hR3.mono st2 (fun x => x)
  replace hR4 := hR4.mono st2 (fun x => x)
  replace hB1 := hB1.mono st2 (fun x => x)
  replace tot := tot.trans st2.pure
  refine WP.still 1 (by kernel_rfl) ?_
  refine WP.done (by kernel_rfl) ?_
  refine NX.then_n ?_
  refine CP.seq ?_
  replace hs := Option.bind_eq_some_iff.1 hs
  obtain ⟨⟨d3, x8, x9, x10, l5, l6⟩, hk1, hs⟩ := hs
  dsimp only at hs
  replace hs := Option.bind_eq_some_iff.1 hs
  obtain ⟨⟨d4, x11, x12, x13, l7, l8⟩, hk2, hs⟩ := hs
  dsimp only at hs
  refine CP.drawL (by kernel_rfl) [0, 1, 2, 3, 4, 5] [[], [0], [], [0, 1, 2], [0, 1, 2, 3], [0, 1, 2, 3, 4]] [⟨none, [0], [], fun l g => Box g (t + 1) b1 26 [encA .u8 d1, [.int .i64 x1], [.int .i64 x2], [.int .i64 x3], [.slice a1 n1 c1], [.slice a2 n2 c2]] [8, 1, 1, 1, 1, 1]⟩, ⟨none, [], [], fun l g => RdS (Kd.int .u8) g 5 a1 n1 c1 l1⟩, ⟨none, [], [], fun l g => RdS (Kd.int .u8) g 5 a2 n2 c2 l2⟩, ⟨none, [1], [], fun l g => Box g (t + 2) b2 26 [encA .u8 d2, [.int .i64 x4], [.int .i64 x5], [.int .i64 x6], [.slice a3 n3 c3], [.slice a4 n4 c4]] [8, 1, 1, 1, 1, 1]⟩, ⟨none, [], [], fun l g => RdS (Kd.int .u8) g 5 a3 n3 c3 l3⟩, ⟨none, [], [], fun l g => RdS (Kd.int .u8) g 5 a4 n4 c4 l4⟩, ⟨some 0, [], [0], fun l g => l.getD 0 undef = AG [encA .u8 d1, [.int .i64 x1], [.int .i64 x2], [.int .i64 x3], [.slice a1 n1 c1], [.slice a2 n2 c2]]⟩, ⟨some 1, [], [1], fun l g => ∃ (a5 : Option Addr) (c5 : Nat) (a6 : Option Addr) (c6 : Nat), l.getD 0 undef = AG [encA .u8 d3, [.int .i64 x8], [.int .i64 x9], [.int .i64 x10], [.slice a5 l5.length c5], [.slice a6 l6.length c6]] ∧ RdS (Kd.int .u8) g 5 a5 l5.length c5 l5 ∧ RdS (Kd.int .u8) g 5 a6 l6.length c6 l6⟩, ⟨some 2, [], [2], fun l g => l.getD 0 undef = AG [encA .u8 d2, [.int .i64 x4], [.int .i64 x5], [.int .i64 x6], [.slice a3 n3 c3], [.slice a4 n4 c4]]⟩, ⟨some 3, [], [3], fun l g => ∃ (a7 : Option Addr) (c7 : Nat) (a8 : Option Addr) (c8 : Nat), l.getD 0 undef = AG [encA .u8 d4, [.int .i64 x11], [.int .i64 x12], [.int .i64 x13], [.slice a7 l7.length c7], [.slice a8 l8.length c8]] ∧ RdS (Kd.int .u8) g 5 a7 l7.length c7 l7 ∧ RdS (Kd.int .u8) g 5 a8 l8.length c8 l8⟩, ⟨some 4, [0], [1], fun l g => ∃ (a5 : Option Addr) (c5 : Nat) (a6 : Option Addr) (c6 : Nat), l.getD 0 undef = AG [encA .u8 d3, [.int .i64 x8], [.int .i64 x9], [.int .i64 x10], [.slice a5 l5.length c5], [.slice a6 l6.length c6]] ∧ RdS (Kd.int .u8) g 5 a5 l5.length c5 l5 ∧ RdS (Kd.int .u8) g 5 a6 l6.length c6 l6 ∧ Box g (t + 1) b1 26 [encA .u8 d3, [.int .i64 x8], [.int .i64 x9], [.int .i64 x10], [.slice a5 l5.length c5], [.slice a6 l6.length c6]] [8, 1, 1, 1, 1, 1]⟩, ⟨some 5, [1], [3], fun l g => ∃ (a7 : Option Addr) (c7 : Nat) (a8 : Option Addr) (c8 : Nat), l.getD 0 undef = AG [encA .u8 d4, [.int .i64 x11], [.int .i64 x12], [.int .i64 x13], [.slice a7 l7.length c7], [.slice a8 l8.length c8]] ∧ RdS (Kd.int .u8) g 5 a7 l7.length c7 l7 ∧ RdS (Kd.int .u8) g 5 a8 l8.length c8 l8 ∧ Box g (t + 2) b2 26 [encA .u8 d4, [.int .i64 x11], [.int .i64 x12], [.int .i64 x13], [.slice a7 l7.length c7], [.slice a8 l8.length c8]] [8, 1, 1, 1, 1, 1]⟩] [[], [], [], [], [0], [1]] [(t + 1), (t + 2)] [] [] (by kernel_rfl) (by simp <;> omega) (by simp <;> omega) ⟨fun _ _ _ _ st h0 hl hj hB1 => (hB1.mono st (hj 0 (by simp) _ rfl)), fun _ _ _ _ st h0 hl hj hR1 => (RdS.mono (e := 5) hR1 st h0), fun _ _ _ _ st h0 hl hj hR2 => (RdS.mono (e := 5) hR2 st h0), fun _ _ _ _ st h0 hl hj hB2 => (hB2.mono st (hj 1 (by simp) _ rfl)), fun _ _ _ _ st h0 hl hj hR3 => (RdS.mono (e := 5) hR3 st h0), fun _ _ _ _ st h0 hl hj hR4 => (RdS.mono (e := 5) hR4 st h0), fun _ _ _ _ st h0 hl hj e => e, fun _ _ _ _ st h0 hl hj ⟨a5, c5, a6, c6, e, hR5, hR6⟩ => ⟨a5, c5, a6, c6, e, (RdS.mono (e := 5) hR5 st h0), (RdS.mono (e := 5) hR6 st h0)⟩, fun _ _ _ _ st h0 hl hj e => e, fun _ _ _ _ st h0 hl hj ⟨a7, c7, a8, c8, e, hR7, hR8⟩ => ⟨a7, c7, a8, c8, e, (RdS.mono (e := 5) hR7 st h0), (RdS.mono (e := 5) hR8 st h0)⟩, fun _ _ _ _ st h0 hl hj ⟨a5, c5, a6, c6, e, hR5, hR6, hB1⟩ => ⟨a5, c5, a6, c6, e, (RdS.mono (e := 5) hR5 st h0), (RdS.mono (e := 5) hR6 st h0), (hB1.mono st (hj 0 (by simp) _ rfl))⟩, fun _ _ _ _ st h0 hl hj ⟨a7, c7, a8, c8, e, hR7, hR8, hB2⟩ => ⟨a7, c7, a8, c8, e, (RdS.mono (e := 5) hR7 st h0), (RdS.mono (e := 5) hR8 st h0), (hB2.mono st (hj 1 (by simp) _ rfl))⟩, trivial⟩ ⟨hB1, hR1, hR2, hB2, hR3, hR4, trivial, trivial, trivial, trivial, trivial, trivial, trivial⟩ (by kernel_rfl) (fun vs => by kernel_rfl) ?_ ?_ ?_
  · intro j hj; exact absurd hj (by simp)
  · intro j hj
    have hq : j = 0 ∨ j = 1 ∨ j = 2 ∨ j = 3 ∨ j = 4 ∨ j = 5 := by have h : j < 6 := hj; omega
    rcases hq with rfl | rfl | rfl | rfl | rfl | rfl
    · intro vs gq stq hl hf
      replace hl : vs.length = 6 := hl
      obtain ⟨v0, vs0, rfl, hl0⟩ := len_succ hl
      obtain ⟨v1, vs1, rfl, hl1⟩ := len_succ hl0
      obtain ⟨v2, vs2, rfl, hl2⟩ := len_succ hl1
      obtain ⟨v3, vs3, rfl, hl3⟩ := len_succ hl2
      obtain ⟨v4, vs4, rfl, hl4⟩ := len_succ hl3
      obtain ⟨v5, vs5, rfl, hl5⟩ := len_succ hl4
      obtain rfl := len_zero hl5
      have hB1 := (show Box gq (t + 1) b1 26 [encA .u8 d1, [.int .i64 x1], [.int .i64 x2], [.int .i64 x3], [.slice a1 n1 c1], [.slice a2 n2 c2]] [8, 1, 1, 1, 1, 1] from hf _ (List.mem_of_getElem? (i := 0) rfl) (by kernel_rfl))
      have hR1 := (show RdS (Kd.int .u8) gq 5 a1 n1 c1 l1 from hf _ (List.mem_of_getElem? (i := 1) rfl) (by kernel_rfl))
      have hR2 := (show RdS (Kd.int .u8) gq 5 a2 n2 c2 l2 from hf _ (List.mem_of_getElem? (i := 2) rfl) (by kernel_rfl))
      refine WP.loadB (v := AG [encA .u8 d1, [.int .i64 x1], [.int .i64 x2], [.int .i64 x3], [.slice a1 n1 c1], [.slice a2 n2 c2]]) hB1 (by kernel_rfl) (by kernel_rfl) ?_
      refine WP.done (by kernel_rfl) (Shown.ok (v := AG [encA .u8 d1, [.int .i64 x1], [.int .i64 x2], [.int .i64 x3], [.slice a1 n1 c1], [.slice a2 n2 c2]]) (by kernel_rfl) (Step.refl _ _) ?_)
      exact ⟨trivial, trivial, trivial, trivial, trivial, trivial, rfl, trivial, trivial, trivial, trivial, trivial, trivial⟩
    · intro vs gq stq hl hf
      replace hl : vs.length = 6 := hl
      obtain ⟨v0, vs0, rfl, hl0⟩ := len_succ hl
      obtain ⟨v1, vs1, rfl, hl1⟩ := len_succ hl0
      obtain ⟨v2, vs2, rfl, hl2⟩ := len_succ hl1
      obtain ⟨v3, vs3, rfl, hl3⟩ := len_succ hl2
      obtain ⟨v4, vs4, rfl, hl4⟩ := len_succ hl3
      obtain ⟨v5, vs5, rfl, hl5⟩ := len_succ hl4
      obtain rfl := len_zero hl5
      have hR1 := (show RdS (Kd.int .u8) gq 5 a1 n1 c1 l1 from hf _ (List.mem_of_getElem? (i := 1) rfl) (by kernel_rfl))
      have hR2 := (show RdS (Kd.int .u8) gq 5 a2 n2 c2 l2 from hf _ (List.mem_of_getElem? (i := 2) rfl) (by kernel_rfl))
      have e := (show v0 = AG [encA .u8 d1, [.int .i64 x1], [.int .i64 x2], [.int .i64 x3], [.slice a1 n1 c1], [.slice a2 n2 c2]] from hf _ (List.mem_of_getElem? (i := 6) rfl) (by kernel_rfl))
      subst e
      have hcal1 := P.baizelaw25_Cut gq d1 x1 x2 x3 l1 l2 a1 n1 c1 a2 n2 c2 hR1 hR2 d3 x8 x9 x10 l5 l6 hk1
      refine WP.callC hcal1 (by kernel_rfl) ?_
      rintro _ g3 st3 ⟨a5, n5, c5, a6, n6, c6, rfl, hR5, hR6⟩
      obtain rfl := hR5.len
      obtain rfl := hR6.len
      refine WP.done (by kernel_rfl) (Shown.ok (v := AG [encA .u8 d3, [.int .i64 x8], [.int .i64 x9], [.int .i64 x10], [.slice a5 l5.length c5], [.slice a6 l6.length c6]]) (by kernel_rfl) st3.pure ?_)
      exact ⟨trivial, trivial, trivial, trivial, trivial, trivial, trivial, ⟨a5, c5, a6, c6, rfl, hR5, hR6⟩, trivial, trivial, trivial, trivial, trivial⟩
    · intro vs gq stq hl hf
      replace hl : vs.length = 6 := hl
      obtain ⟨v0, vs0, rfl, hl0⟩ := len_succ hl
      obtain ⟨v1, vs1, rfl, hl1⟩ := len_succ hl0
      obtain ⟨v2, vs2, rfl, hl2⟩ := len_succ hl1
      obtain ⟨v3, vs3, rfl, hl3⟩ := len_succ hl2
      obtain ⟨v4, vs4, rfl, hl4⟩ := len_succ hl3
      obtain ⟨v5, vs5, rfl, hl5⟩ := len_succ hl4
      obtain rfl := len_zero hl5
      have hB2 := (show Box gq (t + 2) b2 26 [encA .u8 d2, [.int .i64 x4], [.int .i64 x5], [.int .i64 x6], [.slice a3 n3 c3], [.slice a4 n4 c4]] [8, 1, 1, 1, 1, 1] from hf _ (List.mem_of_getElem? (i := 3) rfl) (by kernel_rfl))
      have hR3 := (show RdS (Kd.int .u8) gq 5 a3 n3 c3 l3 from hf _ (List.mem_of_getElem? (i := 4) rfl) (by kernel_rfl))
      have hR4 := (show RdS (Kd.int .u8) gq 5 a4 n4 c4 l4 from hf _ (List.mem_of_getElem? (i := 5) rfl) (by kernel_rfl))
      refine WP.loadB (v := AG [encA .u8 d2, [.int .i64 x4], [.int .i64 x5], [.int .i64 x6], [.slice a3 n3 c3], [.slice a4 n4 c4]]) hB2 (by kernel_rfl) (by kernel_rfl) ?_
      refine WP.done (by kernel_rfl) (Shown.ok (v := AG [encA .u8 d2, [.int .i64 x4], [.int .i64 x5], [.int .i64 x6], [.slice a3 n3 c3], [.slice a4 n4 c4]]) (by kernel_rfl) (Step.refl _ _) ?_)
      exact ⟨trivial, trivial, trivial, trivial, trivial, trivial, trivial, trivial, rfl, trivial, trivial, trivial, trivial⟩
    · intro vs gq stq hl hf
      replace hl : vs.length = 6 := hl
      obtain ⟨v0, vs0, rfl, hl0⟩ := len_succ hl
      obtain ⟨v1, vs1, rfl, hl1⟩ := len_succ hl0
      obtain ⟨v2, vs2, rfl, hl2⟩ := len_succ hl1
      obtain ⟨v3, vs3, rfl, hl3⟩ := len_succ hl2
      obtain ⟨v4, vs4, rfl, hl4⟩ := len_succ hl3
      obtain ⟨v5, vs5, rfl, hl5⟩ := len_succ hl4
      obtain rfl := len_zero hl5
      have hR3 := (show RdS (Kd.int .u8) gq 5 a3 n3 c3 l3 from hf _ (List.mem_of_getElem? (i := 4) rfl) (by kernel_rfl))
      have hR4 := (show RdS (Kd.int .u8) gq 5 a4 n4 c4 l4 from hf _ (List.mem_of_getElem? (i := 5) rfl) (by kernel_rfl))
      have e := (show v2 = AG [encA .u8 d2, [.int .i64 x4], [.int .i64 x5], [.int .i64 x6], [.slice a3 n3 c3], [.slice a4 n4 c4]] from hf _ (List.mem_of_getElem? (i := 8) rfl) (by kernel_rfl))
      subst e
      have hcal2 := P.baizelaw25_Cut gq d2 x4 x5 x6 l3 l4 a3 n3 c3 a4 n4 c4 hR3 hR4 d4 x11 x12 x13 l7 l8 hk2
      refine WP.callC hcal2 (by kernel_rfl) ?_
      rintro _ g4 st4 ⟨a7, n7, c7, a8, n8, c8, rfl, hR7, hR8⟩
      obtain rfl := hR7.len
      obtain rfl := hR8.len
      refine WP.done (by kernel_rfl) (Shown.ok (v := AG [encA .u8 d4, [.int .i64 x11], [.int .i64 x12], [.int .i64 x13], [.slice a7 l7.length c7], [.slice a8 l8.length c8]]) (by kernel_rfl) st4.pure ?_)
      exact ⟨trivial, trivial, trivial, trivial, trivial, trivial, trivial, trivial, trivial, ⟨a7, c7, a8, c8, rfl, hR7, hR8⟩, trivial, trivial, trivial⟩
    · intro vs gq stq hl hf
      replace hl : vs.length = 6 := hl
      obtain ⟨v0, vs0, rfl, hl0⟩ := len_succ hl
      obtain ⟨v1, vs1, rfl, hl1⟩ := len_succ hl0
      obtain ⟨v2, vs2, rfl, hl2⟩ := len_succ hl1
      obtain ⟨v3, vs3, rfl, hl3⟩ := len_succ hl2
      obtain ⟨v4, vs4, rfl, hl4⟩ := len_succ hl3
      obtain ⟨v5, vs5, rfl, hl5⟩ := len_succ hl4
      obtain rfl := len_zero hl5
      have hB1 := (show Box gq (t + 1) b1 26 [encA .u8 d1, [.int .i64 x1], [.int .i64 x2], [.int .i64 x3], [.slice a1 n1 c1], [.slice a2 n2 c2]] [8, 1, 1, 1, 1, 1] from hf _ (List.mem_of_getElem? (i := 0) rfl) (by kernel_rfl))
      have hR1 := (show RdS (Kd.int .u8) gq 5 a1 n1 c1 l1 from hf _ (List.mem_of_getElem? (i := 1) rfl) (by kernel_rfl))
      have hR2 := (show RdS (Kd.int .u8) gq 5 a2 n2 c2 l2 from hf _ (List.mem_of_getElem? (i := 2) rfl) (by kernel_rfl))
      obtain ⟨a5, c5, a6, c6, e, hR5, hR6⟩ := (show ∃ (a5 : Option Addr) (c5 : Nat) (a6 : Option Addr) (c6 : Nat), v1 = AG [encA .u8 d3, [.int .i64 x8], [.int .i64 x9], [.int .i64 x10], [.slice a5 l5.length c5], [.slice a6 l6.length c6]] ∧ RdS (Kd.int .u8) gq 5 a5 l5.length c5 l5 ∧ RdS (Kd.int .u8) gq 5 a6 l6.length c6 l6 from hf _ (List.mem_of_getElem? (i := 7) rfl) (by kernel_rfl))
      subst e
      refine WP.storeB (ty := 26) (off := 0) (v := AG [encA .u8 d3, [.int .i64 x8], [.int .i64 x9], [.int .i64 x10], [.slice a5 l5.length c5], [.slice a6 l6.length c6]]) hB1 [encA .u8 d3, [.int .i64 x8], [.int .i64 x9], [.int .i64 x10], [.slice a5 l5.length c5], [.slice a6 l6.length c6]] [8, 1, 1, 1, 1, 1] (by kernel_rfl) (by kernel_rfl) (by simp [len_encA]) (by kernel_rfl) [encA .u8 d3, [.int .i64 x8], [.int .i64 x9], [.int .i64 x10], [.slice a5 l5.length c5], [.slice a6 l6.length c6]] (by kernel_rfl) (.arr (.one rfl (.one rfl (.one rfl (.one rfl (.one rfl .nil)))))) ?_
      intro g5 st5 hB3
      refine WP.done (by kernel_rfl) (Shown.ok (v := undef) (by kernel_rfl) st5 ?_)
      exact ⟨trivial, trivial, trivial, trivial, trivial, trivial, trivial, trivial, trivial, trivial, ⟨a5, c5, a6, c6, rfl, (hR5.mono st5 (WL.no (by simp <;> omega))), (hR6.mono st5 (WL.no (by simp <;> omega))), hB3⟩, trivial, trivial⟩
    · intro vs gq stq hl hf
      replace hl : vs.length = 6 := hl
      obtain ⟨v0, vs0, rfl, hl0⟩ := len_succ hl
      obtain ⟨v1, vs1, rfl, hl1⟩ := len_succ hl0
      obtain ⟨v2, vs2, rfl, hl2⟩ := len_succ hl1
      obtain ⟨v3, vs3, rfl, hl3⟩ := len_succ hl2
      obtain ⟨v4, vs4, rfl, hl4⟩ := len_succ hl3
      obtain ⟨v5, vs5, rfl, hl5⟩ := len_succ hl4
      obtain rfl := len_zero hl5
      have hB2 := (show Box gq (t + 2) b2 26 [encA .u8 d2, [.int .i64 x4], [.int .i64 x5], [.int .i64 x6], [.slice a3 n3 c3], [.slice a4 n4 c4]] [8, 1, 1, 1, 1, 1] from hf _ (List.mem_of_getElem? (i := 3) rfl) (by kernel_rfl))
      have hR3 := (show RdS (Kd.int .u8) gq 5 a3 n3 c3 l3 from hf _ (List.mem_of_getElem? (i := 4) rfl) (by kernel_rfl))
      have hR4 := (show RdS (Kd.int .u8) gq 5 a4 n4 c4 l4 from hf _ (List.mem_of_getElem? (i := 5) rfl) (by kernel_rfl))
      obtain ⟨a7, c7, a8, c8, e, hR7, hR8⟩ := (show ∃ (a7 : Option Addr) (c7 : Nat) (a8 : Option Addr) (c8 : Nat), v3 = AG [encA .u8 d4, [.int .i64 x11], [.int .i64 x12], [.int .i64 x13], [.slice a7 l7.length c7], [.slice a8 l8.length c8]] ∧ RdS (Kd.int .u8) gq 5 a7 l7.length c7 l7 ∧ RdS (Kd.int .u8) gq 5 a8 l8.length c8 l8 from hf _ (List.mem_of_getElem? (i := 9) rfl) (by kernel_rfl))
      subst e
      refine WP.storeB (ty := 26) (off := 0) (v := AG [encA .u8 d4, [.int .i64 x11], [.int .i64 x12], [.int .i64 x13], [.slice a7 l7.length c7], [.slice a8 l8.length c8]]) hB2 [encA .u8 d4, [.int .i64 x11], [.int .i64 x12], [.int .i64 x13], [.slice a7 l7.length c7], [.slice a8 l8.length c8]] [8, 1, 1, 1, 1, 1] (by kernel_rfl) (by kernel_rfl) (by simp [len_encA]) (by kernel_rfl) [encA .u8 d4, [.int .i64 x11], [.int .i64 x12], [.int .i64 x13], [.slice a7 l7.length c7], [.slice a8 l8.length c8]] (by kernel_rfl) (.arr (.one rfl (.one rfl (.one rfl (.one rfl (.one rfl .nil)))))) ?_
      intro g6 st6 hB4
      refine WP.done (by kernel_rfl) (Shown.ok (v := undef) (by kernel_rfl) st6 ?_)
      exact ⟨trivial, trivial, trivial, trivial, trivial, trivial, trivial, trivial, trivial, trivial, trivial, ⟨a7, c7, a8, c8, rfl, (hR7.mono st6 (WL.no (by simp <;> omega))), (hR8.mono st6 (WL.no (by simp <;> omega))), hB4⟩, trivial⟩
  intro vs g7 st7 hl hf
  replace hl : vs.length = 6 := hl
  obtain ⟨v0, vs0, rfl, hl0⟩ := len_succ hl
  obtain ⟨v1, vs1, rfl, hl1⟩ := len_succ hl0
  obtain ⟨v2, vs2, rfl, hl2⟩ := len_succ hl1
  obtain ⟨v3, vs3, rfl, hl3⟩ := len_succ hl2
  obtain ⟨v4, vs4, rfl, hl4⟩ := len_succ hl3
  obtain ⟨v5, vs5, rfl, hl5⟩ := len_succ hl4
  obtain rfl := len_zero hl5
  obtain ⟨a5, c5, a6, c6, e, hR5, hR6, hB1⟩ := (show ∃ (a5 : Option Addr) (c5 : Nat) (a6 : Option Addr) (c6 : Nat), v1 = AG [encA .u8 d3, [.int .i64 x8], [.int .i64 x9], [.int .i64 x10], [.slice a5 l5.length c5], [.slice a6 l6.length c6]] ∧ RdS (Kd.int .u8) g7 5 a5 l5.length c5 l5 ∧ RdS (Kd.int .u8) g7 5 a6 l6.length c6 l6 ∧ Box g7 (t + 1) b1 26 [encA .u8 d3, [.int .i64 x8], [.int .i64 x9], [.int .i64 x10], [.slice a5 l5.length c5], [.slice a6 l6.length c6]] [8, 1, 1, 1, 1, 1] from hf _ (List.mem_of_getElem? (i := 10) rfl) (by kernel_rfl))
  subst e
  obtain ⟨a7, c7, a8, c8, e, hR7, hR8, hB2⟩ := (show ∃ (a7 : Option Addr) (c7 : Nat) (a8 : Option Addr) (c8 : Nat), v3 = AG [encA .u8 d4, [.int .i64 x11], [.int .i64 x12], [.int .i64 x13], [.slice a7 l7.length c7], [.slice a8 l8.length c8]] ∧ RdS (Kd.int .u8) g7 5 a7 l7.length c7 l7 ∧ RdS (Kd.int .u8) g7 5 a8 l8.length c8 l8 ∧ Box g7 (t + 2) b2 26 [encA .u8 d4, [.int .i64 x11], [.int .i64 x12], [.int .i64 x13], [.slice a7 l7.length c7], [.slice a8 l8.length c8]] [8, 1, 1, 1, 1, 1] from hf _ (List.mem_of_getElem? (i := 11) rfl) (by kernel_rfl))
  subst e
  replace tot := tot.trans (st7.up2 (.inr (by omega)) (.inr (by omega)))
  refine NX.then_n ?_
  refine CP.refr 114 [(2, .int .i64 x7), (3, .pointer (some ⟨b1, 0, none⟩)), (4, .pointer (some ⟨b2, 0, none⟩))] (by kernel_rfl) (by kernel_rfl) ?_
  clear ds
  intro ds
  refine CP.seq ?_
  replace hs := Option.bind_eq_some_iff.1 hs
  obtain ⟨⟨d5, x14, x15, x16, l9, l10⟩, hk3, hs⟩ := hs
  dsimp only at hs
  replace hs := Option.bind_eq_some_iff.1 hs
  obtain ⟨⟨d6, x17, x18, x19, l11, l12⟩, hk4, hs⟩ := hs
  dsimp only at hs
  replace hs := Option.bind_eq_some_iff.1 hs
  obtain ⟨q1, hk5, hs⟩ := hs
  refine CP.drawL (by kernel_rfl) [0, 1, 2, 3, 4] [[], [0], [], [0, 1, 2], [0, 1, 2, 3], [0, 1, 2, 3, 4]] [⟨none, [], [], fun l g => Box g (t + 1) b1 26 [encA .u8 d3, [.int .i64 x8], [.int .i64 x9], [.int .i64 x10], [.slice a5 l5.length c5], [.slice a6 l6.length c6]] [8, 1, 1, 1, 1, 1]⟩, ⟨none, [], [], fun l g => RdS (Kd.int .u8) g 5 a5 l5.length c5 l5⟩, ⟨none, [], [], fun l g => RdS (Kd.int .u8) g 5 a6 l6.length c6 l6⟩, ⟨none, [], [], fun l g => Box g (t + 2) b2 26 [encA .u8 d4, [.int .i64 x11], [.int .i64 x12], [.int .i64 x13], [.slice a7 l7.length c7], [.slice a8 l8.length c8]] [8, 1, 1, 1, 1, 1]⟩, ⟨none, [], [], fun l g => RdS (Kd.int .u8) g 5 a7 l7.length c7 l7⟩, ⟨none, [], [], fun l g => RdS (Kd.int .u8) g 5 a8 l8.length c8 l8⟩, ⟨some 0, [], [0], fun l g => l.getD 0 undef = AG [encA .u8 d3, [.int .i64 x8], [.int .i64 x9], [.int .i64 x10], [.slice a5 l5.length c5], [.slice a6 l6.length c6]]⟩, ⟨some 1, [], [1], fun l g => ∃ (a9 : Option Addr) (c9 : Nat) (a10 : Option Addr) (c10 : Nat), l.getD 0 undef = AG [encA .u8 d5, [.int .i64 x14], [.int .i64 x15], [.int .i64 x16], [.slice a9 l9.length c9], [.slice a10 l10.length c10]] ∧ RdS (Kd.int .u8) g 5 a9 l9.length c9 l9 ∧ RdS (Kd.int .u8) g 5 a10 l10.length c10 l10⟩, ⟨some 2, [], [2], fun l g => l.getD 0 undef = AG [encA .u8 d4, [.int .i64 x11], [.int .i64 x12], [.int .i64 x13], [.slice a7 l7.length c7], [.slice a8 l8.length c8]]⟩, ⟨some 3, [], [3], fun l g => ∃ (a11 : Option Addr) (c11 : Nat) (a12 : Option Addr) (c12 : Nat), l.getD 0 undef = AG [encA .u8 d6, [.int .i64 x17], [.int .i64 x18], [.int .i64 x19], [.slice a11 l11.length c11], [.slice a12 l12.length c12]] ∧ RdS (Kd.int .u8) g 5 a11 l11.length c11 l11 ∧ RdS (Kd.int .u8) g 5 a12 l12.length c12 l12⟩, ⟨some 4, [], [4], fun l g => l.getD 0 undef = .bool q1⟩] [[], [], [], [], []] [] [] [5] (by kernel_rfl) (by simp) (by simp) ⟨fun _ _ _ _ st h0 hl hj hB1 => (hB1.mono st (fun h => absurd (hl _ h) (by simp))), fun _ _ _ _ st h0 hl hj hR5 => (RdS.mono (e := 5) hR5 st h0), fun _ _ _ _ st h0 hl hj hR6 => (RdS.mono (e := 5) hR6 st h0), fun _ _ _ _ st h0 hl hj hB2 => (hB2.mono st (fun h => absurd (hl _ h) (by simp))), fun _ _ _ _ st h0 hl hj hR7 => (RdS.mono (e := 5) hR7 st h0), fun _ _ _ _ st h0 hl hj hR8 => (RdS.mono (e := 5) hR8 st h0), fun _ _ _ _ st h0 hl hj e => e, fun _ _ _ _ st h0 hl hj ⟨a9, c9, a10, c10, e, hR9, hR10⟩ => ⟨a9, c9, a10, c10, e, (RdS.mono (e := 5) hR9 st h0), (RdS.mono (e := 5) hR10 st h0)⟩, fun _ _ _ _ st h0 hl hj e => e, fun _ _ _ _ st h0 hl hj ⟨a11, c11, a12, c12, e, hR11, hR12⟩ => ⟨a11, c11, a12, c12, e, (RdS.mono (e := 5) hR11 st h0), (RdS.mono (e := 5) hR12 st h0)⟩, fun _ _ _ _ st h0 hl hj e => e, trivial⟩ ⟨hB1, hR5, hR6, hB2, hR7, hR8, trivial, trivial, trivial, trivial, trivial, trivial⟩ (by kernel_rfl) (fun vs => by kernel_rfl) ?_ ?_ ?_
  · intro j hj
    have hq : j = 0 := by have h : j < 1 := hj; omega
    rcases hq with rfl
    · intro vs gq stq hl hf
      replace hl : vs.length = 5 := hl
      obtain ⟨v0, vs0, rfl, hl0⟩ := len_succ hl
      obtain ⟨v1, vs1, rfl, hl1⟩ := len_succ hl0
      obtain ⟨v2, vs2, rfl, hl2⟩ := len_succ hl1
      obtain ⟨v3, vs3, rfl, hl3⟩ := len_succ hl2
      obtain ⟨v4, vs4, rfl, hl4⟩ := len_succ hl3
      obtain rfl := len_zero hl4
      have e := (show v4 = .bool q1 from hf _ (List.mem_of_getElem? (i := 10) rfl) (by kernel_rfl))
      subst e
      show Option.isSome _ = true
      kernel_rfl
  · intro j hj
    have hq : j = 0 ∨ j = 1 ∨ j = 2 ∨ j = 3 ∨ j = 4 := by have h : j < 5 := hj; omega
    rcases hq with rfl | rfl | rfl | rfl | rfl
    · intro vs gq stq hl hf
      replace hl : vs.length = 5 := hl
      obtain ⟨v0, vs0, rfl, hl0⟩ := len_succ hl
      obtain ⟨v1, vs1, rfl, hl1⟩ := len_succ hl0
      obtain ⟨v2, vs2, rfl, hl2⟩ := len_succ hl1
      obtain ⟨v3, vs3, rfl, hl3⟩ := len_succ hl2
      obtain ⟨v4, vs4, rfl, hl4⟩ := len_succ hl3
      obtain rfl := len_zero hl4
      have hB1 := (show Box gq (t + 1) b1 26 [encA .u8 d3, [.int .i64 x8], [.int .i64 x9], [.int .i64 x10], [.slice a5 l5.length c5], [.slice a6 l6.length c6]] [8, 1, 1, 1, 1, 1] from hf _ (List.mem_of_getElem? (i := 0) rfl) (by kernel_rfl))
      have hR5 := (show RdS (Kd.int .u8) gq 5 a5 l5.length c5 l5 from hf _ (List.mem_of_getElem? (i := 1) rfl) (by kernel_rfl))
      have hR6 := (show RdS (Kd.int .u8) gq 5 a6 l6.length c6 l6 from hf _ (List.mem_of_getElem? (i := 2) rfl) (by kernel_rfl))
      refine WP.loadB (v := AG [encA .u8 d3, [.int .i64 x8], [.int .i64 x9], [.int .i64 x10], [.slice a5 l5.length c5], [.slice a6 l6.length c6]]) hB1 (by kernel_rfl) (by kernel_rfl) ?_
      refine WP.done (by kernel_rfl) (Shown.ok (v := AG [encA .u8 d3, [.int .i64 x8], [.int .i64 x9], [.int .i64 x10], [.slice a5 l5.length c5], [.slice a6 l6.length c6]]) (by kernel_rfl) (Step.refl _ _) ?_)
      exact ⟨trivial, trivial, trivial, trivial, trivial, trivial, rfl, trivial, trivial, trivial, trivial, trivial⟩
    · intro vs gq stq hl hf
      replace hl : vs.length = 5 := hl
      obtain ⟨v0, vs0, rfl, hl0⟩ := len_succ hl
      obtain ⟨v1, vs1, rfl, hl1⟩ := len_succ hl0
      obtain ⟨v2, vs2, rfl, hl2⟩ := len_succ hl1
      obtain ⟨v3, vs3, rfl, hl3⟩ := len_succ hl2
      obtain ⟨v4, vs4, rfl, hl4⟩ := len_succ hl3
      obtain rfl := len_zero hl4
      have hR5 := (show RdS (Kd.int .u8) gq 5 a5 l5.length c5 l5 from hf _ (List.mem_of_getElem? (i := 1) rfl) (by kernel_rfl))
      have hR6 := (show RdS (Kd.int .u8) gq 5 a6 l6.length c6 l6 from hf _ (List.mem_of_getElem? (i := 2) rfl) (by kernel_rfl))
      have e := (show v0 = AG [encA .u8 d3, [.int .i64 x8], [.int .i64 x9], [.int .i64 x10], [.slice a5 l5.length c5], [.slice a6 l6.length c6]] from hf _ (List.mem_of_getElem? (i := 6) rfl) (by kernel_rfl))
      subst e
      have hcal3 := P.baizelaw25_Of gq d3 x8 x9 x10 l5 l6 a5 l5.length c5 a6 l6.length c6 hR5 hR6 d5 x14 x15 x16 l9 l10 hk3
      refine WP.callC hcal3 (by kernel_rfl) ?_
      rintro _ g8 st8 ⟨a9, n9, c9, a10, n10, c10, rfl, hR9, hR10⟩
      obtain rfl := hR9.len
      obtain rfl := hR10.len
      refine WP.done (by kernel_rfl) (Shown.ok (v := AG [encA .u8 d5, [.int .i64 x14], [.int .i64 x15], [.int .i64 x16], [.slice a9 l9.length c9], [.slice a10 l10.length c10]]) (by kernel_rfl) st8.pure ?_)
      exact ⟨trivial, trivial, trivial, trivial, trivial, trivial, trivial, ⟨a9, c9, a10, c10, rfl, hR9, hR10⟩, trivial, trivial, trivial, trivial⟩
    · intro vs gq stq hl hf
      replace hl : vs.length = 5 := hl
      obtain ⟨v0, vs0, rfl, hl0⟩ := len_succ hl
      obtain ⟨v1, vs1, rfl, hl1⟩ := len_succ hl0
      obtain ⟨v2, vs2, rfl, hl2⟩ := len_succ hl1
      obtain ⟨v3, vs3, rfl, hl3⟩ := len_succ hl2
      obtain ⟨v4, vs4, rfl, hl4⟩ := len_succ hl3
      obtain rfl := len_zero hl4
      have hB2 := (show Box gq (t + 2) b2 26 [encA .u8 d4, [.int .i64 x11], [.int .i64 x12], [.int .i64 x13], [.slice a7 l7.length c7], [.slice a8 l8.length c8]] [8, 1, 1, 1, 1, 1] from hf _ (List.mem_of_getElem? (i := 3) rfl) (by kernel_rfl))
      have hR7 := (show RdS (Kd.int .u8) gq 5 a7 l7.length c7 l7 from hf _ (List.mem_of_getElem? (i := 4) rfl) (by kernel_rfl))
      have hR8 := (show RdS (Kd.int .u8) gq 5 a8 l8.length c8 l8 from hf _ (List.mem_of_getElem? (i := 5) rfl) (by kernel_rfl))
      refine WP.loadB (v := AG [encA .u8 d4, [.int .i64 x11], [.int .i64 x12], [.int .i64 x13], [.slice a7 l7.length c7], [.slice a8 l8.length c8]]) hB2 (by kernel_rfl) (by kernel_rfl) ?_
      refine WP.done (by kernel_rfl) (Shown.ok (v := AG [encA .u8 d4, [.int .i64 x11], [.int .i64 x12], [.int .i64 x13], [.slice a7 l7.length c7], [.slice a8 l8.length c8]]) (by kernel_rfl) (Step.refl _ _) ?_)
      exact ⟨trivial, trivial, trivial, trivial, trivial, trivial, trivial, trivial, rfl, trivial, trivial, trivial⟩
    · intro vs gq stq hl hf
      replace hl : vs.length = 5 := hl
      obtain ⟨v0, vs0, rfl, hl0⟩ := len_succ hl
      obtain ⟨v1, vs1, rfl, hl1⟩ := len_succ hl0
      obtain ⟨v2, vs2, rfl, hl2⟩ := len_succ hl1
      obtain ⟨v3, vs3, rfl, hl3⟩ := len_succ hl2
      obtain ⟨v4, vs4, rfl, hl4⟩ := len_succ hl3
      obtain rfl := len_zero hl4
      have hR7 := (show RdS (Kd.int .u8) gq 5 a7 l7.length c7 l7 from hf _ (List.mem_of_getElem? (i := 4) rfl) (by kernel_rfl))
      have hR8 := (show RdS (Kd.int .u8) gq 5 a8 l8.length c8 l8 from hf _ (List.mem_of_getElem? (i := 5) rfl) (by kernel_rfl))
      have e := (show v2 = AG [encA .u8 d4, [.int .i64 x11], [.int .i64 x12], [.int .i64 x13], [.slice a7 l7.length c7], [.slice a8 l8.length c8]] from hf _ (List.mem_of_getElem? (i := 8) rfl) (by kernel_rfl))
      subst e
      have hcal4 := P.baizelaw25_Of gq d4 x11 x12 x13 l7 l8 a7 l7.length c7 a8 l8.length c8 hR7 hR8 d6 x17 x18 x19 l11 l12 hk4
      refine WP.callC hcal4 (by kernel_rfl) ?_
      rintro _ g9 st9 ⟨a11, n11, c11, a12, n12, c12, rfl, hR11, hR12⟩
      obtain rfl := hR11.len
      obtain rfl := hR12.len
      refine WP.done (by kernel_rfl) (Shown.ok (v := AG [encA .u8 d6, [.int .i64 x17], [.int .i64 x18], [.int .i64 x19], [.slice a11 l11.length c11], [.slice a12 l12.length c12]]) (by kernel_rfl) st9.pure ?_)
      exact ⟨trivial, trivial, trivial, trivial, trivial, trivial, trivial, trivial, trivial, ⟨a11, c11, a12, c12, rfl, hR11, hR12⟩, trivial, trivial⟩
    · intro vs gq stq hl hf
      replace hl : vs.length = 5 := hl
      obtain ⟨v0, vs0, rfl, hl0⟩ := len_succ hl
      obtain ⟨v1, vs1, rfl, hl1⟩ := len_succ hl0
      obtain ⟨v2, vs2, rfl, hl2⟩ := len_succ hl1
      obtain ⟨v3, vs3, rfl, hl3⟩ := len_succ hl2
      obtain ⟨v4, vs4, rfl, hl4⟩ := len_succ hl3
      obtain rfl := len_zero hl4
      obtain ⟨a9, c9, a10, c10, e, hR9, hR10⟩ := (show ∃ (a9 : Option Addr) (c9 : Nat) (a10 : Option Addr) (c10 : Nat), v1 = AG [encA .u8 d5, [.int .i64 x14], [.int .i64 x15], [.int .i64 x16], [.slice a9 l9.length c9], [.slice a10 l10.length c10]] ∧ RdS (Kd.int .u8) gq 5 a9 l9.length c9 l9 ∧ RdS (Kd.int .u8) gq 5 a10 l10.length c10 l10 from hf _ (List.mem_of_getElem? (i := 7) rfl) (by kernel_rfl))
      subst e
      obtain ⟨a11, c11, a12, c12, e, hR11, hR12⟩ := (show ∃ (a11 : Option Addr) (c11 : Nat) (a12 : Option Addr) (c12 : Nat), v3 = AG [encA .u8 d6, [.int .i64 x17], [.int .i64 x18], [.int .i64 x19], [.slice a11 l11.length c11], [.slice a12 l12.length c12]] ∧ RdS (Kd.int .u8) gq 5 a11 l11.length c11 l11 ∧ RdS (Kd.int .u8) gq 5 a12 l12.length c12 l12 from hf _ (List.mem_of_getElem? (i := 9) rfl) (by kernel_rfl))
      subst e
      have hcal5 := P.baizeref25_Same gq d5 x14 x15 x16 l9 l10 d6 x17 x18 x19 l11 l12 a9 l9.length c9 a10 l10.length c10 a11 l11.length c11 a12 l12.length c12 hR9 hR10 hR11 hR12 q1 hk5
      refine WP.callC hcal5 (by kernel_rfl) ?_
      rintro _ g10 st10 rfl
      refine WP.done (by kernel_rfl) (Shown.ok (v := .bool q1) (by kernel_rfl) st10.pure ?_)
      exact ⟨trivial, trivial, trivial, trivial, trivial, trivial, trivial, trivial, trivial, trivial, rfl, trivial⟩
  intro vs g11 st11 hl hf
  replace hl : vs.length = 5 := hl
  obtain ⟨v0, vs0, rfl, hl0⟩ := len_succ hl
  obtain ⟨v1, vs1, rfl, hl1⟩ := len_succ hl0
  obtain ⟨v2, vs2, rfl, hl2⟩ := len_succ hl1
  obtain ⟨v3, vs3, rfl, hl3⟩ := len_succ hl2
  obtain ⟨v4, vs4, rfl, hl4⟩ := len_succ hl3
  obtain rfl := len_zero hl4
  have e := (show v4 = .bool q1 from hf _ (List.mem_of_getElem? (i := 10) rfl) (by kernel_rfl))
  subst e
  replace hB1 := hB1.mono st11.toNo (fun x => x)
  replace hR5 := hR5.mono st11.toNo (fun x => x)
  replace hR6 := hR6.mono st11.toNo (fun x => x)
  replace hB2 := hB2.mono st11.toNo (fun x => x)
  replace hR7 := hR7.mono st11.toNo (fun x => x)
  replace hR8 := hR8.mono st11.toNo (fun x => x)
  replace tot := tot.trans st11.toNo.pure
  refine NX.then_n ?_
  refine CP.refr 114 [(2, .int .i64 x7), (3, .pointer (some ⟨b1, 0, none⟩)), (4, .pointer (some ⟨b2, 0, none⟩)), (7, .bool q1)] (by kernel_rfl) (by kernel_rfl) ?_
  clear ds
  intro ds
  refine CP.seqR ?_
  refine WP.loadB (v := AG [encA .u8 d3, [.int .i64 x8], [.int .i64 x9], [.int .i64 x10], [.slice a5 l5.length c5], [.slice a6 l6.length c6]]) hB1 (by kernel_rfl) (by kernel_rfl) ?_
  replace hs := Option.bind_eq_some_iff.1 hs
  obtain ⟨⟨l13, x20⟩, hk6, hs⟩ := hs
  dsimp only at hs
  have hcal6 := P.tx_Tx_Encode g11 (t + 3) d3 x8 x9 x10 l5 l6 a5 l5.length c5 a6 l6.length c6 hR5 hR6 l13 x20 hk6
  refine WP.callC hcal6 (by kernel_rfl) ?_
  rintro _ g12 st12 ⟨a13, n13, c13, rfl, hR13⟩
  replace hB1 := hB1.mono st12 (fun x => x)
  replace hR5 := hR5.mono st12 (fun x => x)
  replace hR6 := hR6.mono st12 (fun x => x)
  replace hB2 := hB2.mono st12 (fun x => x)
  replace hR7 := hR7.mono st12 (fun x => x)
  replace hR8 := hR8.mono st12 (fun x => x)
  replace tot := tot.trans st12.pure
  refine WP.still 5 (by kernel_rfl) ?_
  refine WP.done (by kernel_rfl) ?_
  refine NX.then_n ?_
  refine CP.seqR ?_
  refine WP.loadB (v := AG [encA .u8 d4, [.int .i64 x11], [.int .i64 x12], [.int .i64 x13], [.slice a7 l7.length c7], [.slice a8 l8.length c8]]) hB2 (by kernel_rfl) (by kernel_rfl) ?_
  replace hs := Option.bind_eq_some_iff.1 hs
  obtain ⟨⟨l14, x21⟩, hk7, hs⟩ := hs
  dsimp only at hs
  have hcal7 := P.tx_Tx_Encode g12 (t + 4) d4 x11 x12 x13 l7 l8 a7 l7.length c7 a8 l8.length c8 hR7 hR8 l14 x21 hk7
  refine WP.callC hcal7 (by kernel_rfl) ?_
  rintro _ g13 st13 ⟨a14, n14, c14, rfl, hR14⟩
  replace hB1 := hB1.mono st13 (fun x => x)
  replace hR5 := hR5.mono st13 (fun x => x)
  replace hR6 := hR6.mono st13 (fun x => x)
  replace hB2 := hB2.mono st13 (fun x => x)
  replace hR7 := hR7.mono st13 (fun x => x)
  replace hR8 := hR8.mono st13 (fun x => x)
  replace hR13 := hR13.mono st13 (fun x => x) (fun x => x)
  replace tot := tot.trans st13.pure
  refine WP.still 5 (by kernel_rfl) ?_
  refine WP.done (by kernel_rfl) ?_
  refine NX.then_n ?_
  refine CP.refr 114 [(2, .int .i64 x7), (3, .pointer (some ⟨b1, 0, none⟩)), (4, .pointer (some ⟨b2, 0, none⟩)), (7, .bool q1), (8, .slice a13 n13 c13), (9, .int .i64 x20), (10, .slice a14 n14 c14), (11, .int .i64 x21)] (by kernel_rfl) (by kernel_rfl) ?_
  clear ds
  intro ds
  refine CP.seq ?_
  refine CP.cut (fun tm g => ∃ (q6 : Bool), Fr 114 [(2, .int .i64 x7), (3, .pointer (some ⟨b1, 0, none⟩)), (66, .bool q6)] tm ∧ Step (fun l => NoM l ∨ t ≤ l) g0 g ∧ Box g (t + 1) b1 26 [encA .u8 d3, [.int .i64 x8], [.int .i64 x9], [.int .i64 x10], [.slice a5 l5.length c5], [.slice a6 l6.length c6]] [8, 1, 1, 1, 1, 1] ∧ RdS (Kd.int .u8) g 5 a5 l5.length c5 l5 ∧ RdS (Kd.int .u8) g 5 a6 l6.length c6 l6 ∧ (F.baizelaw25_TxSame.c1 x7 d3 x8 x9 x10 l5 l6 q6) = some o1) ?_ ?_
  · refine CP.region ?_
    refine WP.loadB (v := AG [encA .u8 d3, [.int .i64 x8], [.int .i64 x9], [.int .i64 x10], [.slice a5 l5.length c5], [.slice a6 l6.length c6]]) hB1 (by kernel_rfl) (by kernel_rfl) ?_
    refine WP.loadB (v := AG [encA .u8 d4, [.int .i64 x11], [.int .i64 x12], [.int .i64 x13], [.slice a7 l7.length c7], [.slice a8 l8.length c8]]) hB2 (by kernel_rfl) (by kernel_rfl) ?_
    replace hs := Option.bind_eq_some_iff.1 hs
    obtain ⟨q14, hk19, hs⟩ := hs
    have hcal19 := P.tx_Tx_Same g13 d3 x8 x9 x10 l5 l6 d4 x11 x12 x13 l7 l8 a5 l5.length c5 a6 l6.length c6 a7 l7.length c7 a8 l8.length c8 hR5 hR6 hR7 hR8 q14 hk19
    refine WP.callC hcal19 (by kernel_rfl) ?_
    rintro _ g32 st32 rfl
    replace hB1 := hB1.mono st32 (fun x => x)
    replace hR5 := hR5.mono st32 (fun x => x)
    replace hR6 := hR6.mono st32 (fun x => x)
    replace hB2 := hB2.mono st32 (fun x => x)
    replace hR7 := hR7.mono st32 (fun x => x)
    replace hR8 := hR8.mono st32 (fun x => x)
    replace hR13 := hR13.mono st32 (fun x => x) (fun x => x)
    replace hR14 := hR14.mono st32 (fun x => x) (fun x => x)
    replace tot := tot.trans st32.pure
    refine WP.still 3 (by kernel_rfl) ?_
    refine WP.guard 39 (b := (!(q14 == q1))) (by kernel_rfl) (fun h13 => ?_) (fun h13 => ?_)
    · replace hs := of_if_t hs h13
      refine WP.still 27 (by kernel_rfl) ?_
      refine WP.done (by kernel_rfl) ?_
      refine NX.post ?_
      exact ⟨true, ⟨by kernel_rfl, by kernel_rfl⟩, tot, hB1, hR5, hR6, hs⟩
    replace hs := of_if_f hs h13
    refine WP.loadB (v := AG [encA .u8 d4, [.int .i64 x11], [.int .i64 x12], [.int .i64 x13], [.slice a7 l7.length c7], [.slice a8 l8.length c8]]) hB2 (by kernel_rfl) (by kernel_rfl) ?_
    refine WP.loadB (v := AG [encA .u8 d3, [.int .i64 x8], [.int .i64 x9], [.int .i64 x10], [.slice a5 l5.length c5], [.slice a6 l6.length c6]]) hB1 (by kernel_rfl) (by kernel_rfl) ?_
    replace hs := Option.bind_eq_some_iff.1 hs
    obtain ⟨q15, hk20, hs⟩ := hs
    have hcal20 := P.tx_Tx_Same g32 d4 x11 x12 x13 l7 l8 d3 x8 x9 x10 l5 l6 a7 l7.length c7 a8 l8.length c8 a5 l5.length c5 a6 l6.length c6 hR7 hR8 hR5 hR6 q15 hk20
    refine WP.callC hcal20 (by kernel_rfl) ?_
    rintro _ g33 st33 rfl
    replace hB1 := hB1.mono st33 (fun x => x)
    replace hR5 := hR5.mono st33 (fun x => x)
    replace hR6 := hR6.mono st33 (fun x => x)
    replace hB2 := hB2.mono st33 (fun x => x)
    replace hR7 := hR7.mono st33 (fun x => x)
    replace hR8 := hR8.mono st33 (fun x => x)
    replace hR13 := hR13.mono st33 (fun x => x) (fun x => x)
    replace hR14 := hR14.mono st33 (fun x => x) (fun x => x)
    replace tot := tot.trans st33.pure
    refine WP.still 4 (by kernel_rfl) ?_
    refine WP.guard 46 (b := (!(q15 == q1))) (by kernel_rfl) (fun h14 => ?_) (fun h14 => ?_)
    · replace hs := of_if_t hs h14
      refine WP.still 20 (by kernel_rfl) ?_
      refine WP.done (by kernel_rfl) ?_
      refine NX.post ?_
      exact ⟨true, ⟨by kernel_rfl, by kernel_rfl⟩, tot, hB1, hR5, hR6, hs⟩
    replace hs := of_if_f hs h14
    refine WP.loadB (v := AG [encA .u8 d3, [.int .i64 x8], [.int .i64 x9], [.int .i64 x10], [.slice a5 l5.length c5], [.slice a6 l6.length c6]]) hB1 (by kernel_rfl) (by kernel_rfl) ?_
    refine WP.loadB (v := AG [encA .u8 d3, [.int .i64 x8], [.int .i64 x9], [.int .i64 x10], [.slice a5 l5.length c5], [.slice a6 l6.length c6]]) hB1 (by kernel_rfl) (by kernel_rfl) ?_
    replace hs := Option.bind_eq_some_iff.1 hs
    obtain ⟨q16, hk21, hs⟩ := hs
    have hcal21 := P.tx_Tx_Same g33 d3 x8 x9 x10 l5 l6 d3 x8 x9 x10 l5 l6 a5 l5.length c5 a6 l6.length c6 a5 l5.length c5 a6 l6.length c6 hR5 hR6 hR5 hR6 q16 hk21
    refine WP.callC hcal21 (by kernel_rfl) ?_
    rintro _ g34 st34 rfl
    replace hB1 := hB1.mono st34 (fun x => x)
    replace hR5 := hR5.mono st34 (fun x => x)
    replace hR6 := hR6.mono st34 (fun x => x)
    replace hB2 := hB2.mono st34 (fun x => x)
    replace hR7 := hR7.mono st34 (fun x => x)
    replace hR8 := hR8.mono st34 (fun x => x)
    replace hR13 := hR13.mono st34 (fun x => x) (fun x => x)
    replace hR14 := hR14.mono st34 (fun x => x) (fun x => x)
    replace tot := tot.trans st34.pure
    refine WP.still 3 (by kernel_rfl) ?_
    refine WP.guard 52 (b := (!q16)) (by kernel_rfl) (fun h15 => ?_) (fun h15 => ?_)
    · replace hs := of_if_t hs h15
      refine WP.still 14 (by kernel_rfl) ?_
      refine WP.done (by kernel_rfl) ?_
      refine NX.post ?_
      exact ⟨true, ⟨by kernel_rfl, by kernel_rfl⟩, tot, hB1, hR5, hR6, hs⟩
    replace hs := of_if_f hs h15
    refine WP.still 3 (by kernel_rfl) ?_
    refine WP.guard 55 (b := (x20 == 0)) (by kernel_rfl) (fun h16 => ?_) (fun h16 => ?_)
    · replace hs := of_if_t hs h16
      refine WP.still 4 (by kernel_rfl) ?_
      refine WP.guard 59 (b := (x21 == 0)) (by kernel_rfl) (fun h17 => ?_) (fun h17 => ?_)
      · replace hs := of_if_t hs h17
        refine WP.still 2 (by kernel_rfl) ?_
        replace hs := Option.bind_eq_some_iff.1 hs
        obtain ⟨q17, hk22, hs⟩ := hs
        have hS5 : 0 ∉ ([(t + 3), (t + 4)] : List Nat) := by simp <;> omega
        have stl5 := GW.lend_step g34 [(t + 3), (t + 4)]
        have hRl9 := hR13.lendTo hS5 (by simp)
        have hRl10 := hR14.lendTo hS5 (by simp)
        refine WP.regw (g' := GW.lend g34 [(t + 3), (t + 4)]) rfl ?_
        have hcal22 := P.baizeref01_Same (GW.lend g34 [(t + 3), (t + 4)]) l13 l14 a13 n13 c13 a14 n14 c14 hRl9 hRl10 q17 hk22
        refine WP.callC hcal22 (by kernel_rfl) ?_
        rintro _ g35 st35 rfl
        have st36 := (GW.back_step st35).lentS
        have hO10 := hR13.backTo hS5 (by simp) st35 (fun x => x)
        have hO11 := hR14.backTo hS5 (by simp) st35 (fun x => x)
        refine WP.regw (g' := GW.back g34 g35 [(t + 3), (t + 4)]) rfl ?_
        generalize GW.back g34 g35 [(t + 3), (t + 4)] = g36 at *
        replace hB1 := hB1.mono st36 (WL.no2 (by omega) (by omega))
        replace hR5 := hR5.mono st36 (WL.no2 (by omega) (by omega))
        replace hR6 := hR6.mono st36 (WL.no2 (by omega) (by omega))
        replace hB2 := hB2.mono st36 (WL.no2 (by omega) (by omega))
        replace hR7 := hR7.mono st36 (WL.no2 (by omega) (by omega))
        replace hR8 := hR8.mono st36 (WL.no2 (by omega) (by omega))
        replace tot := tot.trans (st36.up2 (.inr (by omega)) (.inr (by omega)))
        clear hR13
        have hR13 : OwnS (Kd.int .u8) g36 (t + 3) 5 a13 n13 c13 l13 := hO10
        clear hO10
        clear hR14
        have hR14 : OwnS (Kd.int .u8) g36 (t + 4) 5 a14 n14 c14 l14 := hO11
        clear hO11
        refine WP.still 4 (by kernel_rfl) ?_
        refine WP.done (by kernel_rfl) ?_
        refine NX.post ?_
        exact ⟨(!(q17 == q1)), ⟨by kernel_rfl, by kernel_rfl⟩, tot, hB1, hR5, hR6, hs⟩
      replace hs := of_if_f hs h17
      refine WP.still 7 (by kernel_rfl) ?_
      refine WP.done (by kernel_rfl) ?_
      refine NX.post ?_
      exact ⟨false, ⟨by kernel_rfl, by kernel_rfl⟩, tot, hB1, hR5, hR6, hs⟩
    replace hs := of_if_f hs h16
    refine WP.still 11 (by kernel_rfl) ?_
    refine WP.done (by kernel_rfl) ?_
    refine NX.post ?_
    exact ⟨false, ⟨by kernel_rfl, by kernel_rfl⟩, tot, hB1, hR5, hR6, hs⟩
  clear tot hs hB1 hR5 hR6 hB2 hR7 hR8 hR13 hR14
  rintro tm g ⟨q6, hF, tot, hB1, hR5, hR6, hs⟩
  clear ds
  obtain ⟨ds, rfl⟩ := hF.open
  clear hF
  unfold F.baizelaw25_TxSame.c1 at hs
  refine CP.cond (b := q6) (by kernel_rfl) (fun h6 => ?_) (fun h6 => ?_)
  · replace hs := of_if_t hs h6
    refine CP.seqR ?_
    refine WP.still 1 (by kernel_rfl) ?_
    refine WP.done (by kernel_rfl) ?_
    refine NX.then_n ?_
    refine CP.ret ?_
    refine NX.then_r ?_
    replace hs := Option.some.inj hs
    obtain rfl := hs
    exact NX.fin (v := .bool false) (Res.still (by kernel_rfl)) tot htL rfl
  replace hs := of_if_f hs h6
  refine CP.skip ?_
  refine NX.then_n ?_
  refine CP.seqR ?_
  refine WP.loadB (v := AG [encA .u8 d3, [.int .i64 x8], [.int .i64 x9], [.int .i64 x10], [.slice a5 l5.length c5], [.slice a6 l6.length c6]]) hB1 (by kernel_rfl) (by kernel_rfl) ?_
  replace hs := Option.bind_eq_some_iff.1 hs
  obtain ⟨⟨d7, x22, x23, x24, l15, l16⟩, hk12, hs⟩ := hs
  dsimp only at hs
  have hcal12 := P.tx_Tx_Clone g (t + 5) (t + 6) d3 x8 x9 x10 l5 l6 a5 l5.length c5 a6 l6.length c6 hR5 hR6 d7 x22 x23 x24 l15 l16 hk12
  refine WP.callC hcal12 (by kernel_rfl) ?_
  rintro _ g19 st19 ⟨a15, n15, c15, a16, n16, c16, rfl, hR15, hR16⟩
  replace hB1 := hB1.mono st19 (fun x => x)
  replace hR5 := hR5.mono st19 (fun x => x)
  replace hR6 := hR6.mono st19 (fun x => x)
  replace tot := tot.trans st19.pure
  refine WP.alloc (T := 26) (t + 7) [encA .u8 (zA 8), [.int .i64 0], [.int .i64 0], [.int .i64 0], [.slice none 0 0], [.slice none 0 0]] [8, 1, 1, 1, 1, 1] (by kernel_rfl) (by simp [len_encA]) ?_
  intro g20 b3 st20 hB5
  replace hB1 := hB1.mono st20 (fun x => x)
  replace hR5 := hR5.mono st20 (fun x => x)
  replace hR6 := hR6.mono st20 (fun x => x)
  replace hR15 := hR15.mono st20 (fun x => x) (fun x => x)
  replace hR16 := hR16.mono st20 (fun x => x) (fun x => x)
  replace tot := tot.trans st20.pure
  refine WP.storeB (ty := 26) (off := 0) (v := AG [encA .u8 d7, [.int .i64 x22], [.int .i64 x23], [.int .i64 x24], [.slice a15 n15 c15], [.slice a16 n16 c16]]) hB5 [encA .u8 d7, [.int .i64 x22], [.int .i64 x23], [.int .i64 x24], [.slice a15 n15 c15], [.slice a16 n16 c16]] [8, 1, 1, 1, 1, 1] (by kernel_rfl) (by kernel_rfl) (by simp [len_encA]) (by kernel_rfl) [encA .u8 d7, [.int .i64 x22], [.int .i64 x23], [.int .i64 x24], [.slice a15 n15 c15], [.slice a16 n16 c16]] (by kernel_rfl) (.arr (.one rfl (.one rfl (.one rfl (.one rfl (.one rfl .nil)))))) ?_
  intro g21 st21 hB6
  replace hB1 := hB1.mono st21 (WL.no1 (by omega))
  replace hR5 := hR5.mono st21 (WL.no1 (by omega))
  replace hR6 := hR6.mono st21 (WL.no1 (by omega))
  replace hR15 := hR15.mono st21 (WL.no1 (by omega)) (WL.no1 (by omega))
  replace hR16 := hR16.mono st21 (WL.no1 (by omega)) (WL.no1 (by omega))
  replace tot := tot.trans (st21.up1 (.inr (by omega)))
  clear hB5
  have hB5 := hB6
  clear hB6
  refine WP.done (by kernel_rfl) ?_
  refine NX.then_n ?_
  refine CP.seq ?_
  refine CP.seqR ?_
  refine WP.loadB (v := AG [encA .u8 d7, [.int .i64 x22], [.int .i64 x23], [.int .i64 x24], [.slice a15 n15 c15], [.slice a16 n16 c16]]) hB5 (by kernel_rfl) (by kernel_rfl) ?_
  refine WP.loadB (v := AG [encA .u8 d3, [.int .i64 x8], [.int .i64 x9], [.int .i64 x10], [.slice a5 l5.length c5], [.slice a6 l6.length c6]]) hB1 (by kernel_rfl) (by kernel_rfl) ?_
  replace hs := Option.bind_eq_some_iff.1 hs
  obtain ⟨q7, hk13, hs⟩ := hs
  have hS2 : 0 ∉ ([(t + 5), (t + 6)] : List Nat) := by simp <;> omega
  have stl2 := GW.lend_step g21 [(t + 5), (t + 6)]
  have hRl3 := hR15.lendTo hS2 (by simp)
  have hRl4 := hR16.lendTo hS2 (by simp)
  refine WP.regw (g' := GW.lend g21 [(t + 5), (t + 6)]) rfl ?_
  have hcal13 := P.tx_Tx_Same (GW.lend g21 [(t + 5), (t + 6)]) d7 x22 x23 x24 l15 l16 d3 x8 x9 x10 l5 l6 a15 n15 c15 a16 n16 c16 a5 l5.length c5 a6 l6.length c6 hRl3 hRl4 (hR5.mono stl2 (WL.no (by simp <;> omega))) (hR6.mono stl2 (WL.no (by simp <;> omega))) q7 hk13
  refine WP.callC hcal13 (by kernel_rfl) ?_
  rintro _ g22 st22 rfl
  have st23 := (GW.back_step st22).lentS
  have hO3 := hR15.backTo hS2 (by simp) st22 (fun x => x)
  have hO4 := hR16.backTo hS2 (by simp) st22 (fun x => x)
  refine WP.regw (g' := GW.back g21 g22 [(t + 5), (t + 6)]) rfl ?_
  generalize GW.back g21 g22 [(t + 5), (t + 6)] = g23 at *
  replace hB1 := hB1.mono st23 (WL.no2 (by omega) (by omega))
  replace hR5 := hR5.mono st23 (WL.no2 (by omega) (by omega))
  replace hR6 := hR6.mono st23 (WL.no2 (by omega) (by omega))
  replace hB5 := hB5.mono st23 (WL.no2 (by omega) (by omega))
  replace tot := tot.trans (st23.up2 (.inr (by omega)) (.inr (by omega)))
  clear hR15
  have hR15 : OwnS (Kd.int .u8) g23 (t + 5) 5 a15 n15 c15 l15 := hO3
  clear hO3
  clear hR16
  have hR16 : OwnS (Kd.int .u8) g23 (t + 6) 5 a16 n16 c16 l16 := hO4
  clear hO4
  refine WP.still 1 (by kernel_rfl) ?_
  refine WP.done (by kernel_rfl) ?_
  refine NX.then_n ?_
  refine CP.cond (b := (!q7)) (by kernel_rfl) (fun h7 => ?_) (fun h7 => ?_)
  · replace hs := of_if_t hs h7
    refine CP.seqR ?_
    refine WP.still 1 (by kernel_rfl) ?_
    refine WP.done (by kernel_rfl) ?_
    refine NX.then_n ?_
    refine CP.ret ?_
    refine NX.then_r ?_
    replace hs := Option.some.inj hs
    obtain rfl := hs
    exact NX.fin (v := .bool false) (Res.still (by kernel_rfl)) tot htL rfl
  replace hs := of_if_f hs h7
  refine CP.skip ?_
  refine NX.then_n ?_
  refine CP.seq ?_
  refine CP.seqR ?_
  refine WP.still 1 (by kernel_rfl) ?_
  refine WP.loadB (v := .slice a15 n15 c15) hB5 (by kernel_rfl) (by kernel_rfl) ?_
  refine WP.len (a := a15) (cp := c15) hR15.len (by kernel_rfl) ?_
  refine WP.still 1 (by kernel_rfl) ?_
  refine WP.done (by kernel_rfl) ?_
  refine NX.then_n ?_
  refine CP.cond (b := decide ((l15.length : Int) > 0)) (by kernel_rfl) (fun h8 => ?_) (fun h8 => ?_)
  · replace hs := of_if_t hs h8
    refine CP.seqR ?_
    refine WP.still 3 (by kernel_rfl) ?_
    refine WP.loadB (v := .slice a15 n15 c15) hB5 (by kernel_rfl) (by kernel_rfl) ?_
    refine WP.len (a := a15) (cp := c15) hR15.len (by kernel_rfl) ?_
    refine WP.still 1 (by kernel_rfl) ?_
    by_cases hc1 : (IntKind.u64.wrap (l15.length : Int)) ≠ 0
    case neg => rw [if_neg hc1] at hs; cases hs
    replace hs := of_if_p hs hc1
    refine WP.rem (k := .u64) (x := (IntKind.u64.wrap x7)) (y := (IntKind.u64.wrap (l15.length : Int))) (by kernel_rfl) hc1 ?_
    refine WP.still 2 (by kernel_rfl) ?_
    refine WP.done (by kernel_rfl) ?_
    refine NX.then_n ?_
    refine CP.refr 114 [(3, .pointer (some ⟨b1, 0, none⟩)), (12, .pointer (some ⟨b3, 0, none⟩)), (13, .int .i64 (IntKind.i64.wrap ((IntKind.u64.wrap x7).tmod (IntKind.u64.wrap (l15.length : Int)))))] (by kernel_rfl) (by kernel_rfl) ?_
    clear ds
    intro ds
    refine CP.seqR ?_
    refine WP.still 1 (by kernel_rfl) ?_
    refine WP.loadB (v := .slice a5 l5.length c5) hB1 (by kernel_rfl) (by kernel_rfl) ?_
    refine WP.still 1 (by kernel_rfl) ?_
    by_cases hc2 : (0 : Int) ≤ (IntKind.i64.wrap ((IntKind.u64.wrap x7).tmod (IntKind.u64.wrap (l15.length : Int)))) ∧ (IntKind.i64.wrap ((IntKind.u64.wrap x7).tmod (IntKind.u64.wrap (l15.length : Int)))) < (l5.length : Int)
    case neg => rw [if_neg hc2] at hs; cases hs
    replace hs := of_if_p hs hc2
    obtain ⟨b4, u1, ha1⟩ := hR5.at hc2
    refine WP.indexA (t := 24) (e := 5) (sz := 1) (cap := c5) (k := .i64) (i := (IntKind.i64.wrap ((IntKind.u64.wrap x7).tmod (IntKind.u64.wrap (l15.length : Int))))) hR5.len ha1 (by kernel_rfl) (by kernel_rfl) hc2 ?_
    obtain ⟨cs1, hcR1, hcV1⟩ := hR5.src.view (getI_some hc2) ha1
    replace hcR1 := Kd.o_int hcR1
    refine WP.loadV [[.int .u8 (getI l5 (IntKind.i64.wrap ((IntKind.u64.wrap x7).tmod (IntKind.u64.wrap (l15.length : Int)))))]] [1] hcV1 hcR1 rfl (f := 0) (ty := 5) (agg := false) (size := 1) (rs := [[.int .u8 (getI l5 (IntKind.i64.wrap ((IntKind.u64.wrap x7).tmod (IntKind.u64.wrap (l15.length : Int)))))]]) (v := .int .u8 (getI l5 (IntKind.i64.wrap ((IntKind.u64.wrap x7).tmod (IntKind.u64.wrap (l15.length : Int)))))) (by kernel_rfl) (by kernel_rfl) (by kernel_rfl) (by kernel_rfl) ?_
    refine WP.still 1 (by kernel_rfl) ?_
    refine WP.done (by kernel_rfl) ?_
    refine NX.then_n ?_
    refine CP.seqR ?_
    refine WP.still 1 (by kernel_rfl) ?_
    refine WP.loadB (v := .slice a15 n15 c15) hB5 (by kernel_rfl) (by kernel_rfl) ?_
    refine WP.still 1 (by kernel_rfl) ?_
    by_cases hc3 : (0 : Int) ≤ (IntKind.i64.wrap ((IntKind.u64.wrap x7).tmod (IntKind.u64.wrap (l15.length : Int)))) ∧ (IntKind.i64.wrap ((IntKind.u64.wrap x7).tmod (IntKind.u64.wrap (l15.length : Int)))) < (l15.length : Int)
    case neg => rw [if_neg hc3] at hs; cases hs
    replace hs := of_if_p hs hc3
    obtain ⟨b5, u2, ha2⟩ := hR15.at hc3
    refine WP.indexA (t := 24) (e := 5) (sz := 1) (cap := c15) (k := .i64) (i := (IntKind.i64.wrap ((IntKind.u64.wrap x7).tmod (IntKind.u64.wrap (l15.length : Int))))) hR15.len ha2 (by kernel_rfl) (by kernel_rfl) hc3 ?_
    obtain ⟨cs2, hcR2, hcV2⟩ := hR15.src.view (getI_some hc3) ha2
    replace hcR2 := Kd.o_int hcR2
    refine WP.loadV [[.int .u8 (getI l15 (IntKind.i64.wrap ((IntKind.u64.wrap x7).tmod (IntKind.u64.wrap (l15.length : Int)))))]] [1] hcV2 hcR2 rfl (f := 0) (ty := 5) (agg := false) (size := 1) (rs := [[.int .u8 (getI l15 (IntKind.i64.wrap ((IntKind.u64.wrap x7).tmod (IntKind.u64.wrap (l15.length : Int)))))]]) (v := .int .u8 (getI l15 (IntKind.i64.wrap ((IntKind.u64.wrap x7).tmod (IntKind.u64.wrap (l15.length : Int)))))) (by kernel_rfl) (by kernel_rfl) (by kernel_rfl) (by kernel_rfl) ?_
    refine WP.still 1 (by kernel_rfl) ?_
    by_cases hc4 : (0 : Int) ≤ (IntKind.i64.wrap ((IntKind.u64.wrap x7).tmod (IntKind.u64.wrap (l15.length : Int)))) ∧ (IntKind.i64.wrap ((IntKind.u64.wrap x7).tmod (IntKind.u64.wrap (l15.length : Int)))) < (l15.length : Int)
    case neg => rw [if_neg hc4] at hs; cases hs
    replace hs := of_if_p hs hc4
    obtain ⟨b6, u3, ha3⟩ := hR15.at hc4
    refine WP.indexA (t := 24) (e := 5) (sz := 1) (cap := c15) (k := .i64) (i := (IntKind.i64.wrap ((IntKind.u64.wrap x7).tmod (IntKind.u64.wrap (l15.length : Int))))) hR15.len ha3 (by kernel_rfl) (by kernel_rfl) hc4 ?_
    refine WP.storeO (ty := 5) (v := .int .u8 (IntKind.u8.wrap ((getI l15 (IntKind.i64.wrap ((IntKind.u64.wrap x7).tmod (IntKind.u64.wrap (l15.length : Int))))) + 1))) hR15 (by omega) (i := (IntKind.i64.wrap ((IntKind.u64.wrap x7).tmod (IntKind.u64.wrap (l15.length : Int)))).toNat) (by first | omega | (simp only [setI_length] at *; omega)) ha3 (by kernel_rfl) (x := (IntKind.u8.wrap ((getI l15 (IntKind.i64.wrap ((IntKind.u64.wrap x7).tmod (IntKind.u64.wrap (l15.length : Int))))) + 1))) (by exact rfl) (by kernel_rfl) ?_
    intro g24 st24 hO5
    replace hB1 := hB1.mono st24 (WL.no1 (by omega))
    replace hR5 := hR5.mono st24 (WL.no1 (by omega))
    replace hR6 := hR6.mono st24 (WL.no1 (by omega))
    replace hB5 := hB5.mono st24 (WL.no1 (by omega))
    replace hR16 := hR16.mono st24 (WL.no1 (by omega)) (WL.no1 (by omega))
    replace tot := tot.trans (st24.up1 (.inr (by omega)))
    clear hR15
    have hR15 : OwnS (Kd.int .u8) g24 (t + 5) 5 a15 n15 c15 (setI l15 (IntKind.i64.wrap ((IntKind.u64.wrap x7).tmod (IntKind.u64.wrap (l15.length : Int)))) (IntKind.u8.wrap ((getI l15 (IntKind.i64.wrap ((IntKind.u64.wrap x7).tmod (IntKind.u64.wrap (l15.length : Int))))) + 1))) := hO5
    clear hO5
    refine WP.done (by kernel_rfl) ?_
    refine NX.then_n ?_
    refine CP.refr 114 [(3, .pointer (some ⟨b1, 0, none⟩)), (12, .pointer (some ⟨b3, 0, none⟩)), (13, .int .i64 (IntKind.i64.wrap ((IntKind.u64.wrap x7).tmod (IntKind.u64.wrap (l15.length : Int))))), (14, .int .u8 (getI l5 (IntKind.i64.wrap ((IntKind.u64.wrap x7).tmod (IntKind.u64.wrap (l15.length : Int))))))] (by kernel_rfl) (by kernel_rfl) ?_
    clear ds
    intro ds
    refine CP.cut (fun tm g => ∃ (q10 : Bool), Fr 114 [(6, .bool q10)] tm ∧ Step (fun l => NoM l ∨ t ≤ l) g0 g ∧ (F.baizelaw25_TxSame.c2 q10) = some o1) ?_ ?_
    · refine CP.region ?_
      replace hs := Option.bind_eq_some_iff.1 hs
      obtain ⟨q11, hk16, hs⟩ := hs
      have hcal16 := P.baizelaw25_known g24 q11 hk16
      refine WP.callC hcal16 (by kernel_rfl) ?_
      rintro _ g28 st28 rfl
      replace hB1 := hB1.mono st28 (fun x => x)
      replace hR5 := hR5.mono st28 (fun x => x)
      replace hR6 := hR6.mono st28 (fun x => x)
      replace hB5 := hB5.mono st28 (fun x => x)
      replace hR15 := hR15.mono st28 (fun x => x) (fun x => x)
      replace hR16 := hR16.mono st28 (fun x => x) (fun x => x)
      replace tot := tot.trans st28.pure
      refine WP.still 1 (by kernel_rfl) ?_
      refine WP.guard 98 (b := q11) (by kernel_rfl) (fun h11 => ?_) (fun h11 => ?_)
      · replace hs := of_if_t hs h11
        refine WP.still 1 (by kernel_rfl) ?_
        refine WP.loadB (v := .slice a5 l5.length c5) hB1 (by kernel_rfl) (by kernel_rfl) ?_
        refine WP.still 1 (by kernel_rfl) ?_
        by_cases hc6 : (0 : Int) ≤ (IntKind.i64.wrap ((IntKind.u64.wrap x7).tmod (IntKind.u64.wrap (l15.length : Int)))) ∧ (IntKind.i64.wrap ((IntKind.u64.wrap x7).tmod (IntKind.u64.wrap (l15.length : Int)))) < (l5.length : Int)
        case neg => rw [if_neg hc6] at hs; cases hs
        replace hs := of_if_p hs hc6
        obtain ⟨b8, u5, ha5⟩ := hR5.at hc6
        refine WP.indexA (t := 24) (e := 5) (sz := 1) (cap := c5) (k := .i64) (i := (IntKind.i64.wrap ((IntKind.u64.wrap x7).tmod (IntKind.u64.wrap (l15.length : Int))))) hR5.len ha5 (by kernel_rfl) (by kernel_rfl) hc6 ?_
        obtain ⟨cs4, hcR4, hcV4⟩ := hR5.src.view (getI_some hc6) ha5
        replace hcR4 := Kd.o_int hcR4
        refine WP.loadV [[.int .u8 (getI l5 (IntKind.i64.wrap ((IntKind.u64.wrap x7).tmod (IntKind.u64.wrap (l15.length : Int)))))]] [1] hcV4 hcR4 rfl (f := 0) (ty := 5) (agg := false) (size := 1) (rs := [[.int .u8 (getI l5 (IntKind.i64.wrap ((IntKind.u64.wrap x7).tmod (IntKind.u64.wrap (l15.length : Int)))))]]) (v := .int .u8 (getI l5 (IntKind.i64.wrap ((IntKind.u64.wrap x7).tmod (IntKind.u64.wrap (l15.length : Int)))))) (by kernel_rfl) (by kernel_rfl) (by kernel_rfl) (by kernel_rfl) ?_
        refine WP.still 4 (by kernel_rfl) ?_
        refine WP.guard 107 (b := ((getI l5 (IntKind.i64.wrap ((IntKind.u64.wrap x7).tmod (IntKind.u64.wrap (l15.length : Int))))) == (getI l5 (IntKind.i64.wrap ((IntKind.u64.wrap x7).tmod (IntKind.u64.wrap (l15.length : Int))))))) (by kernel_rfl) (fun h12 => ?_) (fun h12 => ?_)
        · replace hs := of_if_t hs h12
          refine WP.loadB (v := AG [encA .u8 d7, [.int .i64 x22], [.int .i64 x23], [.int .i64 x24], [.slice a15 n15 c15], [.slice a16 n16 c16]]) hB5 (by kernel_rfl) (by kernel_rfl) ?_
          refine WP.loadB (v := AG [encA .u8 d3, [.int .i64 x8], [.int .i64 x9], [.int .i64 x10], [.slice a5 l5.length c5], [.slice a6 l6.length c6]]) hB1 (by kernel_rfl) (by kernel_rfl) ?_
          replace hs := Option.bind_eq_some_iff.1 hs
          obtain ⟨q12, hk17, hs⟩ := hs
          have hS4 : 0 ∉ ([(t + 5), (t + 6)] : List Nat) := by simp <;> omega
          have stl4 := GW.lend_step g28 [(t + 5), (t + 6)]
          have hRl7 := hR15.lendTo hS4 (by simp)
          have hRl8 := hR16.lendTo hS4 (by simp)
          refine WP.regw (g' := GW.lend g28 [(t + 5), (t + 6)]) rfl ?_
          have hcal17 := P.tx_Tx_Same (GW.lend g28 [(t + 5), (t + 6)]) d7 x22 x23 x24 (setI l15 (IntKind.i64.wrap ((IntKind.u64.wrap x7).tmod (IntKind.u64.wrap (l15.length : Int)))) (IntKind.u8.wrap ((getI l15 (IntKind.i64.wrap ((IntKind.u64.wrap x7).tmod (IntKind.u64.wrap (l15.length : Int))))) + 1))) l16 d3 x8 x9 x10 l5 l6 a15 n15 c15 a16 n16 c16 a5 l5.length c5 a6 l6.length c6 hRl7 hRl8 (hR5.mono stl4 (WL.no (by simp <;> omega))) (hR6.mono stl4 (WL.no (by simp <;> omega))) q12 hk17
          refine WP.callC hcal17 (by kernel_rfl) ?_
          rintro _ g29 st29 rfl
          have st30 := (GW.back_step st29).lentS
          have hO8 := hR15.backTo hS4 (by simp) st29 (fun x => x)
          have hO9 := hR16.backTo hS4 (by simp) st29 (fun x => x)
          refine WP.regw (g' := GW.back g28 g29 [(t + 5), (t + 6)]) rfl ?_
          generalize GW.back g28 g29 [(t + 5), (t + 6)] = g30 at *
          replace hB1 := hB1.mono st30 (WL.no2 (by omega) (by omega))
          replace hR5 := hR5.mono st30 (WL.no2 (by omega) (by omega))
          replace hR6 := hR6.mono st30 (WL.no2 (by omega) (by omega))
          replace hB5 := hB5.mono st30 (WL.no2 (by omega) (by omega))
          replace tot := tot.trans (st30.up2 (.inr (by omega)) (.inr (by omega)))
          clear hR15
          have hR15 : OwnS (Kd.int .u8) g30 (t + 5) 5 a15 n15 c15 (setI l15 (IntKind.i64.wrap ((IntKind.u64.wrap x7).tmod (IntKind.u64.wrap (l15.length : Int)))) (IntKind.u8.wrap ((getI l15 (IntKind.i64.wrap ((IntKind.u64.wrap x7).tmod (IntKind.u64.wrap (l15.length : Int))))) + 1))) := hO8
          clear hO8
          clear hR16
          have hR16 : OwnS (Kd.int .u8) g30 (t + 6) 5 a16 n16 c16 l16 := hO9
          clear hO9
          refine WP.still 3 (by kernel_rfl) ?_
          refine WP.done (by kernel_rfl) ?_
          refine NX.post ?_
          exact ⟨(!q12), ⟨by kernel_rfl, by kernel_rfl⟩, tot, hs⟩
        replace hs := of_if_f hs h12
        refine WP.still 6 (by kernel_rfl) ?_
        refine WP.done (by kernel_rfl) ?_
        refine NX.post ?_
        exact ⟨false, ⟨by kernel_rfl, by kernel_rfl⟩, tot, hs⟩
      replace hs := of_if_f hs h11
      refine WP.still 15 (by kernel_rfl) ?_
      refine WP.done (by kernel_rfl) ?_
      refine NX.post ?_
      exact ⟨false, ⟨by kernel_rfl, by kernel_rfl⟩, tot, hs⟩
    clear tot hs hB1 hR5 hR6 hB5 hR15 hR16
    rintro tm g ⟨q10, hF, tot, hs⟩
    clear ds
    obtain ⟨ds, rfl⟩ := hF.open
    clear hF
    unfold F.baizelaw25_TxSame.c2 at hs
    refine CP.ret ?_
    refine NX.then_r ?_
    replace hs := Option.some.inj hs
    obtain rfl := hs
    exact NX.fin (v := .bool q10) (Res.still (by kernel_rfl)) tot htL rfl
  replace hs := of_if_f hs h8
  refine CP.skip ?_
  refine NX.then_n ?_
  refine CP.seqR ?_
  replace hs := Option.bind_eq_some_iff.1 hs
  obtain ⟨q13, hk18, hs⟩ := hs
  have hcal18 := P.baizelaw25_known g23 q13 hk18
  refine WP.callC hcal18 (by kernel_rfl) ?_
  rintro _ g31 st31 rfl
  replace tot := tot.trans st31.pure
  refine WP.still 1 (by kernel_rfl) ?_
  refine WP.done (by kernel_rfl) ?_
  refine NX.then_n ?_
  refine CP.refr 114 [(6, .bool q13)] (by kernel_rfl) (by kernel_rfl) ?_
  clear ds
  intro ds
  refine CP.ret ?_
  replace hs := Option.some.inj hs
  obtain rfl := hs
  exact NX.fin (v := .bool q13) (Res.still (by kernel_rfl)) tot htL rfl
def F.octet_Reader_Bytes_1 (l1 : List Int) (x1 : Int) (l2 : List Int) : Option (Int × Int × (List Int)) := ((F.octet_number l1).bind fun (x2, x3, x4) => (if (x4 != 0) = true then (some (0, x4, l2)) else (if decide (x2 > (IntKind.u64.wrap (imax x1 0))) = true then (some (0, 2, l2)) else (if decide (x2 > (IntKind.u64.wrap (IntKind.i64.wrap ((l1.length : Int) - x3)))) = true then (some (0, 4, l2)) else (if (0 : Int) ≤ x3 ∧ x3 ≤ (IntKind.i64.wrap (x3 + (IntKind.i64.wrap x2))) ∧ (IntKind.i64.wrap (x3 + (IntKind.i64.wrap x2))) ≤ (l1.length : Int) then ((F.slices_Clone_byte_byte (sliceI l1 x3 (IntKind.i64.wrap (x3 + (IntKind.i64.wrap x2))))).bind fun l3 => (some ((IntKind.i64.wrap (x3 + (IntKind.i64.wrap x2))), 0, l3))) else none)))))
theorem P.octet_Reader_Bytes_1 (g0 : GW) (m0 : Nat) (m1 : Nat) (l1 : List Int) (x1 : Int) (l2 : List Int) (a1 : Option Addr) (n1 : Nat) (c1 : Nat) (a2 : Option Addr) (n2 : Nat) (c2 : Nat) (b1 : Nat) (b2 : Nat) (hR1 : RdS (Kd.int .u8) g0 5 a1 n1 c1 l1) (hR2 : RdS (Kd.int .u8) g0 5 a2 n2 c2 l2) (hB1 : Box g0 m0 b1 3 [[.int .i64 x1]] [1]) (hB2 : Box g0 m1 b2 24 [[.slice a2 n2 c2]] [1]) (hm1_0 : m1 ≠ m0) (hm0 : m0 ≠ 0) (hm1 : m1 ≠ 0) (o1 : Int) (o2 : Int) (o3 : (List Int)) (hs : F.octet_Reader_Bytes_1 l1 x1 l2 = some (o1, o2, o3)) :
    Calls Try.prog 70 #[.slice a1 n1 c1, .pointer (some ⟨b1, 0, none⟩), .pointer (some ⟨b2, 0, none⟩)] g0.w (Ret (WL [m1]) g0 fun v g => ∃ (a_1 : Option Addr) (n_1 : Nat) (c_1 : Nat), v = .tuple #[.int .i64 o1, .int .i64 o2] ∧ RdS (Kd.int .u8) g 5 a_1 n_1 c_1 o3 ∧ Box g m1 b2 24 [[.slice a_1 n_1 c_1]] [1]) := by
  refine calls_of (args := [.slice a1 n1 c1, .pointer (some ⟨b1, 0, none⟩), .pointer (some ⟨b2, 0, none⟩)]) Try.func70 rfl (m0 + m1 + 0) ?_
  intro t ht htL
  refine ⟨_, rfl, ?_⟩
  refine CP.refr 44 [(0, .slice a1 n1 c1), (1, .pointer (some ⟨b1, 0, none⟩)), (2, .pointer (some ⟨b2, 0, none⟩))] (by kernel_rfl) (by kernel_rfl) ?_
  intro ds
  have tot : Step (fun l => (WL [m1]) l ∨ t ≤ l) g0 g0 := Step.refl _ _
  unfold F.octet_Reader_Bytes_1 at hs
  refine CP.seqR ?_
  refine WP.still 2 (by kernel_rfl) ?_
  refine WP.done (by kernel_rfl) ?_
  refine NX.then_n ?_
  refine CP.seqR ?_
  refine WP.still 1 (by kernel_rfl) ?_
  replace hs := Option.bind_eq_some_iff.1 hs
  obtain ⟨⟨x2, x3, x4⟩, hk1, hs⟩ := hs
  dsimp only at hs
  have hcal1 := P.octet_number g0 l1 a1 n1 c1 hR1 x2 x3 x4 hk1
  refine WP.callC hcal1 (by kernel_rfl) ?_
  rintro _ g1 st1 rfl
  replace hR1 := hR1.mono st1 (fun x => x)
  replace hB1 := hB1.mono st1 (fun x => x)
  replace hB2 := hB2.mono st1 (fun x => x)
  replace hR2 := hR2.mono st1 (fun x => x)
  replace tot := tot.trans st1.pure
  refine WP.still 7 (by kernel_rfl) ?_
  refine WP.done (by kernel_rfl) ?_
  refine NX.then_n ?_
  refine CP.seq ?_
  refine CP.block ?_
  refine CP.seqR ?_
  refine WP.still 3 (by kernel_rfl) ?_
  refine WP.done (by kernel_rfl) ?_
  refine NX.then_n ?_
  refine CP.refr 44 [(0, .slice a1 n1 c1), (1, .pointer (some ⟨b1, 0, none⟩)), (2, .pointer (some ⟨b2, 0, none⟩)), (6, .int .u64 x2), (7, .int .i64 x3), (8, .int .i64 x4), (16, .bool (x4 != 0))] (by kernel_rfl) (by kernel_rfl) ?_
  clear ds
  intro ds
  refine CP.cond (b := (x4 != 0)) (by kernel_rfl) (fun h1 => ?_) (fun h1 => ?_)
  · replace hs := of_if_t hs h1
    refine CP.seqR ?_
    refine WP.still 3 (by kernel_rfl) ?_
    refine WP.done (by kernel_rfl) ?_
    refine NX.then_n ?_
    refine CP.ret ?_
    refine NX.block_r ?_
    refine NX.then_r ?_
    replace hs := Option.some.inj hs
    simp only [Prod.mk.injEq] at hs
    obtain ⟨rfl, rfl, rfl⟩ := hs
    exact NX.fin (v := .tuple #[.int .i64 0, .int .i64 x4]) (Res.still (by kernel_rfl)) tot htL ⟨a2, n2, c2, rfl, hR2, hB2⟩
  replace hs := of_if_f hs h1
  refine CP.seqR ?_
  refine WP.still 1 (by kernel_rfl) ?_
  refine WP.loadB (v := .int .i64 x1) hB1 (by kernel_rfl) (by kernel_rfl) ?_
  refine WP.still 4 (by kernel_rfl) ?_
  refine WP.done (by kernel_rfl) ?_
  refine NX.then_n ?_
  refine CP.cond (b := decide (x2 > (IntKind.u64.wrap (imax x1 0)))) (by kernel_rfl) (fun h2 => ?_) (fun h2 => ?_)
  · replace hs := of_if_t hs h2
    refine CP.seqR ?_
    refine WP.still 2 (by kernel_rfl) ?_
    refine WP.done (by kernel_rfl) ?_
    refine NX.then_n ?_
    refine CP.ret ?_
    refine NX.block_r ?_
    refine NX.then_r ?_
    replace hs := Option.some.inj hs
    simp only [Prod.mk.injEq] at hs
    obtain ⟨rfl, rfl, rfl⟩ := hs
    exact NX.fin (v := .tuple #[.int .i64 0, .int .i64 2]) (Res.still (by kernel_rfl)) tot htL ⟨a2, n2, c2, rfl, hR2, hB2⟩
  replace hs := of_if_f hs h2
  refine CP.seqR ?_
  refine WP.still 2 (by kernel_rfl) ?_
  refine WP.len (a := a1) (cp := c1) hR1.len (by kernel_rfl) ?_
  refine WP.still 5 (by kernel_rfl) ?_
  refine WP.done (by kernel_rfl) ?_
  refine NX.then_n ?_
  refine CP.refr 44 [(0, .slice a1 n1 c1), (2, .pointer (some ⟨b2, 0, none⟩)), (6, .int .u64 x2), (7, .int .i64 x3), (26, .bool (decide (x2 > (IntKind.u64.wrap (IntKind.i64.wrap ((l1.length : Int) - x3))))))] (by kernel_rfl) (by kernel_rfl) ?_
  clear ds
  intro ds
  refine CP.cond (b := decide (x2 > (IntKind.u64.wrap (IntKind.i64.wrap ((l1.length : Int) - x3))))) (by kernel_rfl) (fun h3 => ?_) (fun h3 => ?_)
  · replace hs := of_if_t hs h3
    refine CP.seqR ?_
    refine WP.still 2 (by kernel_rfl) ?_
    refine WP.done (by kernel_rfl) ?_
    refine NX.then_n ?_
    refine CP.ret ?_
    refine NX.block_r ?_
    refine NX.then_r ?_
    replace hs := Option.some.inj hs
    simp only [Prod.mk.injEq] at hs
    obtain ⟨rfl, rfl, rfl⟩ := hs
    exact NX.fin (v := .tuple #[.int .i64 0, .int .i64 4]) (Res.still (by kernel_rfl)) tot htL ⟨a2, n2, c2, rfl, hR2, hB2⟩
  replace hs := of_if_f hs h3
  refine CP.skip ?_
  refine NX.block_n ?_
  refine NX.then_n ?_
  refine CP.seqR ?_
  refine WP.still 5 (by kernel_rfl) ?_
  refine WP.done (by kernel_rfl) ?_
  refine NX.then_n ?_
  refine CP.seqR ?_
  refine WP.still 3 (by kernel_rfl) ?_
  by_cases hc1 : (0 : Int) ≤ x3 ∧ x3 ≤ (IntKind.i64.wrap (x3 + (IntKind.i64.wrap x2))) ∧ (IntKind.i64.wrap (x3 + (IntKind.i64.wrap x2))) ≤ (l1.length : Int)
  case neg => rw [if_neg hc1] at hs; cases hs
  replace hs := of_if_p hs hc1
  refine WP.sliceR (lo := some (.int .i64 x3)) (hi := some (.int .i64 (IntKind.i64.wrap (x3 + (IntKind.i64.wrap x2))))) hR1 x3 (IntKind.i64.wrap (x3 + (IntKind.i64.wrap x2))) (by kernel_rfl) (.inr ⟨_, rfl⟩) (.inr ⟨_, rfl⟩) hc1 ?_
  intro a3 c3 hR3
  replace hs := Option.bind_eq_some_iff.1 hs
  obtain ⟨l3, hk2, hs⟩ := hs
  have hcal2 := P.slices_Clone_byte_byte g1 (t + 1) (sliceI l1 x3 (IntKind.i64.wrap (x3 + (IntKind.i64.wrap x2)))) a3 ((IntKind.i64.wrap (x3 + (IntKind.i64.wrap x2))).toNat - x3.toNat) c3 hR3 l3 hk2
  refine WP.callC hcal2 (by kernel_rfl) ?_
  rintro _ g2 st2 ⟨a4, n3, c4, rfl, hR4⟩
  replace hR1 := hR1.mono st2 (fun x => x)
  replace hB2 := hB2.mono st2 (fun x => x)
  replace hR2 := hR2.mono st2 (fun x => x)
  replace hR3 := hR3.mono st2 (fun x => x)
  replace tot := tot.trans st2.pure
  refine WP.storeB (ty := 24) (off := 0) (v := .slice a4 n3 c4) hB2 [[.slice a4 n3 c4]] [1] (by kernel_rfl) (by kernel_rfl) rfl (by kernel_rfl) [[.slice a4 n3 c4]] (by kernel_rfl) (.one rfl .nil) ?_
  intro g3 st3 hB3
  replace hR1 := hR1.mono st3 (WL.no1 (by omega))
  replace hR4 := hR4.mono st3 (WL.no1 (by omega)) (WL.no1 (by omega))
  replace hR3 := hR3.mono st3 (WL.no1 (by omega))
  replace tot := tot.trans (st3.up1 (.inl (by simp [WL])))
  clear hB2
  have hB2 := hB3
  clear hB3
  refine WP.done (by kernel_rfl) ?_
  refine NX.then_n ?_
  refine CP.seqR ?_
  refine WP.still 3 (by kernel_rfl) ?_
  refine WP.done (by kernel_rfl) ?_
  refine NX.then_n ?_
  refine CP.refr 44 [(4, .int .i64 (IntKind.i64.wrap (x3 + (IntKind.i64.wrap x2)))), (5, .int .i64 0)] (by kernel_rfl) (by kernel_rfl) ?_
  clear ds
  intro ds
  refine CP.ret ?_
  obtain ⟨g4, hw1, st4, hnew⟩ := hR4.freeze (by omega)
  refine NX.regw hw1 ?_
  replace hB2 := hB2.mono st4 (WL.no1 (by omega))
  replace tot := tot.trans (st4.up1 (.inr (by omega)))
  clear hR4
  have hR4 := hnew
  clear hnew
  replace hs := Option.some.inj hs
  simp only [Prod.mk.injEq] at hs
  obtain ⟨rfl, rfl, rfl⟩ := hs
  exact NX.fin (v := .tuple #[.int .i64 (IntKind.i64.wrap (x3 + (IntKind.i64.wrap x2))), .int .i64 0]) (Res.still (by kernel_rfl)) tot htL ⟨a4, n3, c4, rfl, hR4, hB2⟩
def F.octet_Reader_read_2 (l1 : List Int) (x1 : Int) (x2 : Int) (l2 : List Int) : Option (Bool × (List Int) × Int × (List Int)) := (if (x1 != 0) = true then (some (false, l1, x1, l2)) else ((F.octet_Reader_Bytes_1 l1 x2 l2).bind fun (x3, x4, d1) => (if (x4 != 0) = true then (some (false, l1, x4, d1)) else (if (0 : Int) ≤ x3 ∧ x3 ≤ (l1.length : Int) ∧ (l1.length : Int) ≤ (l1.length : Int) then (some (true, (sliceI l1 x3 (l1.length : Int)), x1, d1)) else none))))
theorem P.octet_Reader_read_2 (g0 : GW) (m0 : Nat) (m1 : Nat) (m2 : Nat) (l1 : List Int) (x1 : Int) (x2 : Int) (l2 : List Int) (a1 : Option Addr) (n1 : Nat) (c1 : Nat) (a2 : Option Addr) (n2 : Nat) (c2 : Nat) (b1 : Nat) (b2 : Nat) (b3 : Nat) (hR1 : RdS (Kd.int .u8) g0 5 a1 n1 c1 l1) (hR2 : RdS (Kd.int .u8) g0 5 a2 n2 c2 l2) (hB1 : Box g0 m0 b1 105 [[.slice a1 n1 c1], [.int .i64 x1]] [1, 1]) (hB2 : Box g0 m1 b2 3 [[.int .i64 x2]] [1]) (hB3 : Box g0 m2 b3 24 [[.slice a2 n2 c2]] [1]) (hm1_0 : m1 ≠ m0) (hm2_0 : m2 ≠ m0) (hm2_1 : m2 ≠ m1) (hm0 : m0 ≠ 0) (hm1 : m1 ≠ 0) (hm2 : m2 ≠ 0) (o1 : Bool) (o2 : (List Int)) (o3 : Int) (o4 : (List Int)) (hs : F.octet_Reader_read_2 l1 x1 x2 l2 = some (o1, o2, o3, o4)) :
    Calls Try.prog 55 #[.pointer (some ⟨b1, 0, none⟩), .func (.func 70) #[] #[.pointer (some ⟨b2, 0, none⟩), .pointer (some ⟨b3, 0, none⟩)]] g0.w (Ret (WL [m0, m2]) g0 fun v g => ∃ (a_1 : Option Addr) (n_1 : Nat) (c_1 : Nat) (a_4 : Option Addr) (n_4 : Nat) (c_4 : Nat), v = .bool o1 ∧ RdS (Kd.int .u8) g 5 a_1 n_1 c_1 o2 ∧ Box g m0 b1 105 [[.slice a_1 n_1 c_1], [.int .i64 o3]] [1, 1] ∧ RdS (Kd.int .u8) g 5 a_4 n_4 c_4 o4 ∧ Box g m2 b3 24 [[.slice a_4 n_4 c_4]] [1]) := by
  refine calls_of (args := [.pointer (some ⟨b1, 0, none⟩), .func (.func 70) #[] #[.pointer (some ⟨b2, 0, none⟩), .pointer (some ⟨b3, 0, none⟩)]]) Try.func55 rfl (m0 + m1 + m2 + 0) ?_
  intro t ht htL
  refine ⟨_, rfl, ?_⟩
  refine CP.refr 40 [(0, .pointer (some ⟨b1, 0, none⟩)), (1, .func (.func 70) #[] #[.pointer (some ⟨b2, 0, none⟩), .pointer (some ⟨b3, 0, none⟩)])] (by kernel_rfl) (by kernel_rfl) ?_
  intro ds
  have tot : Step (fun l => (WL [m0, m2]) l ∨ t ≤ l) g0 g0 := Step.refl _ _
  unfold F.octet_Reader_read_2 at hs
  refine CP.seqR ?_
  refine WP.still 1 (by kernel_rfl) ?_
  refine WP.done (by kernel_rfl) ?_
  refine NX.then_n ?_
  refine CP.seq ?_
  refine CP.seq ?_
  refine CP.region ?_
  refine WP.still 6 (by kernel_rfl) ?_
  refine WP.loadB (v := .int .i64 x1) hB1 (by kernel_rfl) (by kernel_rfl) ?_
  refine WP.still 2 (by kernel_rfl) ?_
  refine WP.done (by kernel_rfl) ?_
  refine NX.then_n ?_
  refine CP.cond (b := (x1 != 0)) (by kernel_rfl) (fun h1 => ?_) (fun h1 => ?_)
  · replace hs := of_if_t hs h1
    refine CP.seqR ?_
    refine WP.still 1 (by kernel_rfl) ?_
    refine WP.done (by kernel_rfl) ?_
    refine NX.then_n ?_
    refine CP.ret ?_
    refine NX.then_r ?_
    replace hs := Option.some.inj hs
    simp only [Prod.mk.injEq] at hs
    obtain ⟨rfl, rfl, rfl, rfl⟩ := hs
    exact NX.fin (v := .bool false) (Res.still (by kernel_rfl)) tot htL ⟨a1, n1, c1, a2, n2, c2, rfl, hR1, hB1, hR2, hB3⟩
  replace hs := of_if_f hs h1
  refine CP.skip ?_
  refine NX.then_n ?_
  refine CP.seqR ?_
  refine WP.still 4 (by kernel_rfl) ?_
  refine WP.loadB (v := .slice a1 n1 c1) hB1 (by kernel_rfl) (by kernel_rfl) ?_
  replace hs := Option.bind_eq_some_iff.1 hs
  obtain ⟨⟨x3, x4, d1⟩, hk1, hs⟩ := hs
  dsimp only at hs
  have hcal1 := P.octet_Reader_Bytes_1 g0 m1 m2 l1 x2 l2 a1 n1 c1 a2 n2 c2 b2 b3 hR1 hR2 hB2 hB3 (by omega) (by omega) (by omega) x3 x4 d1 hk1
  refine WP.callC hcal1 (by kernel_rfl) ?_
  rintro _ g1 st1 ⟨a3, n3, c3, rfl, hR3, hB4⟩
  replace hB1 := hB1.mono st1 (WL.no1 (by omega))
  replace hR1 := hR1.mono st1 (WL.no1 (by omega))
  replace hB2 := hB2.mono st1 (WL.no1 (by omega))
  replace tot := tot.trans (st1.up1 (.inl (by simp [WL])))
  clear hB3
  have hB3 := hB4
  clear hB4
  refine WP.still 5 (by kernel_rfl) ?_
  refine WP.done (by kernel_rfl) ?_
  refine NX.then_n ?_
  refine CP.refr 40 [(0, .pointer (some ⟨b1, 0, none⟩)), (5, .int .i64 x3), (6, .int .i64 x4)] (by kernel_rfl) (by kernel_rfl) ?_
  clear ds
  intro ds
  refine CP.seq ?_
  refine CP.seqR ?_
  refine WP.still 2 (by kernel_rfl) ?_
  refine WP.done (by kernel_rfl) ?_
  refine NX.then_n ?_
  refine CP.cond (b := (x4 != 0)) (by kernel_rfl) (fun h2 => ?_) (fun h2 => ?_)
  · replace hs := of_if_t hs h2
    refine CP.seqR ?_
    refine WP.still 4 (by kernel_rfl) ?_
    refine WP.storeB (ty := 28) (off := 1) (v := .int .i64 x4) hB1 [[.int .i64 x4]] [1] (by kernel_rfl) (by kernel_rfl) rfl (by kernel_rfl) [[.slice a1 n1 c1], [.int .i64 x4]] (by kernel_rfl) (.one rfl .nil) ?_
    intro g2 st2 hB5
    replace hR1 := hR1.mono st2 (WL.no1 (by omega))
    replace hB3 := hB3.mono st2 (WL.no1 (by omega))
    replace hR3 := hR3.mono st2 (WL.no1 (by omega))
    replace tot := tot.trans (st2.up1 (.inl (by simp [WL])))
    clear hB1
    have hB1 := hB5
    clear hB5
    refine WP.done (by kernel_rfl) ?_
    refine NX.then_n ?_
    refine CP.seqR ?_
    refine WP.still 1 (by kernel_rfl) ?_
    refine WP.done (by kernel_rfl) ?_
    refine NX.then_n ?_
    refine CP.ret ?_
    refine NX.then_r ?_
    replace hs := Option.some.inj hs
    simp only [Prod.mk.injEq] at hs
    obtain ⟨rfl, rfl, rfl, rfl⟩ := hs
    exact NX.fin (v := .bool false) (Res.still (by kernel_rfl)) tot htL ⟨a1, n1, c1, a3, n3, c3, rfl, hR1, hB1, hR3, hB3⟩
  replace hs := of_if_f hs h2
  refine CP.skip ?_
  refine NX.then_n ?_
  refine CP.seqR ?_
  refine WP.still 4 (by kernel_rfl) ?_
  refine WP.loadB (v := .slice a1 n1 c1) hB1 (by kernel_rfl) (by kernel_rfl) ?_
  refine WP.still 1 (by kernel_rfl) ?_
  by_cases hc1 : (0 : Int) ≤ x3 ∧ x3 ≤ (l1.length : Int) ∧ (l1.length : Int) ≤ (l1.length : Int)
  case neg => rw [if_neg hc1] at hs; cases hs
  replace hs := of_if_p hs hc1
  refine WP.sliceR (lo := some (.int .i64 x3)) (hi := none) hR1 x3 (l1.length : Int) (by kernel_rfl) (.inr ⟨_, rfl⟩) (.inl ⟨rfl, rfl⟩) hc1 ?_
  intro a4 c4 hR4
  refine WP.still 2 (by kernel_rfl) ?_
  refine WP.storeB (ty := 24) (off := 0) (v := .slice a4 ((l1.length : Int).toNat - x3.toNat) c4) hB1 [[.slice a4 ((l1.length : Int).toNat - x3.toNat) c4]] [1] (by kernel_rfl) (by kernel_rfl) rfl (by kernel_rfl) [[.slice a4 ((l1.length : Int).toNat - x3.toNat) c4], [.int .i64 x1]] (by kernel_rfl) (.one rfl .nil) ?_
  intro g3 st3 hB6
  replace hR4 := hR4.mono st3 (WL.no1 (by omega))
  replace hB3 := hB3.mono st3 (WL.no1 (by omega))
  replace hR3 := hR3.mono st3 (WL.no1 (by omega))
  replace hR1 := hR1.mono st3 (WL.no1 (by omega))
  replace tot := tot.trans (st3.up1 (.inl (by simp [WL])))
  clear hB1
  have hB1 := hB6
  clear hB6
  refine WP.done (by kernel_rfl) ?_
  refine NX.then_n ?_
  refine CP.seqR ?_
  refine WP.still 1 (by kernel_rfl) ?_
  refine WP.done (by kernel_rfl) ?_
  refine NX.then_n ?_
  refine CP.refr 40 [(4, .bool true)] (by kernel_rfl) (by kernel_rfl) ?_
  clear ds
  intro ds
  refine CP.ret ?_
  replace hs := Option.some.inj hs
  simp only [Prod.mk.injEq] at hs
  obtain ⟨rfl, rfl, rfl, rfl⟩ := hs
  exact NX.fin (v := .bool true) (Res.still (by kernel_rfl)) tot htL ⟨a4, ((l1.length : Int).toNat - x3.toNat), c4, a3, n3, c3, rfl, hR4, hB1, hR3, hB3⟩
def F.octet_Reader_Bytes (l1 : List Int) (x1 : Int) (x2 : Int) : Option ((List Int) × (List Int) × Int) := ((F.octet_Reader_read_2 l1 x1 x2 ([])).bind fun (q1, d1, x3, d2) => (if (!q1) = true then (some ([], d1, x3)) else (some (d2, d1, x3))))
theorem P.octet_Reader_Bytes (g0 : GW) (m0 : Nat) (l1 : List Int) (x1 : Int) (x2 : Int) (a1 : Option Addr) (n1 : Nat) (c1 : Nat) (b1 : Nat) (hR1 : RdS (Kd.int .u8) g0 5 a1 n1 c1 l1) (hB1 : Box g0 m0 b1 105 [[.slice a1 n1 c1], [.int .i64 x1]] [1, 1]) (hm0 : m0 ≠ 0) (o1 : List Int) (o2 : (List Int)) (o3 : Int) (hs : F.octet_Reader_Bytes l1 x1 x2 = some (o1, o2, o3)) :
    Calls Try.prog 47 #[.pointer (some ⟨b1, 0, none⟩), .int .i64 x2] g0.w (Ret (WL [m0]) g0 fun v g => ∃ (a_1 : Option Addr) (n_1 : Nat) (c_1 : Nat) (a_4 : Option Addr) (n_4 : Nat) (c_4 : Nat), v = .slice a_1 n_1 c_1 ∧ RdS (Kd.int .u8) g 5 a_1 n_1 c_1 o1 ∧ RdS (Kd.int .u8) g 5 a_4 n_4 c_4 o2 ∧ Box g m0 b1 105 [[.slice a_4 n_4 c_4], [.int .i64 o3]] [1, 1]) := by
  refine calls_of (args := [.pointer (some ⟨b1, 0, none⟩), .int .i64 x2]) Try.func47 rfl (m0 + 0) ?_
  intro t ht htL
  refine ⟨_, rfl, ?_⟩
  refine CP.refr 13 [(0, .pointer (some ⟨b1, 0, none⟩)), (1, .int .i64 x2)] (by kernel_rfl) (by kernel_rfl) ?_
  intro ds
  have tot : Step (fun l => (WL [m0]) l ∨ t ≤ l) g0 g0 := Step.refl _ _
  unfold F.octet_Reader_Bytes at hs
  refine CP.seqR ?_
  refine WP.alloc (T := 3) (t + 1) [[.int .i64 x2]] [1] (by kernel_rfl) rfl ?_
  intro g1 b2 st1 hB2
  replace hB1 := hB1.mono st1 (fun x => x)
  replace hR1 := hR1.mono st1 (fun x => x)
  replace tot := tot.trans st1.pure
  refine WP.still 1 (by kernel_rfl) ?_
  refine WP.done (by kernel_rfl) ?_
  refine NX.then_n ?_
  refine CP.seqR ?_
  refine WP.alloc (T := 24) (t + 2) [[.slice none 0 0]] [1] (by kernel_rfl) rfl ?_
  intro g2 b3 st2 hB3
  replace hB1 := hB1.mono st2 (fun x => x)
  replace hR1 := hR1.mono st2 (fun x => x)
  replace hB2 := hB2.mono st2 (fun x => x)
  replace tot := tot.trans st2.pure
  refine WP.done (by kernel_rfl) ?_
  refine NX.then_n ?_
  refine CP.seqR ?_
  refine WP.still 2 (by kernel_rfl) ?_
  replace hs := Option.bind_eq_some_iff.1 hs
  obtain ⟨⟨q1, d1, x3, d2⟩, hk1, hs⟩ := hs
  dsimp only at hs
  have hcal1 := P.octet_Reader_read_2 g2 m0 (t + 1) (t + 2) l1 x1 x2 ([]) a1 n1 c1 none 0 0 b1 b2 b3 hR1 (RdS.nil _ _ _) hB1 hB2 hB3 (by omega) (by omega) (by omega) (by omega) (by omega) (by omega) q1 d1 x3 d2 hk1
  refine WP.callC hcal1 (by kernel_rfl) ?_
  rintro _ g3 st3 ⟨a2, n2, c2, a3, n3, c3, rfl, hR2, hB4, hR3, hB5⟩
  replace hB2 := hB2.mono st3 (WL.no2 (by omega) (by omega))
  replace tot := tot.trans (st3.up2 (.inl (by simp [WL])) (.inr (by omega)))
  clear hB1
  have hB1 := hB4
  clear hB4
  clear hB3
  have hB3 := hB5
  clear hB5
  refine WP.still 1 (by kernel_rfl) ?_
  refine WP.done (by kernel_rfl) ?_
  refine NX.then_n ?_
  refine CP.seq ?_
  refine CP.seqR ?_
  refine WP.still 2 (by kernel_rfl) ?_
  refine WP.done (by kernel_rfl) ?_
  refine NX.then_n ?_
  refine CP.cond (b := (!q1)) (by kernel_rfl) (fun h1 => ?_) (fun h1 => ?_)
  · replace hs := of_if_t hs h1
    refine CP.seqR ?_
    refine WP.still 1 (by kernel_rfl) ?_
    refine WP.done (by kernel_rfl) ?_
    refine NX.then_n ?_
    refine CP.ret ?_
    refine NX.then_r ?_
    replace hs := Option.some.inj hs
    simp only [Prod.mk.injEq] at hs
    obtain ⟨rfl, rfl, rfl⟩ := hs
    exact NX.fin (v := .slice none 0 0) (Res.still (by kernel_rfl)) tot htL ⟨none, 0, 0, a2, n2, c2, rfl, (RdS.nil _ _ _), hR2, hB1⟩
  replace hs := of_if_f hs h1
  refine CP.skip ?_
  refine NX.then_n ?_
  refine CP.seqR ?_
  refine WP.loadB (v := .slice a3 n3 c3) hB3 (by kernel_rfl) (by kernel_rfl) ?_
  refine WP.still 1 (by kernel_rfl) ?_
  refine WP.done (by kernel_rfl) ?_
  refine NX.then_n ?_
  refine CP.ret ?_
  replace hs := Option.some.inj hs
  simp only [Prod.mk.injEq] at hs
  obtain ⟨rfl, rfl, rfl⟩ := hs
  exact NX.fin (v := .slice a3 n3 c3) (Res.still (by kernel_rfl)) tot htL ⟨a3, n3, c3, a2, n2, c2, rfl, hR3, hR2, hB1⟩
def F.tx_Decode (l1 : List Int) : Option ((Arr Int 8) × Int × Int × Int × (List Int) × (List Int) × Int) := ((F.octet_NewReader l1).bind fun (l2, x1) => ((F.octet_Reader_Num l2 x1 2).bind fun (x2, d1, x3) => ((F.octet_Reader_Num d1 x3 18446744073709551615).bind fun (x4, d2, x5) => ((F.hash_FromNum x4).bind fun d3 => ((F.octet_Reader_Num d2 x5 1099511627776).bind fun (x6, d4, x7) => ((F.octet_Reader_Num d4 x7 1125899906842624).bind fun (x8, d5, x9) => ((F.octet_Reader_Bytes d5 x9 32768).bind fun (l3, d6, x10) => ((F.octet_Reader_Bytes d6 x10 1024).bind fun (l4, d7, x11) => ((F.octet_Reader_End d7 x11).bind fun x12 => (if (x12 != 0) = true then (some ((zA 8), 0, 0, 0, [], [], x12)) else ((F.tx_Tx_Check d3 (IntKind.i64.wrap x6) (IntKind.i64.wrap x8) (IntKind.i64.wrap x2) l3 l4).bind fun x13 => (if (x13 != 0) = true then (some ((zA 8), 0, 0, 0, [], [], x13)) else (some (d3, (IntKind.i64.wrap x6), (IntKind.i64.wrap x8), (IntKind.i64.wrap x2), l3, l4, 0))))))))))))))
theorem P.tx_Decode (g0 : GW) (l1 : List Int) (a1 : Option Addr) (n1 : Nat) (c1 : Nat) (hR1 : RdS (Kd.int .u8) g0 5 a1 n1 c1 l1) (o1 : Arr Int 8) (o2 : Int) (o3 : Int) (o4 : Int) (o5 : List Int) (o6 : List Int) (o7 : Int) (hs : F.tx_Decode l1 = some (o1, o2, o3, o4, o5, o6, o7)) :
    Calls Try.prog 23 #[.slice a1 n1 c1] g0.w (Ret NoM g0 fun v g => ∃ (a_1 : Option Addr) (n_1 : Nat) (c_1 : Nat) (a_4 : Option Addr) (n_4 : Nat) (c_4 : Nat), v = .tuple #[AG [encA .u8 o1, [.int .i64 o2], [.int .i64 o3], [.int .i64 o4], [.slice a_1 n_1 c_1], [.slice a_4 n_4 c_4]], .int .i64 o7] ∧ RdS (Kd.int .u8) g 5 a_1 n_1 c_1 o5 ∧ RdS (Kd.int .u8) g 5 a_4 n_4 c_4 o6) := by
  refine calls_of (args := [.slice a1 n1 c1]) Try.func23 rfl (0) ?_
  intro t ht htL
  refine ⟨_, rfl, ?_⟩
  refine CP.refr 45 [(0, .slice a1 n1 c1)] (by kernel_rfl) (by kernel_rfl) ?_
  intro ds
  have tot : Step (fun l => NoM l ∨ t ≤ l) g0 g0 := Step.refl _ _
  unfold F.tx_Decode at hs
  refine CP.seqR ?_
  refine WP.alloc (T := 26) (t + 1) [encA .u8 (zA 8), [.int .i64 0], [.int .i64 0], [.int .i64 0], [.slice none 0 0], [.slice none 0 0]] [8, 1, 1, 1, 1, 1] (by kernel_rfl) (by simp [len_encA]) ?_
  intro g1 b1 st1 hB1
  replace hR1 := hR1.mono st1 (fun x => x)
  replace tot := tot.trans st1.pure
  refine WP.still 1 (by kernel_rfl) ?_
  refine WP.done (by kernel_rfl) ?_
  refine NX.then_n ?_
  refine CP.seqR ?_
  refine WP.still 1 (by kernel_rfl) ?_
  replace hs := Option.bind_eq_some_iff.1 hs
  obtain ⟨⟨l2, x1⟩, hk1, hs⟩ := hs
  dsimp only at hs
  have hcal1 := P.octet_NewReader g1 (t + 2) l1 a1 n1 c1 hR1 l2 x1 hk1
  refine WP.callC hcal1 (by kernel_rfl) ?_
  rintro _ g2 st2 ⟨b2, a2, n2, c2, rfl, hB2, hR2⟩
  replace hR1 := hR1.mono st2 (fun x => x)
  replace hB1 := hB1.mono st2 (fun x => x)
  replace tot := tot.trans st2.pure
  refine WP.still 1 (by kernel_rfl) ?_
  refine WP.done (by kernel_rfl) ?_
  refine NX.then_n ?_
  refine CP.seqR ?_
  refine WP.still 1 (by kernel_rfl) ?_
  replace hs := Option.bind_eq_some_iff.1 hs
  obtain ⟨⟨x2, d1, x3⟩, hk2, hs⟩ := hs
  dsimp only at hs
  have hcal2 := P.octet_Reader_Num g2 (t + 2) l2 x1 2 a2 n2 c2 b2 hR2 hB2 (by omega) x2 d1 x3 hk2
  refine WP.callC hcal2 (by kernel_rfl) ?_
  rintro _ g3 st3 ⟨a3, n3, c3, rfl, hR3, hB3⟩
  replace hB1 := hB1.mono st3 (WL.no1 (by omega))
  replace tot := tot.trans (st3.up1 (.inr (by omega)))
  clear hB2
  have hB2 := hB3
  clear hB3
  refine WP.still 1 (by kernel_rfl) ?_
  refine WP.buildS (places := #[(0, 8), (8, 1), (9, 1), (10, 1), (11, 1), (12, 1)]) (t := 26) [encA .u8 (zA 8), [.int .i64 0], [.int .i64 0], [.int .i64 0], [.slice none 0 0], [.slice none 0 0]] [8, 1, 1, 1, 1, 1] (by kernel_rfl) (by kernel_rfl) (by simp [len_encA]) (by kernel_rfl) ((.cons (i := 3) (off := 10) (v := .int .i64 (IntKind.i64.wrap x2)) (mid := [encA .u8 (zA 8), [.int .i64 0], [.int .i64 0], [.int .i64 (IntKind.i64.wrap x2)], [.slice none 0 0], [.slice none 0 0]]) [[.int .i64 (IntKind.i64.wrap x2)]] [1] (by kernel_rfl) (by kernel_rfl) rfl (by kernel_rfl) .nil)) ?_
  refine WP.alloc (T := 26) (t + 3) [encA .u8 (zA 8), [.int .i64 0], [.int .i64 0], [.int .i64 0], [.slice none 0 0], [.slice none 0 0]] [8, 1, 1, 1, 1, 1] (by kernel_rfl) (by simp [len_encA]) ?_
  intro g4 b3 st4 hB4
  replace hB1 := hB1.mono st4 (fun x => x)
  replace hB2 := hB2.mono st4 (fun x => x)
  replace hR3 := hR3.mono st4 (fun x => x)
  replace tot := tot.trans st4.pure
  refine WP.storeB (ty := 26) (off := 0) (v := AG [encA .u8 (zA 8), [.int .i64 0], [.int .i64 0], [.int .i64 (IntKind.i64.wrap x2)], [.slice none 0 0], [.slice none 0 0]]) hB4 [encA .u8 (zA 8), [.int .i64 0], [.int .i64 0], [.int .i64 (IntKind.i64.wrap x2)], [.slice none 0 0], [.slice none 0 0]] [8, 1, 1, 1, 1, 1] (by kernel_rfl) (by kernel_rfl) (by simp [len_encA]) (by kernel_rfl) [encA .u8 (zA 8), [.int .i64 0], [.int .i64 0], [.int .i64 (IntKind.i64.wrap x2)], [.slice none 0 0], [.slice none 0 0]] (by kernel_rfl) (.arr (.one rfl (.one rfl (.one rfl (.one rfl (.one rfl .nil)))))) ?_
  intro g5 st5 hB5
  replace hB1 := hB1.mono st5 (WL.no1 (by omega))
  replace hB2 := hB2.mono st5 (WL.no1 (by omega))
  replace hR3 := hR3.mono st5 (WL.no1 (by omega))
  replace tot := tot.trans (st5.up1 (.inr (by omega)))
  clear hB4
  have hB4 := hB5
  clear hB5
  refine WP.done (by kernel_rfl) ?_
  refine NX.then_n ?_
  refine CP.seqR ?_
  refine WP.still 1 (by kernel_rfl) ?_
  replace hs := Option.bind_eq_some_iff.1 hs
  obtain ⟨⟨x4, d2, x5⟩, hk3, hs⟩ := hs
  dsimp only at hs
  have hcal3 := P.octet_Reader_Num g5 (t + 2) d1 x3 18446744073709551615 a3 n3 c3 b2 hR3 hB2 (by omega) x4 d2 x5 hk3
  refine WP.callC hcal3 (by kernel_rfl) ?_
  rintro _ g6 st6 ⟨a4, n4, c4, rfl, hR4, hB6⟩
  replace hB1 := hB1.mono st6 (WL.no1 (by omega))
  replace hB4 := hB4.mono st6 (WL.no1 (by omega))
  replace tot := tot.trans (st6.up1 (.inr (by omega)))
  clear hB2
  have hB2 := hB6
  clear hB6
  replace hs := Option.bind_eq_some_iff.1 hs
  obtain ⟨d3, hk4, hs⟩ := hs
  have hcal4 := P.hash_FromNum g6 x4 d3 hk4
  refine WP.callC hcal4 (by kernel_rfl) ?_
  rintro _ g7 st7 rfl
  replace hB1 := hB1.mono st7 (fun x => x)
  replace hB2 := hB2.mono st7 (fun x => x)
  replace hR4 := hR4.mono st7 (fun x => x)
  replace hB4 := hB4.mono st7 (fun x => x)
  replace tot := tot.trans st7.pure
  refine WP.still 1 (by kernel_rfl) ?_
  refine WP.storeB (ty := 23) (off := 0) (v := AG [encA .u8 d3]) hB4 [encA .u8 d3] [8] (by kernel_rfl) (by kernel_rfl) (by simp [len_encA]) (by kernel_rfl) [encA .u8 d3, [.int .i64 0], [.int .i64 0], [.int .i64 (IntKind.i64.wrap x2)], [.slice none 0 0], [.slice none 0 0]] (by kernel_rfl) (.arr .nil) ?_
  intro g8 st8 hB7
  replace hB1 := hB1.mono st8 (WL.no1 (by omega))
  replace hB2 := hB2.mono st8 (WL.no1 (by omega))
  replace hR4 := hR4.mono st8 (WL.no1 (by omega))
  replace tot := tot.trans (st8.up1 (.inr (by omega)))
  clear hB4
  have hB4 := hB7
  clear hB7
  refine WP.done (by kernel_rfl) ?_
  refine NX.then_n ?_
  refine CP.refr 45 [(2, .pointer (some ⟨b1, 0, none⟩)), (4, .pointer (some ⟨b2, 0, none⟩)), (5, .pointer (some ⟨b3, 0, none⟩))] (by kernel_rfl) (by kernel_rfl) ?_
  clear ds
  intro ds
  refine CP.seqR ?_
  refine WP.still 1 (by kernel_rfl) ?_
  replace hs := Option.bind_eq_some_iff.1 hs
  obtain ⟨⟨x6, d4, x7⟩, hk5, hs⟩ := hs
  dsimp only at hs
  have hcal5 := P.octet_Reader_Num g8 (t + 2) d2 x5 1099511627776 a4 n4 c4 b2 hR4 hB2 (by omega) x6 d4 x7 hk5
  refine WP.callC hcal5 (by kernel_rfl) ?_
  rintro _ g9 st9 ⟨a5, n5, c5, rfl, hR5, hB8⟩
  replace hB1 := hB1.mono st9 (WL.no1 (by omega))
  replace hB4 := hB4.mono st9 (WL.no1 (by omega))
  replace tot := tot.trans (st9.up1 (.inr (by omega)))
  clear hB2
  have hB2 := hB8
  clear hB8
  refine WP.still 2 (by kernel_rfl) ?_
  replace hs := Option.bind_eq_some_iff.1 hs
  obtain ⟨⟨x8, d5, x9⟩, hk6, hs⟩ := hs
  dsimp only at hs
  have hcal6 := P.octet_Reader_Num g9 (t + 2) d4 x7 1125899906842624 a5 n5 c5 b2 hR5 hB2 (by omega) x8 d5 x9 hk6
  refine WP.callC hcal6 (by kernel_rfl) ?_
  rintro _ g10 st10 ⟨a6, n6, c6, rfl, hR6, hB9⟩
  replace hB1 := hB1.mono st10 (WL.no1 (by omega))
  replace hB4 := hB4.mono st10 (WL.no1 (by omega))
  replace tot := tot.trans (st10.up1 (.inr (by omega)))
  clear hB2
  have hB2 := hB9
  clear hB9
  refine WP.still 2 (by kernel_rfl) ?_
  refine WP.storeB (ty := 3) (off := 8) (v := .int .i64 (IntKind.i64.wrap x6)) hB4 [[.int .i64 (IntKind.i64.wrap x6)]] [1] (by kernel_rfl) (by kernel_rfl) rfl (by kernel_rfl) [encA .u8 d3, [.int .i64 (IntKind.i64.wrap x6)], [.int .i64 0], [.int .i64 (IntKind.i64.wrap x2)], [.slice none 0 0], [.slice none 0 0]] (by kernel_rfl) (.one rfl .nil) ?_
  intro g11 st11 hB10
  replace hB1 := hB1.mono st11 (WL.no1 (by omega))
  replace hB2 := hB2.mono st11 (WL.no1 (by omega))
  replace hR6 := hR6.mono st11 (WL.no1 (by omega))
  replace tot := tot.trans (st11.up1 (.inr (by omega)))
  clear hB4
  have hB4 := hB10
  clear hB10
  refine WP.still 1 (by kernel_rfl) ?_
  refine WP.storeB (ty := 3) (off := 9) (v := .int .i64 (IntKind.i64.wrap x8)) hB4 [[.int .i64 (IntKind.i64.wrap x8)]] [1] (by kernel_rfl) (by kernel_rfl) rfl (by kernel_rfl) [encA .u8 d3, [.int .i64 (IntKind.i64.wrap x6)], [.int .i64 (IntKind.i64.wrap x8)], [.int .i64 (IntKind.i64.wrap x2)], [.slice none 0 0], [.slice none 0 0]] (by kernel_rfl) (.one rfl .nil) ?_
  intro g12 st12 hB11
  replace hB1 := hB1.mono st12 (WL.no1 (by omega))
  replace hB2 := hB2.mono st12 (WL.no1 (by omega))
  replace hR6 := hR6.mono st12 (WL.no1 (by omega))
  replace tot := tot.trans (st12.up1 (.inr (by omega)))
  clear hB4
  have hB4 := hB11
  clear hB11
  refine WP.done (by kernel_rfl) ?_
  refine NX.then_n ?_
  refine CP.seqR ?_
  refine WP.still 1 (by kernel_rfl) ?_
  replace hs := Option.bind_eq_some_iff.1 hs
  obtain ⟨⟨l3, d6, x10⟩, hk7, hs⟩ := hs
  dsimp only at hs
  have hcal7 := P.octet_Reader_Bytes g12 (t + 2) d5 x9 32768 a6 n6 c6 b2 hR6 hB2 (by omega) l3 d6 x10 hk7
  refine WP.callC hcal7 (by kernel_rfl) ?_
  rintro _ g13 st13 ⟨a7, n7, c7, a8, n8, c8, rfl, hR7, hR8, hB12⟩
  replace hB1 := hB1.mono st13 (WL.no1 (by omega))
  replace hB4 := hB4.mono st13 (WL.no1 (by omega))
  replace tot := tot.trans (st13.up1 (.inr (by omega)))
  clear hB2
  have hB2 := hB12
  clear hB12
  refine WP.still 1 (by kernel_rfl) ?_
  replace hs := Option.bind_eq_some_iff.1 hs
  obtain ⟨⟨l4, d7, x11⟩, hk8, hs⟩ := hs
  dsimp only at hs
  have hcal8 := P.octet_Reader_Bytes g13 (t + 2) d6 x10 1024 a8 n8 c8 b2 hR8 hB2 (by omega) l4 d7 x11 hk8
  refine WP.callC hcal8 (by kernel_rfl) ?_
  rintro _ g14 st14 ⟨a9, n9, c9, a10, n10, c10, rfl, hR9, hR10, hB13⟩
  replace hB1 := hB1.mono st14 (WL.no1 (by omega))
  replace hB4 := hB4.mono st14 (WL.no1 (by omega))
  replace hR7 := hR7.mono st14 (WL.no1 (by omega))
  replace tot := tot.trans (st14.up1 (.inr (by omega)))
  clear hB2
  have hB2 := hB13
  clear hB13
  refine WP.still 1 (by kernel_rfl) ?_
  refine WP.storeB (ty := 24) (off := 11) (v := .slice a7 n7 c7) hB4 [[.slice a7 n7 c7]] [1] (by kernel_rfl) (by kernel_rfl) rfl (by kernel_rfl) [encA .u8 d3, [.int .i64 (IntKind.i64.wrap x6)], [.int .i64 (IntKind.i64.wrap x8)], [.int .i64 (IntKind.i64.wrap x2)], [.slice a7 n7 c7], [.slice none 0 0]] (by kernel_rfl) (.one rfl .nil) ?_
  intro g15 st15 hB14
  replace hB1 := hB1.mono st15 (WL.no1 (by omega))
  replace hB2 := hB2.mono st15 (WL.no1 (by omega))
  replace hR10 := hR10.mono st15 (WL.no1 (by omega))
  replace hR7 := hR7.mono st15 (WL.no1 (by omega))
  replace hR9 := hR9.mono st15 (WL.no1 (by omega))
  replace tot := tot.trans (st15.up1 (.inr (by omega)))
  clear hB4
  have hB4 := hB14
  clear hB14
  refine WP.still 1 (by kernel_rfl) ?_
  refine WP.storeB (ty := 24) (off := 12) (v := .slice a9 n9 c9) hB4 [[.slice a9 n9 c9]] [1] (by kernel_rfl) (by kernel_rfl) rfl (by kernel_rfl) [encA .u8 d3, [.int .i64 (IntKind.i64.wrap x6)], [.int .i64 (IntKind.i64.wrap x8)], [.int .i64 (IntKind.i64.wrap x2)], [.slice a7 n7 c7], [.slice a9 n9 c9]] (by kernel_rfl) (.one rfl .nil) ?_
  intro g16 st16 hB15
  replace hB1 := hB1.mono st16 (WL.no1 (by omega))
  replace hB2 := hB2.mono st16 (WL.no1 (by omega))
  replace hR10 := hR10.mono st16 (WL.no1 (by omega))
  replace hR7 := hR7.mono st16 (WL.no1 (by omega))
  replace hR9 := hR9.mono st16 (WL.no1 (by omega))
  replace tot := tot.trans (st16.up1 (.inr (by omega)))
  clear hB4
  have hB4 := hB15
  clear hB15
  refine WP.done (by kernel_rfl) ?_
  refine NX.then_n ?_
  refine CP.refr 45 [(2, .pointer (some ⟨b1, 0, none⟩)), (4, .pointer (some ⟨b2, 0, none⟩)), (5, .pointer (some ⟨b3, 0, none⟩))] (by kernel_rfl) (by kernel_rfl) ?_
  clear ds
  intro ds
  refine CP.seq ?_
  refine CP.seqR ?_
  refine WP.still 1 (by kernel_rfl) ?_
  replace hs := Option.bind_eq_some_iff.1 hs
  obtain ⟨x12, hk9, hs⟩ := hs
  have hcal9 := P.octet_Reader_End g16 (t + 2) d7 x11 a10 n10 c10 b2 hR10 hB2 (by omega) x12 hk9
  refine WP.callC hcal9 (by kernel_rfl) ?_
  rintro _ g17 st17 rfl
  replace hB1 := hB1.mono st17 (fun x => x)
  replace hB2 := hB2.mono st17 (fun x => x)
  replace hR10 := hR10.mono st17 (fun x => x)
  replace hB4 := hB4.mono st17 (fun x => x)
  replace hR7 := hR7.mono st17 (fun x => x)
  replace hR9 := hR9.mono st17 (fun x => x)
  replace tot := tot.trans st17.pure
  refine WP.still 1 (by kernel_rfl) ?_
  refine WP.done (by kernel_rfl) ?_
  refine NX.then_n ?_
  refine CP.seqR ?_
  refine WP.still 2 (by kernel_rfl) ?_
  refine WP.done (by kernel_rfl) ?_
  refine NX.then_n ?_
  refine CP.cond (b := (x12 != 0)) (by kernel_rfl) (fun h1 => ?_) (fun h1 => ?_)
  · replace hs := of_if_t hs h1
    refine CP.seqR ?_
    refine WP.buildS (places := #[(0, 8), (8, 1), (9, 1), (10, 1), (11, 1), (12, 1)]) (t := 26) [encA .u8 (zA 8), [.int .i64 0], [.int .i64 0], [.int .i64 0], [.slice none 0 0], [.slice none 0 0]] [8, 1, 1, 1, 1, 1] (by kernel_rfl) (by kernel_rfl) (by simp [len_encA]) (by kernel_rfl) (.nil) ?_
    refine WP.still 1 (by kernel_rfl) ?_
    refine WP.storeB (ty := 26) (off := 0) (v := AG [encA .u8 (zA 8), [.int .i64 0], [.int .i64 0], [.int .i64 0], [.slice none 0 0], [.slice none 0 0]]) hB1 [encA .u8 (zA 8), [.int .i64 0], [.int .i64 0], [.int .i64 0], [.slice none 0 0], [.slice none 0 0]] [8, 1, 1, 1, 1, 1] (by kernel_rfl) (by kernel_rfl) (by simp [len_encA]) (by kernel_rfl) [encA .u8 (zA 8), [.int .i64 0], [.int .i64 0], [.int .i64 0], [.slice none 0 0], [.slice none 0 0]] (by kernel_rfl) (.arr (.one rfl (.one rfl (.one rfl (.one rfl (.one rfl .nil)))))) ?_
    intro g18 st18 hB16
    replace hB4 := hB4.mono st18 (WL.no1 (by omega))
    replace hR7 := hR7.mono st18 (WL.no1 (by omega))
    replace hR9 := hR9.mono st18 (WL.no1 (by omega))
    replace tot := tot.trans (st18.up1 (.inr (by omega)))
    clear hB1
    have hB1 := hB16
    clear hB16
    refine WP.still 1 (by kernel_rfl) ?_
    refine WP.done (by kernel_rfl) ?_
    refine NX.then_n ?_
    refine CP.ret ?_
    refine NX.then_r ?_
    replace hs := Option.some.inj hs
    simp only [Prod.mk.injEq] at hs
    obtain ⟨rfl, rfl, rfl, rfl, rfl, rfl, rfl⟩ := hs
    exact NX.fin (v := .tuple #[AG [encA .u8 (zA 8), [.int .i64 0], [.int .i64 0], [.int .i64 0], [.slice none 0 0], [.slice none 0 0]], .int .i64 x12]) (Res.two rfl (RV.box (agg := true) (size := 13) (rs := [encA .u8 (zA 8), [.int .i64 0], [.int .i64 0], [.int .i64 0], [.slice none 0 0], [.slice none 0 0]]) hB1 (by kernel_rfl) (by kernel_rfl) (by kernel_rfl) (by kernel_rfl)) (RV.tmp (by kernel_rfl))) tot htL ⟨none, 0, 0, none, 0, 0, rfl, (RdS.nil _ _ _), (RdS.nil _ _ _)⟩
  replace hs := of_if_f hs h1
  refine CP.skip ?_
  refine NX.then_n ?_
  refine CP.seq ?_
  refine CP.seqR ?_
  refine WP.loadB (v := AG [encA .u8 d3, [.int .i64 (IntKind.i64.wrap x6)], [.int .i64 (IntKind.i64.wrap x8)], [.int .i64 (IntKind.i64.wrap x2)], [.slice a7 n7 c7], [.slice a9 n9 c9]]) hB4 (by kernel_rfl) (by kernel_rfl) ?_
  replace hs := Option.bind_eq_some_iff.1 hs
  obtain ⟨x13, hk10, hs⟩ := hs
  have hcal10 := P.tx_Tx_Check g17 d3 (IntKind.i64.wrap x6) (IntKind.i64.wrap x8) (IntKind.i64.wrap x2) l3 l4 a7 n7 c7 a9 n9 c9 hR7 hR9 x13 hk10
  refine WP.callC hcal10 (by kernel_rfl) ?_
  rintro _ g19 st19 rfl
  replace hB1 := hB1.mono st19 (fun x => x)
  replace hB4 := hB4.mono st19 (fun x => x)
  replace hR7 := hR7.mono st19 (fun x => x)
  replace hR9 := hR9.mono st19 (fun x => x)
  replace tot := tot.trans st19.pure
  refine WP.still 1 (by kernel_rfl) ?_
  refine WP.done (by kernel_rfl) ?_
  refine NX.then_n ?_
  refine CP.seqR ?_
  refine WP.still 2 (by kernel_rfl) ?_
  refine WP.done (by kernel_rfl) ?_
  refine NX.then_n ?_
  refine CP.cond (b := (x13 != 0)) (by kernel_rfl) (fun h2 => ?_) (fun h2 => ?_)
  · replace hs := of_if_t hs h2
    refine CP.seqR ?_
    refine WP.buildS (places := #[(0, 8), (8, 1), (9, 1), (10, 1), (11, 1), (12, 1)]) (t := 26) [encA .u8 (zA 8), [.int .i64 0], [.int .i64 0], [.int .i64 0], [.slice none 0 0], [.slice none 0 0]] [8, 1, 1, 1, 1, 1] (by kernel_rfl) (by kernel_rfl) (by simp [len_encA]) (by kernel_rfl) (.nil) ?_
    refine WP.still 1 (by kernel_rfl) ?_
    refine WP.storeB (ty := 26) (off := 0) (v := AG [encA .u8 (zA 8), [.int .i64 0], [.int .i64 0], [.int .i64 0], [.slice none 0 0], [.slice none 0 0]]) hB1 [encA .u8 (zA 8), [.int .i64 0], [.int .i64 0], [.int .i64 0], [.slice none 0 0], [.slice none 0 0]] [8, 1, 1, 1, 1, 1] (by kernel_rfl) (by kernel_rfl) (by simp [len_encA]) (by kernel_rfl) [encA .u8 (zA 8), [.int .i64 0], [.int .i64 0], [.int .i64 0], [.slice none 0 0], [.slice none 0 0]] (by kernel_rfl) (.arr (.one rfl (.one rfl (.one rfl (.one rfl (.one rfl .nil)))))) ?_
    intro g20 st20 hB17
    replace hB4 := hB4.mono st20 (WL.no1 (by omega))
    replace hR7 := hR7.mono st20 (WL.no1 (by omega))
    replace hR9 := hR9.mono st20 (WL.no1 (by omega))
    replace tot := tot.trans (st20.up1 (.inr (by omega)))
    clear hB1
    have hB1 := hB17
    clear hB17
    refine WP.still 1 (by kernel_rfl) ?_
    refine WP.done (by kernel_rfl) ?_
    refine NX.then_n ?_
    refine CP.refr 45 [(2, .pointer (some ⟨b1, 0, none⟩)), (3, .int .i64 x13)] (by kernel_rfl) (by kernel_rfl) ?_
    clear ds
    intro ds
    refine CP.ret ?_
    refine NX.then_r ?_
    replace hs := Option.some.inj hs
    simp only [Prod.mk.injEq] at hs
    obtain ⟨rfl, rfl, rfl, rfl, rfl, rfl, rfl⟩ := hs
    exact NX.fin (v := .tuple #[AG [encA .u8 (zA 8), [.int .i64 0], [.int .i64 0], [.int .i64 0], [.slice none 0 0], [.slice none 0 0]], .int .i64 x13]) (Res.two rfl (RV.box (agg := true) (size := 13) (rs := [encA .u8 (zA 8), [.int .i64 0], [.int .i64 0], [.int .i64 0], [.slice none 0 0], [.slice none 0 0]]) hB1 (by kernel_rfl) (by kernel_rfl) (by kernel_rfl) (by kernel_rfl)) (RV.tmp (by kernel_rfl))) tot htL ⟨none, 0, 0, none, 0, 0, rfl, (RdS.nil _ _ _), (RdS.nil _ _ _)⟩
  replace hs := of_if_f hs h2
  refine CP.skip ?_
  refine NX.then_n ?_
  refine CP.seqR ?_
  refine WP.loadB (v := AG [encA .u8 d3, [.int .i64 (IntKind.i64.wrap x6)], [.int .i64 (IntKind.i64.wrap x8)], [.int .i64 (IntKind.i64.wrap x2)], [.slice a7 n7 c7], [.slice a9 n9 c9]]) hB4 (by kernel_rfl) (by kernel_rfl) ?_
  refine WP.storeB (ty := 26) (off := 0) (v := AG [encA .u8 d3, [.int .i64 (IntKind.i64.wrap x6)], [.int .i64 (IntKind.i64.wrap x8)], [.int .i64 (IntKind.i64.wrap x2)], [.slice a7 n7 c7], [.slice a9 n9 c9]]) hB1 [encA .u8 d3, [.int .i64 (IntKind.i64.wrap x6)], [.int .i64 (IntKind.i64.wrap x8)], [.int .i64 (IntKind.i64.wrap x2)], [.slice a7 n7 c7], [.slice a9 n9 c9]] [8, 1, 1, 1, 1, 1] (by kernel_rfl) (by kernel_rfl) (by simp [len_encA]) (by kernel_rfl) [encA .u8 d3, [.int .i64 (IntKind.i64.wrap x6)], [.int .i64 (IntKind.i64.wrap x8)], [.int .i64 (IntKind.i64.wrap x2)], [.slice a7 n7 c7], [.slice a9 n9 c9]] (by kernel_rfl) (.arr (.one rfl (.one rfl (.one rfl (.one rfl (.one rfl .nil)))))) ?_
  intro g21 st21 hB18
  replace hR7 := hR7.mono st21 (WL.no1 (by omega))
  replace hR9 := hR9.mono st21 (WL.no1 (by omega))
  replace hB4 := hB4.mono st21 (WL.no1 (by omega))
  replace tot := tot.trans (st21.up1 (.inr (by omega)))
  clear hB1
  have hB1 := hB18
  clear hB18
  refine WP.still 1 (by kernel_rfl) ?_
  refine WP.done (by kernel_rfl) ?_
  refine NX.then_n ?_
  refine CP.refr 45 [(2, .pointer (some ⟨b1, 0, none⟩)), (3, .int .i64 0)] (by kernel_rfl) (by kernel_rfl) ?_
  clear ds
  intro ds
  refine CP.ret ?_
  replace hs := Option.some.inj hs
  simp only [Prod.mk.injEq] at hs
  obtain ⟨rfl, rfl, rfl, rfl, rfl, rfl, rfl⟩ := hs
  exact NX.fin (v := .tuple #[AG [encA .u8 d3, [.int .i64 (IntKind.i64.wrap x6)], [.int .i64 (IntKind.i64.wrap x8)], [.int .i64 (IntKind.i64.wrap x2)], [.slice a7 n7 c7], [.slice a9 n9 c9]], .int .i64 0]) (Res.two rfl (RV.box (agg := true) (size := 13) (rs := [encA .u8 d3, [.int .i64 (IntKind.i64.wrap x6)], [.int .i64 (IntKind.i64.wrap x8)], [.int .i64 (IntKind.i64.wrap x2)], [.slice a7 n7 c7], [.slice a9 n9 c9]]) hB1 (by kernel_rfl) (by kernel_rfl) (by kernel_rfl) (by kernel_rfl)) (RV.tmp (by kernel_rfl))) tot htL ⟨a7, n7, c7, a9, n9, c9, rfl, hR7, hR9⟩
def F.baizeref01_Some.c1 (l1 : List Int) (x1 : Int) (x2 : Int) (l2 : List Int) (x4 : Int) (x5 : Int) (x6 : Int) (x9 : Int) : Option ((List Int) × Int × Int × (List Int)) := (if decide (x6 > (IntKind.u64.wrap x9)) = true then ((F.baizeref01_Fail l1 x1 x2 2).bind fun (l4, x10, x11) => (some (l4, x10, x11, []))) else (if decide (x6 > (IntKind.u64.wrap (IntKind.i64.wrap ((l2.length : Int) - x4)))) = true then ((F.baizeref01_Fail l1 x1 x2 4).bind fun (l5, x12, x13) => (some (l5, x12, x13, []))) else (if (0 : Int) ≤ x4 ∧ x4 ≤ (IntKind.i64.wrap (x4 + (IntKind.i64.wrap x6))) ∧ (IntKind.i64.wrap (x4 + (IntKind.i64.wrap x6))) ≤ (l2.length : Int) then (if ([] : List Int).length + (sliceI l2 x4 (IntKind.i64.wrap (x4 + (IntKind.i64.wrap x6)))).length ≤ 140737488355328 then (some (l2, (IntKind.i64.wrap (x4 + (IntKind.i64.wrap x6))), x5, (([] : List Int) ++ (sliceI l2 x4 (IntKind.i64.wrap (x4 + (IntKind.i64.wrap x6))))))) else none) else none)))
def F.baizeref01_Some (l1 : List Int) (x1 : Int) (x2 : Int) (x3 : Int) : Option ((List Int) × Int × Int × (List Int)) := (if (x2 != 0) = true then (some (l1, x1, x2, [])) else ((F.baizeref01_Read l1 x1 x2 18446744073709551615).bind fun (l2, x4, x5, x6) => (if (x5 != 0) = true then ((F.baizeref01_Fail l1 x1 x2 x5).bind fun (l3, x7, x8) => (some (l3, x7, x8, []))) else (if decide (x3 < 0) = true then (F.baizeref01_Some.c1 l1 x1 x2 l2 x4 x5 x6 0) else (F.baizeref01_Some.c1 l1 x1 x2 l2 x4 x5 x6 x3)))))
theorem P.baizeref01_Some (g0 : GW) (r0 : Nat) (l1 : List Int) (x1 : Int) (x2 : Int) (x3 : Int) (a1 : Option Addr) (n1 : Nat) (c1 : Nat) (hR1 : RdS (Kd.int .u8) g0 5 a1 n1 c1 l1) (o1 : List Int) (o2 : Int) (o3 : Int) (o4 : List Int) (hs : F.baizeref01_Some l1 x1 x2 x3 = some (o1, o2, o3, o4)) :
    Calls Try.prog 48 #[AG [[.slice a1 n1 c1], [.int .i64 x1], [.int .i64 x2]], .int .i64 x3] g0.w (Ret NoM g0 fun v g => ∃ (a_1 : Option Addr) (n_1 : Nat) (c_1 : Nat) (a_4 : Option Addr) (n_4 : Nat) (c_4 : Nat), v = .tuple #[AG [[.slice a_1 n_1 c_1], [.int .i64 o2], [.int .i64 o3]], .slice a_4 n_4 c_4] ∧ RdS (Kd.int .u8) g 5 a_1 n_1 c_1 o1 ∧ OwnS (Kd.int .u8) g r0 5 a_4 n_4 c_4 o4) := by
  refine calls_of (args := [AG [[.slice a1 n1 c1], [.int .i64 x1], [.int .i64 x2]], .int .i64 x3]) Try.func48 rfl (r0 + 0) ?_
  intro t ht htL
  refine ⟨_, rfl, ?_⟩
  refine CP.refr 64 [(0, AG [[.slice a1 n1 c1], [.int .i64 x1], [.int .i64 x2]]), (1, .int .i64 x3)] (by kernel_rfl) (by kernel_rfl) ?_
  intro ds
  have tot : Step (fun l => NoM l ∨ t ≤ l) g0 g0 := Step.refl _ _
  unfold F.baizeref01_Some at hs
  refine CP.seqR ?_
  refine WP.alloc (T := 74) (t + 1) [[.slice a1 n1 c1], [.int .i64 x1], [.int .i64 x2]] [1, 1, 1] (by kernel_rfl) rfl ?_
  intro g1 b1 st1 hB1
  replace hR1 := hR1.mono st1 (fun x => x)
  replace tot := tot.trans st1.pure
  refine WP.alloc (T := 74) (t + 2) [[.slice none 0 0], [.int .i64 0], [.int .i64 0]] [1, 1, 1] (by kernel_rfl) rfl ?_
  intro g2 b2 st2 hB2
  replace hR1 := hR1.mono st2 (fun x => x)
  replace hB1 := hB1.mono st2 (fun x => x)
  replace tot := tot.trans st2.pure
  refine WP.still 1 (by kernel_rfl) ?_
  refine WP.done (by kernel_rfl) ?_
  refine NX.then_n ?_
  refine CP.seq ?_
  refine CP.seqR ?_
  refine WP.still 1 (by kernel_rfl) ?_
  refine WP.loadB (v := .int .i64 x2) hB1 (by kernel_rfl) (by kernel_rfl) ?_
  refine WP.still 1 (by kernel_rfl) ?_
  refine WP.done (by kernel_rfl) ?_
  refine NX.then_n ?_
  refine CP.cond (b := (x2 != 0)) (by kernel_rfl) (fun h1 => ?_) (fun h1 => ?_)
  · replace hs := of_if_t hs h1
    refine CP.seqR ?_
    refine WP.loadB (v := AG [[.slice a1 n1 c1], [.int .i64 x1], [.int .i64 x2]]) hB1 (by kernel_rfl) (by kernel_rfl) ?_
    refine WP.storeB (ty := 74) (off := 0) (v := AG [[.slice a1 n1 c1], [.int .i64 x1], [.int .i64 x2]]) hB2 [[.slice a1 n1 c1], [.int .i64 x1], [.int .i64 x2]] [1, 1, 1] (by kernel_rfl) (by kernel_rfl) rfl (by kernel_rfl) [[.slice a1 n1 c1], [.int .i64 x1], [.int .i64 x2]] (by kernel_rfl) (.one rfl (.one rfl (.one rfl .nil))) ?_
    intro g3 st3 hB3
    replace hB1 := hB1.mono st3 (WL.no1 (by omega))
    replace hR1 := hR1.mono st3 (WL.no1 (by omega))
    replace tot := tot.trans (st3.up1 (.inr (by omega)))
    clear hB2
    have hB2 := hB3
    clear hB3
    refine WP.still 1 (by kernel_rfl) ?_
    refine WP.done (by kernel_rfl) ?_
    refine NX.then_n ?_
    refine CP.ret ?_
    refine NX.then_r ?_
    replace hs := Option.some.inj hs
    simp only [Prod.mk.injEq] at hs
    obtain ⟨rfl, rfl, rfl, rfl⟩ := hs
    exact NX.fin (v := .tuple #[AG [[.slice a1 n1 c1], [.int .i64 x1], [.int .i64 x2]], .slice none 0 0]) (Res.two rfl (RV.box (agg := true) (size := 3) (rs := [[.slice a1 n1 c1], [.int .i64 x1], [.int .i64 x2]]) hB2 (by kernel_rfl) (by kernel_rfl) (by kernel_rfl) (by kernel_rfl)) (RV.tmp (by kernel_rfl))) tot htL ⟨a1, n1, c1, none, 0, 0, rfl, hR1, (OwnS.nil _ _ _ _)⟩
  replace hs := of_if_f hs h1
  refine CP.skip ?_
  refine NX.then_n ?_
  refine CP.seqR ?_
  refine WP.loadB (v := AG [[.slice a1 n1 c1], [.int .i64 x1], [.int .i64 x2]]) hB1 (by kernel_rfl) (by kernel_rfl) ?_
  replace hs := Option.bind_eq_some_iff.1 hs
  obtain ⟨⟨l2, x4, x5, x6⟩, hk1, hs⟩ := hs
  dsimp only at hs
  have hcal1 := P.baizeref01_Read g2 l1 x1 x2 18446744073709551615 a1 n1 c1 hR1 l2 x4 x5 x6 hk1
  refine WP.callC hcal1 (by kernel_rfl) ?_
  rintro _ g4 st4 ⟨a2, n2, c2, rfl, hR2⟩
  replace hB1 := hB1.mono st4 (fun x => x)
  replace hR1 := hR1.mono st4 (fun x => x)
  replace hB2 := hB2.mono st4 (fun x => x)
  replace tot := tot.trans st4.pure
  refine WP.still 3 (by kernel_rfl) ?_
  refine WP.alloc (T := 74) (t + 3) [[.slice none 0 0], [.int .i64 0], [.int .i64 0]] [1, 1, 1] (by kernel_rfl) rfl ?_
  intro g5 b3 st5 hB4
  replace hB1 := hB1.mono st5 (fun x => x)
  replace hR1 := hR1.mono st5 (fun x => x)
  replace hB2 := hB2.mono st5 (fun x => x)
  replace hR2 := hR2.mono st5 (fun x => x)
  replace tot := tot.trans st5.pure
  refine WP.storeB (ty := 74) (off := 0) (v := AG [[.slice a2 n2 c2], [.int .i64 x4], [.int .i64 x5]]) hB4 [[.slice a2 n2 c2], [.int .i64 x4], [.int .i64 x5]] [1, 1, 1] (by kernel_rfl) (by kernel_rfl) rfl (by kernel_rfl) [[.slice a2 n2 c2], [.int .i64 x4], [.int .i64 x5]] (by kernel_rfl) (.one rfl (.one rfl (.one rfl .nil))) ?_
  intro g6 st6 hB5
  replace hB1 := hB1.mono st6 (WL.no1 (by omega))
  replace hR1 := hR1.mono st6 (WL.no1 (by omega))
  replace hB2 := hB2.mono st6 (WL.no1 (by omega))
  replace hR2 := hR2.mono st6 (WL.no1 (by omega))
  replace tot := tot.trans (st6.up1 (.inr (by omega)))
  clear hB4
  have hB4 := hB5
  clear hB5
  refine WP.still 1 (by kernel_rfl) ?_
  refine WP.done (by kernel_rfl) ?_
  refine NX.then_n ?_
  refine CP.refr 64 [(1, .int .i64 x3), (2, .pointer (some ⟨b1, 0, none⟩)), (4, .pointer (some ⟨b2, 0, none⟩)), (6, .pointer (some ⟨b3, 0, none⟩)), (7, .int .u64 x6)] (by kernel_rfl) (by kernel_rfl) ?_
  clear ds
  intro ds
  refine CP.seq ?_
  refine CP.seqR ?_
  refine WP.still 1 (by kernel_rfl) ?_
  refine WP.loadB (v := .int .i64 x5) hB4 (by kernel_rfl) (by kernel_rfl) ?_
  refine WP.still 1 (by kernel_rfl) ?_
  refine WP.done (by kernel_rfl) ?_
  refine NX.then_n ?_
  refine CP.cond (b := (x5 != 0)) (by kernel_rfl) (fun h2 => ?_) (fun h2 => ?_)
  · replace hs := of_if_t hs h2
    refine CP.seqR ?_
    refine WP.loadB (v := AG [[.slice a1 n1 c1], [.int .i64 x1], [.int .i64 x2]]) hB1 (by kernel_rfl) (by kernel_rfl) ?_
    refine WP.still 1 (by kernel_rfl) ?_
    refine WP.loadB (v := .int .i64 x5) hB4 (by kernel_rfl) (by kernel_rfl) ?_
    replace hs := Option.bind_eq_some_iff.1 hs
    obtain ⟨⟨l3, x7, x8⟩, hk2, hs⟩ := hs
    dsimp only at hs
    have hcal2 := P.baizeref01_Fail g6 l1 x1 x2 x5 a1 n1 c1 hR1 l3 x7 x8 hk2
    refine WP.callC hcal2 (by kernel_rfl) ?_
    rintro _ g7 st7 ⟨a3, n3, c3, rfl, hR3⟩
    replace hB1 := hB1.mono st7 (fun x => x)
    replace hR1 := hR1.mono st7 (fun x => x)
    replace hB2 := hB2.mono st7 (fun x => x)
    replace hB4 := hB4.mono st7 (fun x => x)
    replace hR2 := hR2.mono st7 (fun x => x)
    replace tot := tot.trans st7.pure
    refine WP.storeB (ty := 74) (off := 0) (v := AG [[.slice a3 n3 c3], [.int .i64 x7], [.int .i64 x8]]) hB2 [[.slice a3 n3 c3], [.int .i64 x7], [.int .i64 x8]] [1, 1, 1] (by kernel_rfl) (by kernel_rfl) rfl (by kernel_rfl) [[.slice a3 n3 c3], [.int .i64 x7], [.int .i64 x8]] (by kernel_rfl) (.one rfl (.one rfl (.one rfl .nil))) ?_
    intro g8 st8 hB6
    replace hB1 := hB1.mono st8 (WL.no1 (by omega))
    replace hR1 := hR1.mono st8 (WL.no1 (by omega))
    replace hR3 := hR3.mono st8 (WL.no1 (by omega))
    replace hB4 := hB4.mono st8 (WL.no1 (by omega))
    replace hR2 := hR2.mono st8 (WL.no1 (by omega))
    replace tot := tot.trans (st8.up1 (.inr (by omega)))
    clear hB2
    have hB2 := hB6
    clear hB6
    refine WP.still 1 (by kernel_rfl) ?_
    refine WP.done (by kernel_rfl) ?_
    refine NX.then_n ?_
    refine CP.ret ?_
    refine NX.then_r ?_
    replace hs := Option.some.inj hs
    simp only [Prod.mk.injEq] at hs
    obtain ⟨rfl, rfl, rfl, rfl⟩ := hs
    exact NX.fin (v := .tuple #[AG [[.slice a3 n3 c3], [.int .i64 x7], [.int .i64 x8]], .slice none 0 0]) (Res.two rfl (RV.box (agg := true) (size := 3) (rs := [[.slice a3 n3 c3], [.int .i64 x7], [.int .i64 x8]]) hB2 (by kernel_rfl) (by kernel_rfl) (by kernel_rfl) (by kernel_rfl)) (RV.tmp (by kernel_rfl))) tot htL ⟨a3, n3, c3, none, 0, 0, rfl, hR3, (OwnS.nil _ _ _ _)⟩
  replace hs := of_if_f hs h2
  refine CP.skip ?_
  refine NX.then_n ?_
  refine CP.cut (fun tm g => ∃ (x9 : Int), Fr 64 [(1, .int .i64 x9), (2, .pointer (some ⟨b1, 0, none⟩)), (4, .pointer (some ⟨b2, 0, none⟩)), (6, .pointer (some ⟨b3, 0, none⟩)), (7, .int .u64 x6)] tm ∧ Step (fun l => NoM l ∨ t ≤ l) g0 g ∧ Box g (t + 1) b1 74 [[.slice a1 n1 c1], [.int .i64 x1], [.int .i64 x2]] [1, 1, 1] ∧ RdS (Kd.int .u8) g 5 a1 n1 c1 l1 ∧ Box g (t + 2) b2 74 [[.slice none 0 0], [.int .i64 0], [.int .i64 0]] [1, 1, 1] ∧ Box g (t + 3) b3 74 [[.slice a2 n2 c2], [.int .i64 x4], [.int .i64 x5]] [1, 1, 1] ∧ RdS (Kd.int .u8) g 5 a2 n2 c2 l2 ∧ (F.baizeref01_Some.c1 l1 x1 x2 l2 x4 x5 x6 x9) = some (o1, o2, o3, o4)) ?_ ?_
  · refine CP.seqR ?_
    refine WP.still 2 (by kernel_rfl) ?_
    refine WP.done (by kernel_rfl) ?_
    refine NX.then_n ?_
    refine CP.cond (b := decide (x3 < 0)) (by kernel_rfl) (fun h6 => ?_) (fun h6 => ?_)
    · replace hs := of_if_t hs h6
      refine CP.region ?_
      refine WP.still 1 (by kernel_rfl) ?_
      refine WP.done (by kernel_rfl) ?_
      refine NX.post ?_
      exact ⟨0, ⟨by kernel_rfl, by kernel_rfl⟩, tot, hB1, hR1, hB2, hB4, hR2, hs⟩
    replace hs := of_if_f hs h6
    refine CP.skip ?_
    refine NX.post ?_
    exact ⟨x3, ⟨by kernel_rfl, by kernel_rfl⟩, tot, hB1, hR1, hB2, hB4, hR2, hs⟩
  clear tot hs hB1 hR1 hB2 hB4 hR2
  rintro tm g ⟨x9, hF, tot, hB1, hR1, hB2, hB4, hR2, hs⟩
  clear ds
  obtain ⟨ds, rfl⟩ := hF.open
  clear hF
  unfold F.baizeref01_Some.c1 at hs
  refine CP.seq ?_
  refine CP.seqR ?_
  refine WP.still 4 (by kernel_rfl) ?_
  refine WP.done (by kernel_rfl) ?_
  refine NX.then_n ?_
  refine CP.cond (b := decide (x6 > (IntKind.u64.wrap x9))) (by kernel_rfl) (fun h4 => ?_) (fun h4 => ?_)
  · replace hs := of_if_t hs h4
    refine CP.seqR ?_
    refine WP.loadB (v := AG [[.slice a1 n1 c1], [.int .i64 x1], [.int .i64 x2]]) hB1 (by kernel_rfl) (by kernel_rfl) ?_
    replace hs := Option.bind_eq_some_iff.1 hs
    obtain ⟨⟨l4, x10, x11⟩, hk3, hs⟩ := hs
    dsimp only at hs
    have hcal3 := P.baizeref01_Fail g l1 x1 x2 2 a1 n1 c1 hR1 l4 x10 x11 hk3
    refine WP.callC hcal3 (by kernel_rfl) ?_
    rintro _ g9 st9 ⟨a4, n4, c4, rfl, hR4⟩
    replace hB1 := hB1.mono st9 (fun x => x)
    replace hR1 := hR1.mono st9 (fun x => x)
    replace hB2 := hB2.mono st9 (fun x => x)
    replace hB4 := hB4.mono st9 (fun x => x)
    replace hR2 := hR2.mono st9 (fun x => x)
    replace tot := tot.trans st9.pure
    refine WP.storeB (ty := 74) (off := 0) (v := AG [[.slice a4 n4 c4], [.int .i64 x10], [.int .i64 x11]]) hB2 [[.slice a4 n4 c4], [.int .i64 x10], [.int .i64 x11]] [1, 1, 1] (by kernel_rfl) (by kernel_rfl) rfl (by kernel_rfl) [[.slice a4 n4 c4], [.int .i64 x10], [.int .i64 x11]] (by kernel_rfl) (.one rfl (.one rfl (.one rfl .nil))) ?_
    intro g10 st10 hB7
    replace hB1 := hB1.mono st10 (WL.no1 (by omega))
    replace hR1 := hR1.mono st10 (WL.no1 (by omega))
    replace hR4 := hR4.mono st10 (WL.no1 (by omega))
    replace hB4 := hB4.mono st10 (WL.no1 (by omega))
    replace hR2 := hR2.mono st10 (WL.no1 (by omega))
    replace tot := tot.trans (st10.up1 (.inr (by omega)))
    clear hB2
    have hB2 := hB7
    clear hB7
    refine WP.still 1 (by kernel_rfl) ?_
    refine WP.done (by kernel_rfl) ?_
    refine NX.then_n ?_
    refine CP.ret ?_
    refine NX.then_r ?_
    replace hs := Option.some.inj hs
    simp only [Prod.mk.injEq] at hs
    obtain ⟨rfl, rfl, rfl, rfl⟩ := hs
    exact NX.fin (v := .tuple #[AG [[.slice a4 n4 c4], [.int .i64 x10], [.int .i64 x11]], .slice none 0 0]) (Res.two rfl (RV.box (agg := true) (size := 3) (rs := [[.slice a4 n4 c4], [.int .i64 x10], [.int .i64 x11]]) hB2 (by kernel_rfl) (by kernel_rfl) (by kernel_rfl) (by kernel_rfl)) (RV.tmp (by kernel_rfl))) tot htL ⟨a4, n4, c4, none, 0, 0, rfl, hR4, (OwnS.nil _ _ _ _)⟩
  replace hs := of_if_f hs h4
  refine CP.skip ?_
  refine NX.then_n ?_
  refine CP.seq ?_
  refine CP.seqR ?_
  refine WP.still 2 (by kernel_rfl) ?_
  refine WP.loadB (v := .slice a2 n2 c2) hB4 (by kernel_rfl) (by kernel_rfl) ?_
  refine WP.len (a := a2) (cp := c2) hR2.len (by kernel_rfl) ?_
  refine WP.still 1 (by kernel_rfl) ?_
  refine WP.loadB (v := .int .i64 x4) hB4 (by kernel_rfl) (by kernel_rfl) ?_
  refine WP.still 3 (by kernel_rfl) ?_
  refine WP.done (by kernel_rfl) ?_
  refine NX.then_n ?_
  refine CP.refr 64 [(2, .pointer (some ⟨b1, 0, none⟩)), (4, .pointer (some ⟨b2, 0, none⟩)), (6, .pointer (some ⟨b3, 0, none⟩)), (7, .int .u64 x6), (41, .bool (decide (x6 > (IntKind.u64.wrap (IntKind.i64.wrap ((l2.length : Int) - x4))))))] (by kernel_rfl) (by kernel_rfl) ?_
  clear ds
  intro ds
  refine CP.cond (b := decide (x6 > (IntKind.u64.wrap (IntKind.i64.wrap ((l2.length : Int) - x4))))) (by kernel_rfl) (fun h5 => ?_) (fun h5 => ?_)
  · replace hs := of_if_t hs h5
    refine CP.seqR ?_
    refine WP.loadB (v := AG [[.slice a1 n1 c1], [.int .i64 x1], [.int .i64 x2]]) hB1 (by kernel_rfl) (by kernel_rfl) ?_
    replace hs := Option.bind_eq_some_iff.1 hs
    obtain ⟨⟨l5, x12, x13⟩, hk4, hs⟩ := hs
    dsimp only at hs
    have hcal4 := P.baizeref01_Fail g l1 x1 x2 4 a1 n1 c1 hR1 l5 x12 x13 hk4
    refine WP.callC hcal4 (by kernel_rfl) ?_
    rintro _ g11 st11 ⟨a5, n5, c5, rfl, hR5⟩
    replace hB1 := hB1.mono st11 (fun x => x)
    replace hR1 := hR1.mono st11 (fun x => x)
    replace hB2 := hB2.mono st11 (fun x => x)
    replace hB4 := hB4.mono st11 (fun x => x)
    replace hR2 := hR2.mono st11 (fun x => x)
    replace tot := tot.trans st11.pure
    refine WP.storeB (ty := 74) (off := 0) (v := AG [[.slice a5 n5 c5], [.int .i64 x12], [.int .i64 x13]]) hB2 [[.slice a5 n5 c5], [.int .i64 x12], [.int .i64 x13]] [1, 1, 1] (by kernel_rfl) (by kernel_rfl) rfl (by kernel_rfl) [[.slice a5 n5 c5], [.int .i64 x12], [.int .i64 x13]] (by kernel_rfl) (.one rfl (.one rfl (.one rfl .nil))) ?_
    intro g12 st12 hB8
    replace hB1 := hB1.mono st12 (WL.no1 (by omega))
    replace hR1 := hR1.mono st12 (WL.no1 (by omega))
    replace hR5 := hR5.mono st12 (WL.no1 (by omega))
    replace hB4 := hB4.mono st12 (WL.no1 (by omega))
    replace hR2 := hR2.mono st12 (WL.no1 (by omega))
    replace tot := tot.trans (st12.up1 (.inr (by omega)))
    clear hB2
    have hB2 := hB8
    clear hB8
    refine WP.still 1 (by kernel_rfl) ?_
    refine WP.done (by kernel_rfl) ?_
    refine NX.then_n ?_
    refine CP.ret ?_
    refine NX.then_r ?_
    replace hs := Option.some.inj hs
    simp only [Prod.mk.injEq] at hs
    obtain ⟨rfl, rfl, rfl, rfl⟩ := hs
    exact NX.fin (v := .tuple #[AG [[.slice a5 n5 c5], [.int .i64 x12], [.int .i64 x13]], .slice none 0 0]) (Res.two rfl (RV.box (agg := true) (size := 3) (rs := [[.slice a5 n5 c5], [.int .i64 x12], [.int .i64 x13]]) hB2 (by kernel_rfl) (by kernel_rfl) (by kernel_rfl) (by kernel_rfl)) (RV.tmp (by kernel_rfl))) tot htL ⟨a5, n5, c5, none, 0, 0, rfl, hR5, (OwnS.nil _ _ _ _)⟩
  replace hs := of_if_f hs h5
  refine CP.skip ?_
  refine NX.then_n ?_
  refine CP.seqR ?_
  refine WP.mkSl (kd := (Kd.int .u8)) (t := 24) (e := 5) (bytes := 1) (t + 4) [] ([] : List Int) (by kernel_rfl) (by kernel_rfl) (Nat.le_of_ble_eq_true rfl) (Nat.le_of_ble_eq_true rfl) all_nil (rfl) rfl ?_
  intro g13 a6 st13 hR6
  replace hB2 := hB2.mono st13 (fun x => x)
  replace hB4 := hB4.mono st13 (fun x => x)
  replace hR2 := hR2.mono st13 (fun x => x)
  replace tot := tot.trans st13.pure
  refine WP.still 1 (by kernel_rfl) ?_
  refine WP.loadB (v := .slice a2 n2 c2) hB4 (by kernel_rfl) (by kernel_rfl) ?_
  refine WP.still 1 (by kernel_rfl) ?_
  refine WP.loadB (v := .int .i64 x4) hB4 (by kernel_rfl) (by kernel_rfl) ?_
  refine WP.still 1 (by kernel_rfl) ?_
  refine WP.loadB (v := .int .i64 x4) hB4 (by kernel_rfl) (by kernel_rfl) ?_
  refine WP.still 3 (by kernel_rfl) ?_
  by_cases hc1 : (0 : Int) ≤ x4 ∧ x4 ≤ (IntKind.i64.wrap (x4 + (IntKind.i64.wrap x6))) ∧ (IntKind.i64.wrap (x4 + (IntKind.i64.wrap x6))) ≤ (l2.length : Int)
  case neg => rw [if_neg hc1] at hs; cases hs
  replace hs := of_if_p hs hc1
  refine WP.sliceR (lo := some (.int .i64 x4)) (hi := some (.int .i64 (IntKind.i64.wrap (x4 + (IntKind.i64.wrap x6))))) hR2 x4 (IntKind.i64.wrap (x4 + (IntKind.i64.wrap x6))) (by kernel_rfl) (.inr ⟨_, rfl⟩) (.inr ⟨_, rfl⟩) hc1 ?_
  intro a7 c6 hR7
  by_cases hc2 : ([] : List Int).length + (sliceI l2 x4 (IntKind.i64.wrap (x4 + (IntKind.i64.wrap x6)))).length ≤ 140737488355328
  case neg => rw [if_neg hc2] at hs; cases hs
  replace hs := of_if_p hs hc2
  refine WP.append (kd := (Kd.int .u8)) (t := 24) (e := 5) (bytes := 1) (a2 := a7) (c2 := c6) hR6 hR7.src hR7.len (by kernel_rfl) (by kernel_rfl) (by omega) (by simp only [maxLen]; omega) (by omega) ?_
  intro g14 a8 c7 st14 hR8
  replace hB2 := hB2.mono st14 (WL.no1 (by omega))
  replace hB4 := hB4.mono st14 (WL.no1 (by omega))
  replace hR2 := hR2.mono st14 (WL.no1 (by omega))
  replace hR7 := hR7.mono st14 (WL.no1 (by omega))
  replace tot := tot.trans (st14.up1 (.inr (by omega)))
  refine WP.still 1 (by kernel_rfl) ?_
  refine WP.done (by kernel_rfl) ?_
  refine NX.then_n ?_
  refine CP.refr 64 [(4, .pointer (some ⟨b2, 0, none⟩)), (6, .pointer (some ⟨b3, 0, none⟩)), (7, .int .u64 x6), (8, .slice a8 (0 + ((IntKind.i64.wrap (x4 + (IntKind.i64.wrap x6))).toNat - x4.toNat)) c7)] (by kernel_rfl) (by kernel_rfl) ?_
  clear ds
  intro ds
  refine CP.seqR ?_
  refine WP.still 1 (by kernel_rfl) ?_
  refine WP.loadB (v := .int .i64 x4) hB4 (by kernel_rfl) (by kernel_rfl) ?_
  refine WP.still 4 (by kernel_rfl) ?_
  refine WP.storeB (ty := 3) (off := 1) (v := .int .i64 (IntKind.i64.wrap (x4 + (IntKind.i64.wrap x6)))) hB4 [[.int .i64 (IntKind.i64.wrap (x4 + (IntKind.i64.wrap x6)))]] [1] (by kernel_rfl) (by kernel_rfl) rfl (by kernel_rfl) [[.slice a2 n2 c2], [.int .i64 (IntKind.i64.wrap (x4 + (IntKind.i64.wrap x6)))], [.int .i64 x5]] (by kernel_rfl) (.one rfl .nil) ?_
  intro g15 st15 hB9
  replace hB2 := hB2.mono st15 (WL.no1 (by omega))
  replace hR2 := hR2.mono st15 (WL.no1 (by omega))
  replace hR8 := hR8.mono st15 (WL.no1 (by omega)) (WL.no1 (by omega))
  replace tot := tot.trans (st15.up1 (.inr (by omega)))
  clear hB4
  have hB4 := hB9
  clear hB9
  refine WP.done (by kernel_rfl) ?_
  refine NX.then_n ?_
  refine CP.seqR ?_
  refine WP.loadB (v := AG [[.slice a2 n2 c2], [.int .i64 (IntKind.i64.wrap (x4 + (IntKind.i64.wrap x6)))], [.int .i64 x5]]) hB4 (by kernel_rfl) (by kernel_rfl) ?_
  refine WP.still 1 (by kernel_rfl) ?_
  refine WP.storeB (ty := 74) (off := 0) (v := AG [[.slice a2 n2 c2], [.int .i64 (IntKind.i64.wrap (x4 + (IntKind.i64.wrap x6)))], [.int .i64 x5]]) hB2 [[.slice a2 n2 c2], [.int .i64 (IntKind.i64.wrap (x4 + (IntKind.i64.wrap x6)))], [.int .i64 x5]] [1, 1, 1] (by kernel_rfl) (by kernel_rfl) rfl (by kernel_rfl) [[.slice a2 n2 c2], [.int .i64 (IntKind.i64.wrap (x4 + (IntKind.i64.wrap x6)))], [.int .i64 x5]] (by kernel_rfl) (.one rfl (.one rfl (.one rfl .nil))) ?_
  intro g16 st16 hB10
  replace hR2 := hR2.mono st16 (WL.no1 (by omega))
  replace hB4 := hB4.mono st16 (WL.no1 (by omega))
  replace hR8 := hR8.mono st16 (WL.no1 (by omega)) (WL.no1 (by omega))
  replace tot := tot.trans (st16.up1 (.inr (by omega)))
  clear hB2
  have hB2 := hB10
  clear hB10
  refine WP.still 1 (by kernel_rfl) ?_
  refine WP.done (by kernel_rfl) ?_
  refine NX.then_n ?_
  refine CP.ret ?_
  obtain ⟨g17, hw1, st17, hnew⟩ := hR8.relab (by omega) r0
  refine NX.regw hw1 ?_
  replace hB2 := hB2.mono st17 (WL.no1 (by omega))
  replace hR2 := hR2.mono st17 (WL.no1 (by omega))
  replace tot := tot.trans (st17.up1 (.inr (by omega)))
  clear hR8
  have hR8 := hnew
  clear hnew
  replace hs := Option.some.inj hs
  simp only [Prod.mk.injEq] at hs
  obtain ⟨rfl, rfl, rfl, rfl⟩ := hs
  exact NX.fin (v := .tuple #[AG [[.slice a2 n2 c2], [.int .i64 (IntKind.i64.wrap (x4 + (IntKind.i64.wrap x6)))], [.int .i64 x5]], .slice a8 (0 + ((IntKind.i64.wrap (x4 + (IntKind.i64.wrap x6))).toNat - x4.toNat)) c7]) (Res.two rfl (RV.box (agg := true) (size := 3) (rs := [[.slice a2 n2 c2], [.int .i64 (IntKind.i64.wrap (x4 + (IntKind.i64.wrap x6)))], [.int .i64 x5]]) hB2 (by kernel_rfl) (by kernel_rfl) (by kernel_rfl) (by kernel_rfl)) (RV.tmp (by kernel_rfl))) tot htL ⟨a2, n2, c2, a8, (0 + ((IntKind.i64.wrap (x4 + (IntKind.i64.wrap x6))).toNat - x4.toNat)), c7, rfl, hR2, hR8⟩
def F.baizeref01_End.c1 (x2 : Int) (q1 : Bool) : Option (Int) := (if q1 = true then (some 5) else (some x2))
def F.baizeref01_End (l1 : List Int) (x1 : Int) (x2 : Int) : Option (Int) := (if (x2 == 0) = true then (F.baizeref01_End.c1 x2 (decide (x1 < (l1.length : Int)))) else (F.baizeref01_End.c1 x2 false))
theorem P.baizeref01_End (g0 : GW) (l1 : List Int) (x1 : Int) (x2 : Int) (a1 : Option Addr) (n1 : Nat) (c1 : Nat) (hR1 : RdS (Kd.int .u8) g0 5 a1 n1 c1 l1) (o1 : Int) (hs : F.baizeref01_End l1 x1 x2 = some o1) :
    Calls Try.prog 49 #[AG [[.slice a1 n1 c1], [.int .i64 x1], [.int .i64 x2]]] g0.w (Ret NoM g0 fun v g => v = .int .i64 o1) := by
  refine calls_of (args := [AG [[.slice a1 n1 c1], [.int .i64 x1], [.int .i64 x2]]]) Try.func49 rfl (0) ?_
  intro t ht htL
  refine ⟨_, rfl, ?_⟩
  refine CP.refr 16 [(0, AG [[.slice a1 n1 c1], [.int .i64 x1], [.int .i64 x2]])] (by kernel_rfl) (by kernel_rfl) ?_
  intro ds
  have tot : Step (fun l => NoM l ∨ t ≤ l) g0 g0 := Step.refl _ _
  unfold F.baizeref01_End at hs
  refine CP.seqR ?_
  refine WP.alloc (T := 74) (t + 1) [[.slice a1 n1 c1], [.int .i64 x1], [.int .i64 x2]] [1, 1, 1] (by kernel_rfl) rfl ?_
  intro g1 b1 st1 hB1
  replace hR1 := hR1.mono st1 (fun x => x)
  replace tot := tot.trans st1.pure
  refine WP.still 1 (by kernel_rfl) ?_
  refine WP.done (by kernel_rfl) ?_
  refine NX.then_n ?_
  refine CP.seq ?_
  refine CP.cut (fun tm g => ∃ (q1 : Bool), Fr 16 [(1, .pointer (some ⟨b1, 0, none⟩)), (13, .bool q1)] tm ∧ Step (fun l => NoM l ∨ t ≤ l) g0 g ∧ Box g (t + 1) b1 74 [[.slice a1 n1 c1], [.int .i64 x1], [.int .i64 x2]] [1, 1, 1] ∧ RdS (Kd.int .u8) g 5 a1 n1 c1 l1 ∧ (F.baizeref01_End.c1 x2 q1) = some o1) ?_ ?_
  · refine CP.region ?_
    refine WP.still 1 (by kernel_rfl) ?_
    refine WP.loadB (v := .int .i64 x2) hB1 (by kernel_rfl) (by kernel_rfl) ?_
    refine WP.still 2 (by kernel_rfl) ?_
    refine WP.guard 6 (b := (x2 == 0)) (by kernel_rfl) (fun h3 => ?_) (fun h3 => ?_)
    · replace hs := of_if_t hs h3
      refine WP.still 1 (by kernel_rfl) ?_
      refine WP.loadB (v := .int .i64 x1) hB1 (by kernel_rfl) (by kernel_rfl) ?_
      refine WP.still 1 (by kernel_rfl) ?_
      refine WP.loadB (v := .slice a1 n1 c1) hB1 (by kernel_rfl) (by kernel_rfl) ?_
      refine WP.len (a := a1) (cp := c1) hR1.len (by kernel_rfl) ?_
      refine WP.still 2 (by kernel_rfl) ?_
      refine WP.done (by kernel_rfl) ?_
      refine NX.post ?_
      exact ⟨decide (x1 < (l1.length : Int)), ⟨by kernel_rfl, by kernel_rfl⟩, tot, hB1, hR1, hs⟩
    replace hs := of_if_f hs h3
    refine WP.still 7 (by kernel_rfl) ?_
    refine WP.done (by kernel_rfl) ?_
    refine NX.post ?_
    exact ⟨false, ⟨by kernel_rfl, by kernel_rfl⟩, tot, hB1, hR1, hs⟩
  clear tot hs hB1 hR1
  rintro tm g ⟨q1, hF, tot, hB1, hR1, hs⟩
  clear ds
  obtain ⟨ds, rfl⟩ := hF.open
  clear hF
  unfold F.baizeref01_End.c1 at hs
  refine CP.cond (b := q1) (by kernel_rfl) (fun h2 => ?_) (fun h2 => ?_)
  · replace hs := of_if_t hs h2
    refine CP.seqR ?_
    refine WP.still 1 (by kernel_rfl) ?_
    refine WP.done (by kernel_rfl) ?_
    refine NX.then_n ?_
    refine CP.ret ?_
    refine NX.then_r ?_
    replace hs := Option.some.inj hs
    obtain rfl := hs
    exact NX.fin (v := .int .i64 5) (Res.still (by kernel_rfl)) tot htL rfl
  replace hs := of_if_f hs h2
  refine CP.skip ?_
  refine NX.then_n ?_
  refine CP.seqR ?_
  refine WP.still 1 (by kernel_rfl) ?_
  refine WP.loadB (v := .int .i64 x2) hB1 (by kernel_rfl) (by kernel_rfl) ?_
  refine WP.still 1 (by kernel_rfl) ?_
  refine WP.done (by kernel_rfl) ?_
  refine NX.then_n ?_
  refine CP.ret ?_
  replace hs := Option.some.inj hs
  obtain rfl := hs
  exact NX.fin (v := .int .i64 x2) (Res.still (by kernel_rfl)) tot htL rfl
def F.baizeref25_Check.c1 (d1 : Arr Int 8) (x1 : Int) (x2 : Int) (x3 : Int) (l1 : List Int) (l2 : List Int) (q1 : Bool) : Option (Int) := (if q1 = true then (some 2) else (if (x3 == 0) = true then ((F.baizeref25_Paid d1 x1 x2 x3 l1 l2).bind fun (d2, x4, x5) => (some x5)) else (some 0)))
def F.baizeref25_Check (d1 : Arr Int 8) (x1 : Int) (x2 : Int) (x3 : Int) (l1 : List Int) (l2 : List Int) : Option (Int) := (if decide (x1 < 0) = true then (F.baizeref25_Check.c1 d1 x1 x2 x3 l1 l2 true) else (if decide (x1 > 1099511627776) = true then (F.baizeref25_Check.c1 d1 x1 x2 x3 l1 l2 true) else (if decide (x2 < 0) = true then (F.baizeref25_Check.c1 d1 x1 x2 x3 l1 l2 true) else (if decide (x2 > 1125899906842624) = true then (F.baizeref25_Check.c1 d1 x1 x2 x3 l1 l2 true) else (if decide (x3 < 0) = true then (F.baizeref25_Check.c1 d1 x1 x2 x3 l1 l2 true) else (if decide (x3 > 2) = true then (F.baizeref25_Check.c1 d1 x1 x2 x3 l1 l2 true) else (if decide ((l1.length : Int) > 32768) = true then (F.baizeref25_Check.c1 d1 x1 x2 x3 l1 l2 true) else (F.baizeref25_Check.c1 d1 x1 x2 x3 l1 l2 (decide ((l2.length : Int) > 1024))))))))))
theorem P.baizeref25_Check (g0 : GW) (d1 : Arr Int 8) (x1 : Int) (x2 : Int) (x3 : Int) (l1 : List Int) (l2 : List Int) (a1 : Option Addr) (n1 : Nat) (c1 : Nat) (a2 : Option Addr) (n2 : Nat) (c2 : Nat) (hR1 : RdS (Kd.int .u8) g0 5 a1 n1 c1 l1) (hR2 : RdS (Kd.int .u8) g0 5 a2 n2 c2 l2) (o1 : Int) (hs : F.baizeref25_Check d1 x1 x2 x3 l1 l2 = some o1) :
    Calls Try.prog 25 #[AG [encA .u8 d1, [.int .i64 x1], [.int .i64 x2], [.int .i64 x3], [.slice a1 n1 c1], [.slice a2 n2 c2]]] g0.w (Ret NoM g0 fun v g => v = .int .i64 o1) := by
  refine calls_of (args := [AG [encA .u8 d1, [.int .i64 x1], [.int .i64 x2], [.int .i64 x3], [.slice a1 n1 c1], [.slice a2 n2 c2]]]) Try.func25 rfl (0) ?_
  intro t ht htL
  refine ⟨_, rfl, ?_⟩
  refine CP.refr 56 [(0, AG [encA .u8 d1, [.int .i64 x1], [.int .i64 x2], [.int .i64 x3], [.slice a1 n1 c1], [.slice a2 n2 c2]])] (by kernel_rfl) (by kernel_rfl) ?_
  intro ds
  have tot : Step (fun l => NoM l ∨ t ≤ l) g0 g0 := Step.refl _ _
  unfold F.baizeref25_Check at hs
  refine CP.seqR ?_
  refine WP.alloc (T := 34) (t + 1) [encA .u8 d1, [.int .i64 x1], [.int .i64 x2], [.int .i64 x3], [.slice a1 n1 c1], [.slice a2 n2 c2]] [8, 1, 1, 1, 1, 1] (by kernel_rfl) (by simp [len_encA]) ?_
  intro g1 b1 st1 hB1
  replace hR1 := hR1.mono st1 (fun x => x)
  replace hR2 := hR2.mono st1 (fun x => x)
  replace tot := tot.trans st1.pure
  refine WP.still 1 (by kernel_rfl) ?_
  refine WP.done (by kernel_rfl) ?_
  refine NX.then_n ?_
  refine CP.seq ?_
  refine CP.cut (fun tm g => ∃ (q1 : Bool), Fr 56 [(1, .pointer (some ⟨b1, 0, none⟩)), (45, .bool q1)] tm ∧ Step (fun l => NoM l ∨ t ≤ l) g0 g ∧ Box g (t + 1) b1 34 [encA .u8 d1, [.int .i64 x1], [.int .i64 x2], [.int .i64 x3], [.slice a1 n1 c1], [.slice a2 n2 c2]] [8, 1, 1, 1, 1, 1] ∧ RdS (Kd.int .u8) g 5 a1 n1 c1 l1 ∧ RdS (Kd.int .u8) g 5 a2 n2 c2 l2 ∧ (F.baizeref25_Check.c1 d1 x1 x2 x3 l1 l2 q1) = some o1) ?_ ?_
  · refine CP.region ?_
    refine WP.still 1 (by kernel_rfl) ?_
    refine WP.loadB (v := .int .i64 x1) hB1 (by kernel_rfl) (by kernel_rfl) ?_
    refine WP.still 2 (by kernel_rfl) ?_
    refine WP.guard 9 (b := decide (x1 < 0)) (by kernel_rfl) (fun h10 => ?_) (fun h10 => ?_)
    · replace hs := of_if_t hs h10
      refine WP.still 36 (by kernel_rfl) ?_
      refine WP.done (by kernel_rfl) ?_
      refine NX.post ?_
      exact ⟨true, ⟨by kernel_rfl, by kernel_rfl⟩, tot, hB1, hR1, hR2, hs⟩
    replace hs := of_if_f hs h10
    refine WP.still 1 (by kernel_rfl) ?_
    refine WP.loadB (v := .int .i64 x1) hB1 (by kernel_rfl) (by kernel_rfl) ?_
    refine WP.still 3 (by kernel_rfl) ?_
    refine WP.guard 14 (b := decide (x1 > 1099511627776)) (by kernel_rfl) (fun h11 => ?_) (fun h11 => ?_)
    · replace hs := of_if_t hs h11
      refine WP.still 31 (by kernel_rfl) ?_
      refine WP.done (by kernel_rfl) ?_
      refine NX.post ?_
      exact ⟨true, ⟨by kernel_rfl, by kernel_rfl⟩, tot, hB1, hR1, hR2, hs⟩
    replace hs := of_if_f hs h11
    refine WP.still 1 (by kernel_rfl) ?_
    refine WP.loadB (v := .int .i64 x2) hB1 (by kernel_rfl) (by kernel_rfl) ?_
    refine WP.still 3 (by kernel_rfl) ?_
    refine WP.guard 19 (b := decide (x2 < 0)) (by kernel_rfl) (fun h12 => ?_) (fun h12 => ?_)
    · replace hs := of_if_t hs h12
      refine WP.still 26 (by kernel_rfl) ?_
      refine WP.done (by kernel_rfl) ?_
      refine NX.post ?_
      exact ⟨true, ⟨by kernel_rfl, by kernel_rfl⟩, tot, hB1, hR1, hR2, hs⟩
    replace hs := of_if_f hs h12
    refine WP.still 1 (by kernel_rfl) ?_
    refine WP.loadB (v := .int .i64 x2) hB1 (by kernel_rfl) (by kernel_rfl) ?_
    refine WP.still 3 (by kernel_rfl) ?_
    refine WP.guard 24 (b := decide (x2 > 1125899906842624)) (by kernel_rfl) (fun h13 => ?_) (fun h13 => ?_)
    · replace hs := of_if_t hs h13
      refine WP.still 21 (by kernel_rfl) ?_
      refine WP.done (by kernel_rfl) ?_
      refine NX.post ?_
      exact ⟨true, ⟨by kernel_rfl, by kernel_rfl⟩, tot, hB1, hR1, hR2, hs⟩
    replace hs := of_if_f hs h13
    refine WP.still 1 (by kernel_rfl) ?_
    refine WP.loadB (v := .int .i64 x3) hB1 (by kernel_rfl) (by kernel_rfl) ?_
    refine WP.still 3 (by kernel_rfl) ?_
    refine WP.guard 29 (b := decide (x3 < 0)) (by kernel_rfl) (fun h14 => ?_) (fun h14 => ?_)
    · replace hs := of_if_t hs h14
      refine WP.still 16 (by kernel_rfl) ?_
      refine WP.done (by kernel_rfl) ?_
      refine NX.post ?_
      exact ⟨true, ⟨by kernel_rfl, by kernel_rfl⟩, tot, hB1, hR1, hR2, hs⟩
    replace hs := of_if_f hs h14
    refine WP.still 1 (by kernel_rfl) ?_
    refine WP.loadB (v := .int .i64 x3) hB1 (by kernel_rfl) (by kernel_rfl) ?_
    refine WP.still 3 (by kernel_rfl) ?_
    refine WP.guard 34 (b := decide (x3 > 2)) (by kernel_rfl) (fun h15 => ?_) (fun h15 => ?_)
    · replace hs := of_if_t hs h15
      refine WP.still 11 (by kernel_rfl) ?_
      refine WP.done (by kernel_rfl) ?_
      refine NX.post ?_
      exact ⟨true, ⟨by kernel_rfl, by kernel_rfl⟩, tot, hB1, hR1, hR2, hs⟩
    replace hs := of_if_f hs h15
    refine WP.still 1 (by kernel_rfl) ?_
    refine WP.loadB (v := .slice a1 n1 c1) hB1 (by kernel_rfl) (by kernel_rfl) ?_
    refine WP.len (a := a1) (cp := c1) hR1.len (by kernel_rfl) ?_
    refine WP.still 3 (by kernel_rfl) ?_
    refine WP.guard 40 (b := decide ((l1.length : Int) > 32768)) (by kernel_rfl) (fun h16 => ?_) (fun h16 => ?_)
    · replace hs := of_if_t hs h16
      refine WP.still 5 (by kernel_rfl) ?_
      refine WP.done (by kernel_rfl) ?_
      refine NX.post ?_
      exact ⟨true, ⟨by kernel_rfl, by kernel_rfl⟩, tot, hB1, hR1, hR2, hs⟩
    replace hs := of_if_f hs h16
    refine WP.still 1 (by kernel_rfl) ?_
    refine WP.loadB (v := .slice a2 n2 c2) hB1 (by kernel_rfl) (by kernel_rfl) ?_
    refine WP.len (a := a2) (cp := c2) hR2.len (by kernel_rfl) ?_
    refine WP.still 2 (by kernel_rfl) ?_
    refine WP.done (by kernel_rfl) ?_
    refine NX.post ?_
    exact ⟨decide ((l2.length : Int) > 1024), ⟨by kernel_rfl, by kernel_rfl⟩, tot, hB1, hR1, hR2, hs⟩
  clear tot hs hB1 hR1 hR2
  rintro tm g ⟨q1, hF, tot, hB1, hR1, hR2, hs⟩
  clear ds
  obtain ⟨ds, rfl⟩ := hF.open
  clear hF
  unfold F.baizeref25_Check.c1 at hs
  refine CP.cond (b := q1) (by kernel_rfl) (fun h8 => ?_) (fun h8 => ?_)
  · replace hs := of_if_t hs h8
    refine CP.seqR ?_
    refine WP.still 1 (by kernel_rfl) ?_
    refine WP.done (by kernel_rfl) ?_
    refine NX.then_n ?_
    refine CP.ret ?_
    refine NX.then_r ?_
    replace hs := Option.some.inj hs
    obtain rfl := hs
    exact NX.fin (v := .int .i64 2) (Res.still (by kernel_rfl)) tot htL rfl
  replace hs := of_if_f hs h8
  refine CP.skip ?_
  refine NX.then_n ?_
  refine CP.seq ?_
  refine CP.seqR ?_
  refine WP.still 1 (by kernel_rfl) ?_
  refine WP.loadB (v := .int .i64 x3) hB1 (by kernel_rfl) (by kernel_rfl) ?_
  refine WP.still 1 (by kernel_rfl) ?_
  refine WP.done (by kernel_rfl) ?_
  refine NX.then_n ?_
  refine CP.cond (b := (x3 == 0)) (by kernel_rfl) (fun h9 => ?_) (fun h9 => ?_)
  · replace hs := of_if_t hs h9
    refine CP.seqR ?_
    refine WP.loadB (v := AG [encA .u8 d1, [.int .i64 x1], [.int .i64 x2], [.int .i64 x3], [.slice a1 n1 c1], [.slice a2 n2 c2]]) hB1 (by kernel_rfl) (by kernel_rfl) ?_
    replace hs := Option.bind_eq_some_iff.1 hs
    obtain ⟨⟨d2, x4, x5⟩, hk1, hs⟩ := hs
    dsimp only at hs
    have hcal1 := P.baizeref25_Paid g d1 x1 x2 x3 l1 l2 a1 n1 c1 a2 n2 c2 hR1 hR2 d2 x4 x5 hk1
    refine WP.callC hcal1 (by kernel_rfl) ?_
    rintro _ g2 st2 rfl
    replace hB1 := hB1.mono st2 (fun x => x)
    replace hR1 := hR1.mono st2 (fun x => x)
    replace hR2 := hR2.mono st2 (fun x => x)
    replace tot := tot.trans st2.pure
    refine WP.still 4 (by kernel_rfl) ?_
    refine WP.alloc (T := 22) (t + 2) [encA .u8 (zA 8)] [8] (by kernel_rfl) (by simp [len_encA]) ?_
    intro g3 b2 st3 hB2
    replace hB1 := hB1.mono st3 (fun x => x)
    replace hR1 := hR1.mono st3 (fun x => x)
    replace hR2 := hR2.mono st3 (fun x => x)
    replace tot := tot.trans st3.pure
    refine WP.storeB (ty := 22) (off := 0) (v := AG [encA .u8 d2]) hB2 [encA .u8 d2] [8] (by kernel_rfl) (by kernel_rfl) (by simp [len_encA]) (by kernel_rfl) [encA .u8 d2] (by kernel_rfl) (.arr .nil) ?_
    intro g4 st4 hB3
    replace hB1 := hB1.mono st4 (WL.no1 (by omega))
    replace hR1 := hR1.mono st4 (WL.no1 (by omega))
    replace hR2 := hR2.mono st4 (WL.no1 (by omega))
    replace tot := tot.trans (st4.up1 (.inr (by omega)))
    clear hB2
    have hB2 := hB3
    clear hB3
    refine WP.still 2 (by kernel_rfl) ?_
    refine WP.done (by kernel_rfl) ?_
    refine NX.then_n ?_
    refine CP.refr 56 [(5, .int .i64 x5)] (by kernel_rfl) (by kernel_rfl) ?_
    clear ds
    intro ds
    refine CP.seqR ?_
    refine WP.still 2 (by kernel_rfl) ?_
    refine WP.done (by kernel_rfl) ?_
    refine NX.then_n ?_
    refine CP.ret ?_
    refine NX.then_r ?_
    replace hs := Option.some.inj hs
    obtain rfl := hs
    exact NX.fin (v := .int .i64 x5) (Res.still (by kernel_rfl)) tot htL rfl
  replace hs := of_if_f hs h9
  refine CP.skip ?_
  refine NX.then_n ?_
  refine CP.seqR ?_
  refine WP.still 1 (by kernel_rfl) ?_
  refine WP.done (by kernel_rfl) ?_
  refine NX.then_n ?_
  refine CP.ret ?_
  replace hs := Option.some.inj hs
  obtain rfl := hs
  exact NX.fin (v := .int .i64 0) (Res.still (by kernel_rfl)) tot htL rfl
def F.baizeref25_Decode (l1 : List Int) : Option ((Arr Int 8) × Int × Int × Int × (List Int) × (List Int) × Int) := ((F.baizeref01_Read l1 0 0 2).bind fun (l2, x1, x2, x3) => ((F.baizeref01_Read l2 x1 x2 18446744073709551615).bind fun (l3, x4, x5, x6) => ((F.baizeref01_Read l3 x4 x5 1099511627776).bind fun (l4, x7, x8, x9) => ((F.baizeref01_Read l4 x7 x8 1125899906842624).bind fun (l5, x10, x11, x12) => ((F.baizeref01_Some l5 x10 x11 32768).bind fun (l6, x13, x14, l7) => ((F.baizeref01_Some l6 x13 x14 1024).bind fun (l8, x15, x16, l9) => ((F.baizeref01_End l8 x15 x16).bind fun x17 => (if (x17 != 0) = true then (some ((zA 8), 0, 0, 0, [], [], x17)) else ((F.baizeref02_FromNum x6).bind fun d1 => ((F.baizeref25_Check d1 (IntKind.i64.wrap x9) (IntKind.i64.wrap x12) (IntKind.i64.wrap x3) l7 l9).bind fun x18 => (if (x18 != 0) = true then (some ((zA 8), 0, 0, 0, [], [], x18)) else (some (d1, (IntKind.i64.wrap x9), (IntKind.i64.wrap x12), (IntKind.i64.wrap x3), l7, l9, 0)))))))))))))
theorem P.baizeref25_Decode (g0 : GW) (r0 : Nat) (r1 : Nat) (l1 : List Int) (a1 : Option Addr) (n1 : Nat) (c1 : Nat) (hR1 : RdS (Kd.int .u8) g0 5 a1 n1 c1 l1) (o1 : Arr Int 8) (o2 : Int) (o3 : Int) (o4 : Int) (o5 : List Int) (o6 : List Int) (o7 : Int) (hs : F.baizeref25_Decode l1 = some (o1, o2, o3, o4, o5, o6, o7)) :
    Calls Try.prog 24 #[.slice a1 n1 c1] g0.w (Ret NoM g0 fun v g => ∃ (a_1 : Option Addr) (n_1 : Nat) (c_1 : Nat) (a_4 : Option Addr) (n_4 : Nat) (c_4 : Nat), v = .tuple #[AG [encA .u8 o1, [.int .i64 o2], [.int .i64 o3], [.int .i64 o4], [.slice a_1 n_1 c_1], [.slice a_4 n_4 c_4]], .int .i64 o7] ∧ OwnS (Kd.int .u8) g r0 5 a_1 n_1 c_1 o5 ∧ OwnS (Kd.int .u8) g r1 5 a_4 n_4 c_4 o6) := by
  refine calls_of (args := [.slice a1 n1 c1]) Try.func24 rfl (r0 + r1 + 0) ?_
  intro t ht htL
  refine ⟨_, rfl, ?_⟩
  refine CP.refr 70 [(0, .slice a1 n1 c1)] (by kernel_rfl) (by kernel_rfl) ?_
  intro ds
  have tot : Step (fun l => NoM l ∨ t ≤ l) g0 g0 := Step.refl _ _
  unfold F.baizeref25_Decode at hs
  refine CP.seqR ?_
  refine WP.alloc (T := 34) (t + 1) [encA .u8 (zA 8), [.int .i64 0], [.int .i64 0], [.int .i64 0], [.slice none 0 0], [.slice none 0 0]] [8, 1, 1, 1, 1, 1] (by kernel_rfl) (by simp [len_encA]) ?_
  intro g1 b1 st1 hB1
  replace hR1 := hR1.mono st1 (fun x => x)
  replace tot := tot.trans st1.pure
  refine WP.still 1 (by kernel_rfl) ?_
  refine WP.done (by kernel_rfl) ?_
  refine NX.then_n ?_
  refine CP.seqR ?_
  refine WP.still 2 (by kernel_rfl) ?_
  refine WP.alloc (T := 74) (t + 2) [[.slice none 0 0], [.int .i64 0], [.int .i64 0]] [1, 1, 1] (by kernel_rfl) rfl ?_
  intro g2 b2 st2 hB2
  replace hR1 := hR1.mono st2 (fun x => x)
  replace hB1 := hB1.mono st2 (fun x => x)
  replace tot := tot.trans st2.pure
  refine WP.storeB (ty := 74) (off := 0) (v := AG [[.slice a1 n1 c1], [.int .i64 0], [.int .i64 0]]) hB2 [[.slice a1 n1 c1], [.int .i64 0], [.int .i64 0]] [1, 1, 1] (by kernel_rfl) (by kernel_rfl) rfl (by kernel_rfl) [[.slice a1 n1 c1], [.int .i64 0], [.int .i64 0]] (by kernel_rfl) (.one rfl (.one rfl (.one rfl .nil))) ?_
  intro g3 st3 hB3
  replace hR1 := hR1.mono st3 (WL.no1 (by omega))
  replace hB1 := hB1.mono st3 (WL.no1 (by omega))
  replace tot := tot.trans (st3.up1 (.inr (by omega)))
  clear hB2
  have hB2 := hB3
  clear hB3
  refine WP.done (by kernel_rfl) ?_
  refine NX.then_n ?_
  refine CP.seqR ?_
  refine WP.loadB (v := AG [[.slice a1 n1 c1], [.int .i64 0], [.int .i64 0]]) hB2 (by kernel_rfl) (by kernel_rfl) ?_
  replace hs := Option.bind_eq_some_iff.1 hs
  obtain ⟨⟨l2, x1, x2, x3⟩, hk1, hs⟩ := hs
  dsimp only at hs
  have hcal1 := P.baizeref01_Read g3 l1 0 0 2 a1 n1 c1 hR1 l2 x1 x2 x3 hk1
  refine WP.callC hcal1 (by kernel_rfl) ?_
  rintro _ g4 st4 ⟨a2, n2, c2, rfl, hR2⟩
  replace hB1 := hB1.mono st4 (fun x => x)
  replace hB2 := hB2.mono st4 (fun x => x)
  replace hR1 := hR1.mono st4 (fun x => x)
  replace tot := tot.trans st4.pure
  refine WP.still 3 (by kernel_rfl) ?_
  refine WP.storeB (ty := 74) (off := 0) (v := AG [[.slice a2 n2 c2], [.int .i64 x1], [.int .i64 x2]]) hB2 [[.slice a2 n2 c2], [.int .i64 x1], [.int .i64 x2]] [1, 1, 1] (by kernel_rfl) (by kernel_rfl) rfl (by kernel_rfl) [[.slice a2 n2 c2], [.int .i64 x1], [.int .i64 x2]] (by kernel_rfl) (.one rfl (.one rfl (.one rfl .nil))) ?_
  intro g5 st5 hB4
  replace hB1 := hB1.mono st5 (WL.no1 (by omega))
  replace hR2 := hR2.mono st5 (WL.no1 (by omega))
  replace hR1 := hR1.mono st5 (WL.no1 (by omega))
  replace tot := tot.trans (st5.up1 (.inr (by omega)))
  clear hB2
  have hB2 := hB4
  clear hB4
  refine WP.still 1 (by kernel_rfl) ?_
  refine WP.done (by kernel_rfl) ?_
  refine NX.then_n ?_
  refine CP.refr 70 [(2, .pointer (some ⟨b1, 0, none⟩)), (4, .pointer (some ⟨b2, 0, none⟩)), (5, .int .u64 x3)] (by kernel_rfl) (by kernel_rfl) ?_
  clear ds
  intro ds
  refine CP.seqR ?_
  refine WP.loadB (v := AG [[.slice a2 n2 c2], [.int .i64 x1], [.int .i64 x2]]) hB2 (by kernel_rfl) (by kernel_rfl) ?_
  replace hs := Option.bind_eq_some_iff.1 hs
  obtain ⟨⟨l3, x4, x5, x6⟩, hk2, hs⟩ := hs
  dsimp only at hs
  have hcal2 := P.baizeref01_Read g5 l2 x1 x2 18446744073709551615 a2 n2 c2 hR2 l3 x4 x5 x6 hk2
  refine WP.callC hcal2 (by kernel_rfl) ?_
  rintro _ g6 st6 ⟨a3, n3, c3, rfl, hR3⟩
  replace hB1 := hB1.mono st6 (fun x => x)
  replace hB2 := hB2.mono st6 (fun x => x)
  replace hR2 := hR2.mono st6 (fun x => x)
  replace tot := tot.trans st6.pure
  refine WP.still 3 (by kernel_rfl) ?_
  refine WP.storeB (ty := 74) (off := 0) (v := AG [[.slice a3 n3 c3], [.int .i64 x4], [.int .i64 x5]]) hB2 [[.slice a3 n3 c3], [.int .i64 x4], [.int .i64 x5]] [1, 1, 1] (by kernel_rfl) (by kernel_rfl) rfl (by kernel_rfl) [[.slice a3 n3 c3], [.int .i64 x4], [.int .i64 x5]] (by kernel_rfl) (.one rfl (.one rfl (.one rfl .nil))) ?_
  intro g7 st7 hB5
  replace hB1 := hB1.mono st7 (WL.no1 (by omega))
  replace hR3 := hR3.mono st7 (WL.no1 (by omega))
  replace hR2 := hR2.mono st7 (WL.no1 (by omega))
  replace tot := tot.trans (st7.up1 (.inr (by omega)))
  clear hB2
  have hB2 := hB5
  clear hB5
  refine WP.still 1 (by kernel_rfl) ?_
  refine WP.done (by kernel_rfl) ?_
  refine NX.then_n ?_
  refine CP.seqR ?_
  refine WP.loadB (v := AG [[.slice a3 n3 c3], [.int .i64 x4], [.int .i64 x5]]) hB2 (by kernel_rfl) (by kernel_rfl) ?_
  replace hs := Option.bind_eq_some_iff.1 hs
  obtain ⟨⟨l4, x7, x8, x9⟩, hk3, hs⟩ := hs
  dsimp only at hs
  have hcal3 := P.baizeref01_Read g7 l3 x4 x5 1099511627776 a3 n3 c3 hR3 l4 x7 x8 x9 hk3
  refine WP.callC hcal3 (by kernel_rfl) ?_
  rintro _ g8 st8 ⟨a4, n4, c4, rfl, hR4⟩
  replace hB1 := hB1.mono st8 (fun x => x)
  replace hB2 := hB2.mono st8 (fun x => x)
  replace hR3 := hR3.mono st8 (fun x => x)
  replace tot := tot.trans st8.pure
  refine WP.still 3 (by kernel_rfl) ?_
  refine WP.storeB (ty := 74) (off := 0) (v := AG [[.slice a4 n4 c4], [.int .i64 x7], [.int .i64 x8]]) hB2 [[.slice a4 n4 c4], [.int .i64 x7], [.int .i64 x8]] [1, 1, 1] (by kernel_rfl) (by kernel_rfl) rfl (by kernel_rfl) [[.slice a4 n4 c4], [.int .i64 x7], [.int .i64 x8]] (by kernel_rfl) (.one rfl (.one rfl (.one rfl .nil))) ?_
  intro g9 st9 hB6
  replace hB1 := hB1.mono st9 (WL.no1 (by omega))
  replace hR4 := hR4.mono st9 (WL.no1 (by omega))
  replace hR3 := hR3.mono st9 (WL.no1 (by omega))
  replace tot := tot.trans (st9.up1 (.inr (by omega)))
  clear hB2
  have hB2 := hB6
  clear hB6
  refine WP.still 1 (by kernel_rfl) ?_
  refine WP.done (by kernel_rfl) ?_
  refine NX.then_n ?_
  refine CP.refr 70 [(2, .pointer (some ⟨b1, 0, none⟩)), (4, .pointer (some ⟨b2, 0, none⟩)), (5, .int .u64 x3), (6, .int .u64 x6), (7, .int .u64 x9)] (by kernel_rfl) (by kernel_rfl) ?_
  clear ds
  intro ds
  refine CP.seqR ?_
  refine WP.loadB (v := AG [[.slice a4 n4 c4], [.int .i64 x7], [.int .i64 x8]]) hB2 (by kernel_rfl) (by kernel_rfl) ?_
  replace hs := Option.bind_eq_some_iff.1 hs
  obtain ⟨⟨l5, x10, x11, x12⟩, hk4, hs⟩ := hs
  dsimp only at hs
  have hcal4 := P.baizeref01_Read g9 l4 x7 x8 1125899906842624 a4 n4 c4 hR4 l5 x10 x11 x12 hk4
  refine WP.callC hcal4 (by kernel_rfl) ?_
  rintro _ g10 st10 ⟨a5, n5, c5, rfl, hR5⟩
  replace hB1 := hB1.mono st10 (fun x => x)
  replace hB2 := hB2.mono st10 (fun x => x)
  replace hR4 := hR4.mono st10 (fun x => x)
  replace tot := tot.trans st10.pure
  refine WP.still 3 (by kernel_rfl) ?_
  refine WP.storeB (ty := 74) (off := 0) (v := AG [[.slice a5 n5 c5], [.int .i64 x10], [.int .i64 x11]]) hB2 [[.slice a5 n5 c5], [.int .i64 x10], [.int .i64 x11]] [1, 1, 1] (by kernel_rfl) (by kernel_rfl) rfl (by kernel_rfl) [[.slice a5 n5 c5], [.int .i64 x10], [.int .i64 x11]] (by kernel_rfl) (.one rfl (.one rfl (.one rfl .nil))) ?_
  intro g11 st11 hB7
  replace hB1 := hB1.mono st11 (WL.no1 (by omega))
  replace hR5 := hR5.mono st11 (WL.no1 (by omega))
  replace hR4 := hR4.mono st11 (WL.no1 (by omega))
  replace tot := tot.trans (st11.up1 (.inr (by omega)))
  clear hB2
  have hB2 := hB7
  clear hB7
  refine WP.still 1 (by kernel_rfl) ?_
  refine WP.done (by kernel_rfl) ?_
  refine NX.then_n ?_
  refine CP.seqR ?_
  refine WP.loadB (v := AG [[.slice a5 n5 c5], [.int .i64 x10], [.int .i64 x11]]) hB2 (by kernel_rfl) (by kernel_rfl) ?_
  replace hs := Option.bind_eq_some_iff.1 hs
  obtain ⟨⟨l6, x13, x14, l7⟩, hk5, hs⟩ := hs
  dsimp only at hs
  have hcal5 := P.baizeref01_Some g11 (t + 3) l5 x10 x11 32768 a5 n5 c5 hR5 l6 x13 x14 l7 hk5
  refine WP.callC hcal5 (by kernel_rfl) ?_
  rintro _ g12 st12 ⟨a6, n6, c6, a7, n7, c7, rfl, hR6, hR7⟩
  replace hB1 := hB1.mono st12 (fun x => x)
  replace hB2 := hB2.mono st12 (fun x => x)
  replace hR5 := hR5.mono st12 (fun x => x)
  replace tot := tot.trans st12.pure
  refine WP.still 3 (by kernel_rfl) ?_
  refine WP.storeB (ty := 74) (off := 0) (v := AG [[.slice a6 n6 c6], [.int .i64 x13], [.int .i64 x14]]) hB2 [[.slice a6 n6 c6], [.int .i64 x13], [.int .i64 x14]] [1, 1, 1] (by kernel_rfl) (by kernel_rfl) rfl (by kernel_rfl) [[.slice a6 n6 c6], [.int .i64 x13], [.int .i64 x14]] (by kernel_rfl) (.one rfl (.one rfl (.one rfl .nil))) ?_
  intro g13 st13 hB8
  replace hB1 := hB1.mono st13 (WL.no1 (by omega))
  replace hR6 := hR6.mono st13 (WL.no1 (by omega))
  replace hR5 := hR5.mono st13 (WL.no1 (by omega))
  replace hR7 := hR7.mono st13 (WL.no1 (by omega)) (WL.no1 (by omega))
  replace tot := tot.trans (st13.up1 (.inr (by omega)))
  clear hB2
  have hB2 := hB8
  clear hB8
  refine WP.still 1 (by kernel_rfl) ?_
  refine WP.done (by kernel_rfl) ?_
  refine NX.then_n ?_
  refine CP.refr 70 [(2, .pointer (some ⟨b1, 0, none⟩)), (4, .pointer (some ⟨b2, 0, none⟩)), (5, .int .u64 x3), (6, .int .u64 x6), (7, .int .u64 x9), (8, .int .u64 x12), (9, .slice a7 n7 c7)] (by kernel_rfl) (by kernel_rfl) ?_
  clear ds
  intro ds
  refine CP.seqR ?_
  refine WP.loadB (v := AG [[.slice a6 n6 c6], [.int .i64 x13], [.int .i64 x14]]) hB2 (by kernel_rfl) (by kernel_rfl) ?_
  replace hs := Option.bind_eq_some_iff.1 hs
  obtain ⟨⟨l8, x15, x16, l9⟩, hk6, hs⟩ := hs
  dsimp only at hs
  have hcal6 := P.baizeref01_Some g13 (t + 4) l6 x13 x14 1024 a6 n6 c6 hR6 l8 x15 x16 l9 hk6
  refine WP.callC hcal6 (by kernel_rfl) ?_
  rintro _ g14 st14 ⟨a8, n8, c8, a9, n9, c9, rfl, hR8, hR9⟩
  replace hB1 := hB1.mono st14 (fun x => x)
  replace hB2 := hB2.mono st14 (fun x => x)
  replace hR6 := hR6.mono st14 (fun x => x)
  replace hR7 := hR7.mono st14 (fun x => x) (fun x => x)
  replace tot := tot.trans st14.pure
  refine WP.still 3 (by kernel_rfl) ?_
  refine WP.storeB (ty := 74) (off := 0) (v := AG [[.slice a8 n8 c8], [.int .i64 x15], [.int .i64 x16]]) hB2 [[.slice a8 n8 c8], [.int .i64 x15], [.int .i64 x16]] [1, 1, 1] (by kernel_rfl) (by kernel_rfl) rfl (by kernel_rfl) [[.slice a8 n8 c8], [.int .i64 x15], [.int .i64 x16]] (by kernel_rfl) (.one rfl (.one rfl (.one rfl .nil))) ?_
  intro g15 st15 hB9
  replace hB1 := hB1.mono st15 (WL.no1 (by omega))
  replace hR8 := hR8.mono st15 (WL.no1 (by omega))
  replace hR7 := hR7.mono st15 (WL.no1 (by omega)) (WL.no1 (by omega))
  replace hR6 := hR6.mono st15 (WL.no1 (by omega))
  replace hR9 := hR9.mono st15 (WL.no1 (by omega)) (WL.no1 (by omega))
  replace tot := tot.trans (st15.up1 (.inr (by omega)))
  clear hB2
  have hB2 := hB9
  clear hB9
  refine WP.still 1 (by kernel_rfl) ?_
  refine WP.done (by kernel_rfl) ?_
  refine NX.then_n ?_
  refine CP.seq ?_
  refine CP.seqR ?_
  refine WP.loadB (v := AG [[.slice a8 n8 c8], [.int .i64 x15], [.int .i64 x16]]) hB2 (by kernel_rfl) (by kernel_rfl) ?_
  replace hs := Option.bind_eq_some_iff.1 hs
  obtain ⟨x17, hk7, hs⟩ := hs
  have hcal7 := P.baizeref01_End g15 l8 x15 x16 a8 n8 c8 hR8 x17 hk7
  refine WP.callC hcal7 (by kernel_rfl) ?_
  rintro _ g16 st16 rfl
  replace hB1 := hB1.mono st16 (fun x => x)
  replace hB2 := hB2.mono st16 (fun x => x)
  replace hR8 := hR8.mono st16 (fun x => x)
  replace hR7 := hR7.mono st16 (fun x => x) (fun x => x)
  replace hR9 := hR9.mono st16 (fun x => x) (fun x => x)
  replace tot := tot.trans st16.pure
  refine WP.still 1 (by kernel_rfl) ?_
  refine WP.done (by kernel_rfl) ?_
  refine NX.then_n ?_
  refine CP.seqR ?_
  refine WP.still 2 (by kernel_rfl) ?_
  refine WP.done (by kernel_rfl) ?_
  refine NX.then_n ?_
  refine CP.cond (b := (x17 != 0)) (by kernel_rfl) (fun h1 => ?_) (fun h1 => ?_)
  · replace hs := of_if_t hs h1
    refine CP.seqR ?_
    refine WP.buildS (places := #[(0, 8), (8, 1), (9, 1), (10, 1), (11, 1), (12, 1)]) (t := 34) [encA .u8 (zA 8), [.int .i64 0], [.int .i64 0], [.int .i64 0], [.slice none 0 0], [.slice none 0 0]] [8, 1, 1, 1, 1, 1] (by kernel_rfl) (by kernel_rfl) (by simp [len_encA]) (by kernel_rfl) (.nil) ?_
    refine WP.still 1 (by kernel_rfl) ?_
    refine WP.storeB (ty := 34) (off := 0) (v := AG [encA .u8 (zA 8), [.int .i64 0], [.int .i64 0], [.int .i64 0], [.slice none 0 0], [.slice none 0 0]]) hB1 [encA .u8 (zA 8), [.int .i64 0], [.int .i64 0], [.int .i64 0], [.slice none 0 0], [.slice none 0 0]] [8, 1, 1, 1, 1, 1] (by kernel_rfl) (by kernel_rfl) (by simp [len_encA]) (by kernel_rfl) [encA .u8 (zA 8), [.int .i64 0], [.int .i64 0], [.int .i64 0], [.slice none 0 0], [.slice none 0 0]] (by kernel_rfl) (.arr (.one rfl (.one rfl (.one rfl (.one rfl (.one rfl .nil)))))) ?_
    intro g17 st17 hB10
    replace hR7 := hR7.mono st17 (WL.no1 (by omega)) (WL.no1 (by omega))
    replace hR9 := hR9.mono st17 (WL.no1 (by omega)) (WL.no1 (by omega))
    replace tot := tot.trans (st17.up1 (.inr (by omega)))
    clear hB1
    have hB1 := hB10
    clear hB10
    refine WP.still 1 (by kernel_rfl) ?_
    refine WP.done (by kernel_rfl) ?_
    refine NX.then_n ?_
    refine CP.refr 70 [(2, .pointer (some ⟨b1, 0, none⟩)), (3, .int .i64 x17)] (by kernel_rfl) (by kernel_rfl) ?_
    clear ds
    intro ds
    refine CP.ret ?_
    refine NX.then_r ?_
    replace hs := Option.some.inj hs
    simp only [Prod.mk.injEq] at hs
    obtain ⟨rfl, rfl, rfl, rfl, rfl, rfl, rfl⟩ := hs
    exact NX.fin (v := .tuple #[AG [encA .u8 (zA 8), [.int .i64 0], [.int .i64 0], [.int .i64 0], [.slice none 0 0], [.slice none 0 0]], .int .i64 x17]) (Res.two rfl (RV.box (agg := true) (size := 13) (rs := [encA .u8 (zA 8), [.int .i64 0], [.int .i64 0], [.int .i64 0], [.slice none 0 0], [.slice none 0 0]]) hB1 (by kernel_rfl) (by kernel_rfl) (by kernel_rfl) (by kernel_rfl)) (RV.tmp (by kernel_rfl))) tot htL ⟨none, 0, 0, none, 0, 0, rfl, (OwnS.nil _ _ _ _), (OwnS.nil _ _ _ _)⟩
  replace hs := of_if_f hs h1
  refine CP.skip ?_
  refine NX.then_n ?_
  refine CP.seqR ?_
  refine WP.still 1 (by kernel_rfl) ?_
  replace hs := Option.bind_eq_some_iff.1 hs
  obtain ⟨d1, hk8, hs⟩ := hs
  have hcal8 := P.baizeref02_FromNum g16 x6 d1 hk8
  refine WP.callC hcal8 (by kernel_rfl) ?_
  rintro _ g18 st18 rfl
  replace hB1 := hB1.mono st18 (fun x => x)
  replace hR7 := hR7.mono st18 (fun x => x) (fun x => x)
  replace hR9 := hR9.mono st18 (fun x => x) (fun x => x)
  replace tot := tot.trans st18.pure
  refine WP.still 8 (by kernel_rfl) ?_
  refine WP.buildS (places := #[(0, 8), (8, 1), (9, 1), (10, 1), (11, 1), (12, 1)]) (t := 34) [encA .u8 (zA 8), [.int .i64 0], [.int .i64 0], [.int .i64 0], [.slice none 0 0], [.slice none 0 0]] [8, 1, 1, 1, 1, 1] (by kernel_rfl) (by kernel_rfl) (by simp [len_encA]) (by kernel_rfl) ((.cons (i := 0) (off := 0) (v := AG [encA .u8 d1]) (mid := [encA .u8 d1, [.int .i64 0], [.int .i64 0], [.int .i64 0], [.slice none 0 0], [.slice none 0 0]]) [encA .u8 d1] [8] (by kernel_rfl) (by kernel_rfl) (by simp [len_encA]) (by kernel_rfl) (.cons (i := 1) (off := 8) (v := .int .i64 (IntKind.i64.wrap x9)) (mid := [encA .u8 d1, [.int .i64 (IntKind.i64.wrap x9)], [.int .i64 0], [.int .i64 0], [.slice none 0 0], [.slice none 0 0]]) [[.int .i64 (IntKind.i64.wrap x9)]] [1] (by kernel_rfl) (by kernel_rfl) rfl (by kernel_rfl) (.cons (i := 2) (off := 9) (v := .int .i64 (IntKind.i64.wrap x12)) (mid := [encA .u8 d1, [.int .i64 (IntKind.i64.wrap x9)], [.int .i64 (IntKind.i64.wrap x12)], [.int .i64 0], [.slice none 0 0], [.slice none 0 0]]) [[.int .i64 (IntKind.i64.wrap x12)]] [1] (by kernel_rfl) (by kernel_rfl) rfl (by kernel_rfl) (.cons (i := 3) (off := 10) (v := .int .i64 (IntKind.i64.wrap x3)) (mid := [encA .u8 d1, [.int .i64 (IntKind.i64.wrap x9)], [.int .i64 (IntKind.i64.wrap x12)], [.int .i64 (IntKind.i64.wrap x3)], [.slice none 0 0], [.slice none 0 0]]) [[.int .i64 (IntKind.i64.wrap x3)]] [1] (by kernel_rfl) (by kernel_rfl) rfl (by kernel_rfl) (.cons (i := 4) (off := 11) (v := .slice a7 n7 c7) (mid := [encA .u8 d1, [.int .i64 (IntKind.i64.wrap x9)], [.int .i64 (IntKind.i64.wrap x12)], [.int .i64 (IntKind.i64.wrap x3)], [.slice a7 n7 c7], [.slice none 0 0]]) [[.slice a7 n7 c7]] [1] (by kernel_rfl) (by kernel_rfl) rfl (by kernel_rfl) (.cons (i := 5) (off := 12) (v := .slice a9 n9 c9) (mid := [encA .u8 d1, [.int .i64 (IntKind.i64.wrap x9)], [.int .i64 (IntKind.i64.wrap x12)], [.int .i64 (IntKind.i64.wrap x3)], [.slice a7 n7 c7], [.slice a9 n9 c9]]) [[.slice a9 n9 c9]] [1] (by kernel_rfl) (by kernel_rfl) rfl (by kernel_rfl) .nil))))))) ?_
  refine WP.alloc (T := 34) (t + 5) [encA .u8 (zA 8), [.int .i64 0], [.int .i64 0], [.int .i64 0], [.slice none 0 0], [.slice none 0 0]] [8, 1, 1, 1, 1, 1] (by kernel_rfl) (by simp [len_encA]) ?_
  intro g19 b3 st19 hB11
  replace hB1 := hB1.mono st19 (fun x => x)
  replace hR7 := hR7.mono st19 (fun x => x) (fun x => x)
  replace hR9 := hR9.mono st19 (fun x => x) (fun x => x)
  replace tot := tot.trans st19.pure
  refine WP.storeB (ty := 34) (off := 0) (v := AG [encA .u8 d1, [.int .i64 (IntKind.i64.wrap x9)], [.int .i64 (IntKind.i64.wrap x12)], [.int .i64 (IntKind.i64.wrap x3)], [.slice a7 n7 c7], [.slice a9 n9 c9]]) hB11 [encA .u8 d1, [.int .i64 (IntKind.i64.wrap x9)], [.int .i64 (IntKind.i64.wrap x12)], [.int .i64 (IntKind.i64.wrap x3)], [.slice a7 n7 c7], [.slice a9 n9 c9]] [8, 1, 1, 1, 1, 1] (by kernel_rfl) (by kernel_rfl) (by simp [len_encA]) (by kernel_rfl) [encA .u8 d1, [.int .i64 (IntKind.i64.wrap x9)], [.int .i64 (IntKind.i64.wrap x12)], [.int .i64 (IntKind.i64.wrap x3)], [.slice a7 n7 c7], [.slice a9 n9 c9]] (by kernel_rfl) (.arr (.one rfl (.one rfl (.one rfl (.one rfl (.one rfl .nil)))))) ?_
  intro g20 st20 hB12
  replace hB1 := hB1.mono st20 (WL.no1 (by omega))
  replace hR7 := hR7.mono st20 (WL.no1 (by omega)) (WL.no1 (by omega))
  replace hR9 := hR9.mono st20 (WL.no1 (by omega)) (WL.no1 (by omega))
  replace tot := tot.trans (st20.up1 (.inr (by omega)))
  clear hB11
  have hB11 := hB12
  clear hB12
  refine WP.done (by kernel_rfl) ?_
  refine NX.then_n ?_
  refine CP.refr 70 [(2, .pointer (some ⟨b1, 0, none⟩)), (12, .pointer (some ⟨b3, 0, none⟩))] (by kernel_rfl) (by kernel_rfl) ?_
  clear ds
  intro ds
  refine CP.seq ?_
  refine CP.seqR ?_
  refine WP.loadB (v := AG [encA .u8 d1, [.int .i64 (IntKind.i64.wrap x9)], [.int .i64 (IntKind.i64.wrap x12)], [.int .i64 (IntKind.i64.wrap x3)], [.slice a7 n7 c7], [.slice a9 n9 c9]]) hB11 (by kernel_rfl) (by kernel_rfl) ?_
  replace hs := Option.bind_eq_some_iff.1 hs
  obtain ⟨x18, hk9, hs⟩ := hs
  have hS1 : 0 ∉ ([(t + 3), (t + 4)] : List Nat) := by simp <;> omega
  have stl1 := GW.lend_step g20 [(t + 3), (t + 4)]
  have hRl1 := hR7.lendTo hS1 (by simp)
  have hRl2 := hR9.lendTo hS1 (by simp)
  refine WP.regw (g' := GW.lend g20 [(t + 3), (t + 4)]) rfl ?_
  have hcal9 := P.baizeref25_Check (GW.lend g20 [(t + 3), (t + 4)]) d1 (IntKind.i64.wrap x9) (IntKind.i64.wrap x12) (IntKind.i64.wrap x3) l7 l9 a7 n7 c7 a9 n9 c9 hRl1 hRl2 x18 hk9
  refine WP.callC hcal9 (by kernel_rfl) ?_
  rintro _ g21 st21 rfl
  have st22 := (GW.back_step st21).lentS
  have hO1 := hR7.backTo hS1 (by simp) st21 (fun x => x)
  have hO2 := hR9.backTo hS1 (by simp) st21 (fun x => x)
  refine WP.regw (g' := GW.back g20 g21 [(t + 3), (t + 4)]) rfl ?_
  generalize GW.back g20 g21 [(t + 3), (t + 4)] = g22 at *
  replace hB1 := hB1.mono st22 (WL.no2 (by omega) (by omega))
  replace hB11 := hB11.mono st22 (WL.no2 (by omega) (by omega))
  replace tot := tot.trans (st22.up2 (.inr (by omega)) (.inr (by omega)))
  clear hR7
  have hR7 : OwnS (Kd.int .u8) g22 (t + 3) 5 a7 n7 c7 l7 := hO1
  clear hO1
  clear hR9
  have hR9 : OwnS (Kd.int .u8) g22 (t + 4) 5 a9 n9 c9 l9 := hO2
  clear hO2
  refine WP.still 1 (by kernel_rfl) ?_
  refine WP.done (by kernel_rfl) ?_
  refine NX.then_n ?_
  refine CP.seqR ?_
  refine WP.still 2 (by kernel_rfl) ?_
  refine WP.done (by kernel_rfl) ?_
  refine NX.then_n ?_
  refine CP.cond (b := (x18 != 0)) (by kernel_rfl) (fun h2 => ?_) (fun h2 => ?_)
  · replace hs := of_if_t hs h2
    refine CP.seqR ?_
    refine WP.buildS (places := #[(0, 8), (8, 1), (9, 1), (10, 1), (11, 1), (12, 1)]) (t := 34) [encA .u8 (zA 8), [.int .i64 0], [.int .i64 0], [.int .i64 0], [.slice none 0 0], [.slice none 0 0]] [8, 1, 1, 1, 1, 1] (by kernel_rfl) (by kernel_rfl) (by simp [len_encA]) (by kernel_rfl) (.nil) ?_
    refine WP.still 1 (by kernel_rfl) ?_
    refine WP.storeB (ty := 34) (off := 0) (v := AG [encA .u8 (zA 8), [.int .i64 0], [.int .i64 0], [.int .i64 0], [.slice none 0 0], [.slice none 0 0]]) hB1 [encA .u8 (zA 8), [.int .i64 0], [.int .i64 0], [.int .i64 0], [.slice none 0 0], [.slice none 0 0]] [8, 1, 1, 1, 1, 1] (by kernel_rfl) (by kernel_rfl) (by simp [len_encA]) (by kernel_rfl) [encA .u8 (zA 8), [.int .i64 0], [.int .i64 0], [.int .i64 0], [.slice none 0 0], [.slice none 0 0]] (by kernel_rfl) (.arr (.one rfl (.one rfl (.one rfl (.one rfl (.one rfl .nil)))))) ?_
    intro g23 st23 hB13
    replace hB11 := hB11.mono st23 (WL.no1 (by omega))
    replace hR7 := hR7.mono st23 (WL.no1 (by omega)) (WL.no1 (by omega))
    replace hR9 := hR9.mono st23 (WL.no1 (by omega)) (WL.no1 (by omega))
    replace tot := tot.trans (st23.up1 (.inr (by omega)))
    clear hB1
    have hB1 := hB13
    clear hB13
    refine WP.still 1 (by kernel_rfl) ?_
    refine WP.done (by kernel_rfl) ?_
    refine NX.then_n ?_
    refine CP.ret ?_
    refine NX.then_r ?_
    replace hs := Option.some.inj hs
    simp only [Prod.mk.injEq] at hs
    obtain ⟨rfl, rfl, rfl, rfl, rfl, rfl, rfl⟩ := hs
    exact NX.fin (v := .tuple #[AG [encA .u8 (zA 8), [.int .i64 0], [.int .i64 0], [.int .i64 0], [.slice none 0 0], [.slice none 0 0]], .int .i64 x18]) (Res.two rfl (RV.box (agg := true) (size := 13) (rs := [encA .u8 (zA 8), [.int .i64 0], [.int .i64 0], [.int .i64 0], [.slice none 0 0], [.slice none 0 0]]) hB1 (by kernel_rfl) (by kernel_rfl) (by kernel_rfl) (by kernel_rfl)) (RV.tmp (by kernel_rfl))) tot htL ⟨none, 0, 0, none, 0, 0, rfl, (OwnS.nil _ _ _ _), (OwnS.nil _ _ _ _)⟩
  replace hs := of_if_f hs h2
  refine CP.skip ?_
  refine NX.then_n ?_
  refine CP.seqR ?_
  refine WP.loadB (v := AG [encA .u8 d1, [.int .i64 (IntKind.i64.wrap x9)], [.int .i64 (IntKind.i64.wrap x12)], [.int .i64 (IntKind.i64.wrap x3)], [.slice a7 n7 c7], [.slice a9 n9 c9]]) hB11 (by kernel_rfl) (by kernel_rfl) ?_
  refine WP.storeB (ty := 34) (off := 0) (v := AG [encA .u8 d1, [.int .i64 (IntKind.i64.wrap x9)], [.int .i64 (IntKind.i64.wrap x12)], [.int .i64 (IntKind.i64.wrap x3)], [.slice a7 n7 c7], [.slice a9 n9 c9]]) hB1 [encA .u8 d1, [.int .i64 (IntKind.i64.wrap x9)], [.int .i64 (IntKind.i64.wrap x12)], [.int .i64 (IntKind.i64.wrap x3)], [.slice a7 n7 c7], [.slice a9 n9 c9]] [8, 1, 1, 1, 1, 1] (by kernel_rfl) (by kernel_rfl) (by simp [len_encA]) (by kernel_rfl) [encA .u8 d1, [.int .i64 (IntKind.i64.wrap x9)], [.int .i64 (IntKind.i64.wrap x12)], [.int .i64 (IntKind.i64.wrap x3)], [.slice a7 n7 c7], [.slice a9 n9 c9]] (by kernel_rfl) (.arr (.one rfl (.one rfl (.one rfl (.one rfl (.one rfl .nil)))))) ?_
  intro g24 st24 hB14
  replace hR7 := hR7.mono st24 (WL.no1 (by omega)) (WL.no1 (by omega))
  replace hR9 := hR9.mono st24 (WL.no1 (by omega)) (WL.no1 (by omega))
  replace hB11 := hB11.mono st24 (WL.no1 (by omega))
  replace tot := tot.trans (st24.up1 (.inr (by omega)))
  clear hB1
  have hB1 := hB14
  clear hB14
  refine WP.still 1 (by kernel_rfl) ?_
  refine WP.done (by kernel_rfl) ?_
  refine NX.then_n ?_
  refine CP.ret ?_
  obtain ⟨g25, hw1, st25, hnew⟩ := hR7.relab (by omega) r0
  refine NX.regw hw1 ?_
  replace hB1 := hB1.mono st25 (WL.no1 (by omega))
  replace hR9 := hR9.mono st25 (WL.no1 (by omega)) (WL.no1 (by omega))
  replace tot := tot.trans (st25.up1 (.inr (by omega)))
  clear hR7
  have hR7 := hnew
  clear hnew
  obtain ⟨g26, hw2, st26, hnew⟩ := hR9.relab (by omega) r1
  refine NX.regw hw2 ?_
  replace hB1 := hB1.mono st26 (WL.no1 (by omega))
  replace hR7 := hR7.mono st26 (WL.no1 (by omega)) (WL.no1 (by omega))
  replace tot := tot.trans (st26.up1 (.inr (by omega)))
  clear hR9
  have hR9 := hnew
  clear hnew
  replace hs := Option.some.inj hs
  simp only [Prod.mk.injEq] at hs
  obtain ⟨rfl, rfl, rfl, rfl, rfl, rfl, rfl⟩ := hs
  exact NX.fin (v := .tuple #[AG [encA .u8 d1, [.int .i64 (IntKind.i64.wrap x9)], [.int .i64 (IntKind.i64.wrap x12)], [.int .i64 (IntKind.i64.wrap x3)], [.slice a7 n7 c7], [.slice a9 n9 c9]], .int .i64 0]) (Res.two rfl (RV.box (agg := true) (size := 13) (rs := [encA .u8 d1, [.int .i64 (IntKind.i64.wrap x9)], [.int .i64 (IntKind.i64.wrap x12)], [.int .i64 (IntKind.i64.wrap x3)], [.slice a7 n7 c7], [.slice a9 n9 c9]]) hB1 (by kernel_rfl) (by kernel_rfl) (by kernel_rfl) (by kernel_rfl)) (RV.tmp (by kernel_rfl))) tot htL ⟨a7, n7, c7, a9, n9, c9, rfl, hR7, hR9⟩
def F.baizelaw25_TxDecodes.c2 (q6 : Bool) : Option (Bool) := (some q6)
def F.baizelaw25_TxDecodes.c1 (l1 : List Int) (d1 : Arr Int 8) (x1 : Int) (x2 : Int) (x3 : Int) (l2 : List Int) (l3 : List Int) (x8 : Int) (q2 : Bool) : Option (Bool) := (if q2 = true then (some false) else (if (x8 != 0) = true then ((F.baizelaw25_known).bind fun q3 => (some q3)) else ((F.tx_Tx_Encode d1 x1 x2 x3 l2 l3).bind fun (l8, x12) => ((F.baizelaw25_known).bind fun q7 => (if q7 = true then (if (x12 == 0) = true then ((F.baizeref01_Same l8 (sliceI l1 0 (imin (l1.length : Int) 600))).bind fun q8 => (F.baizelaw25_TxDecodes.c2 q8)) else (F.baizelaw25_TxDecodes.c2 false)) else (F.baizelaw25_TxDecodes.c2 false))))))
def N.baizelaw25_TxDecodes_0 : List (List Nat) := [[], [], [0, 1], [0, 1, 2], [0, 1, 2, 3], [0, 1, 2, 3, 4], [0, 1, 2, 3], [0, 1, 2, 3, 4, 5, 6], [0, 1, 2, 3, 4, 5, 6, 7], [0, 1, 2, 3, 4, 5, 6, 7, 8]]
def F.baizelaw25_TxDecodes (l1 : List Int) : Option (Bool) := (if (0 : Int) ≤ 0 ∧ 0 ≤ (imin (l1.length : Int) 600) ∧ (imin (l1.length : Int) 600) ≤ (l1.length : Int) then ((F.tx_Decode (sliceI l1 0 (imin (l1.length : Int) 600))).bind fun (d1, x1, x2, x3, l2, l3, x4) => ((F.baizeref25_Decode (sliceI l1 0 (imin (l1.length : Int) 600))).bind fun (d2, x5, x6, x7, l4, l5, x8) => (if (x4 != x8) = true then (F.baizelaw25_TxDecodes.c1 l1 d1 x1 x2 x3 l2 l3 x8 true) else ((F.baizelaw25_Of d1 x1 x2 x3 l2 l3).bind fun (d4, x13, x14, x15, l9, l10) => ((F.baizeref25_Same d4 x13 x14 x15 l9 l10 d2 x5 x6 x7 l4 l5).bind fun q9 => (F.baizelaw25_TxDecodes.c1 l1 d1 x1 x2 x3 l2 l3 x8 (!q9))))))) else none)
theorem P.baizelaw25_TxDecodes (g0 : GW) (l1 : List Int) (a1 : Option Addr) (n1 : Nat) (c1 : Nat) (hR1 : RdS (Kd.int .u8) g0 5 a1 n1 c1 l1) (o1 : Bool) (hs : F.baizelaw25_TxDecodes l1 = some o1) :
    Calls Try.prog 6 #[.slice a1 n1 c1] g0.w (Ret NoM g0 fun v g => v = .bool o1) := by
  refine calls_of (args := [.slice a1 n1 c1]) Try.func6 rfl (0) ?_
  intro t ht htL
  refine ⟨_, rfl, ?_⟩
  refine CP.refr 52 [(0, .slice a1 n1 c1)] (by kernel_rfl) (by kernel_rfl) ?_
  intro ds
  have tot : Step (fun l => NoM l ∨ t ≤ l) g0 g0 := Step.refl _ _
  unfold F.baizelaw25_TxDecodes at hs
  refine CP.seqR ?_
  refine WP.still 1 (by kernel_rfl) ?_
  refine WP.done (by kernel_rfl) ?_
  refine NX.then_n ?_
  refine CP.seqR ?_
  refine WP.still 2 (by kernel_rfl) ?_
  refine WP.len (a := a1) (cp := c1) hR1.len (by kernel_rfl) ?_
  refine WP.still 1 (by kernel_rfl) ?_
  by_cases hc1 : (0 : Int) ≤ 0 ∧ 0 ≤ (imin (l1.length : Int) 600) ∧ (imin (l1.length : Int) 600) ≤ (l1.length : Int)
  case neg => rw [if_neg hc1] at hs; cases hs
  replace hs := of_if_p hs hc1
  refine WP.sliceR (lo := none) (hi := some (.int .i64 (imin (l1.length : Int) 600))) hR1 0 (imin (l1.length : Int) 600) (by kernel_rfl) (.inl ⟨rfl, rfl⟩) (.inr ⟨_, rfl⟩) hc1 ?_
  intro a2 c2 hR2
  refine WP.still 1 (by kernel_rfl) ?_
  refine WP.done (by kernel_rfl) ?_
  refine NX.then_n ?_
  refine CP.seqR ?_
  refine WP.still 1 (by kernel_rfl) ?_
  replace hs := Option.bind_eq_some_iff.1 hs
  obtain ⟨⟨d1, x1, x2, x3, l2, l3, x4⟩, hk1, hs⟩ := hs
  dsimp only at hs
  have hcal1 := P.tx_Decode g0 (sliceI l1 0 (imin (l1.length : Int) 600)) a2 ((imin (l1.length : Int) 600).toNat - (0 : Int).toNat) c2 hR2 d1 x1 x2 x3 l2 l3 x4 hk1
  refine WP.callC hcal1 (by kernel_rfl) ?_
  rintro _ g1 st1 ⟨a3, n2, c3, a4, n3, c4, rfl, hR3, hR4⟩
  replace hR2 := hR2.mono st1 (fun x => x)
  replace tot := tot.trans st1.pure
  refine WP.still 3 (by kernel_rfl) ?_
  refine WP.alloc (T := 26) (t + 1) [encA .u8 (zA 8), [.int .i64 0], [.int .i64 0], [.int .i64 0], [.slice none 0 0], [.slice none 0 0]] [8, 1, 1, 1, 1, 1] (by kernel_rfl) (by simp [len_encA]) ?_
  intro g2 b1 st2 hB1
  replace hR2 := hR2.mono st2 (fun x => x)
  replace hR3 := hR3.mono st2 (fun x => x)
  replace hR4 := hR4.mono st2 (fun x => x)
  replace tot := tot.trans st2.pure
  refine WP.storeB (ty := 26) (off := 0) (v := AG [encA .u8 d1, [.int .i64 x1], [.int .i64 x2], [.int .i64 x3], [.slice a3 n2 c3], [.slice a4 n3 c4]]) hB1 [encA .u8 d1, [.int .i64 x1], [.int .i64 x2], [.int .i64 x3], [.slice a3 n2 c3], [.slice a4 n3 c4]] [8, 1, 1, 1, 1, 1] (by kernel_rfl) (by kernel_rfl) (by simp [len_encA]) (by kernel_rfl) [encA .u8 d1, [.int .i64 x1], [.int .i64 x2], [.int .i64 x3], [.slice a3 n2 c3], [.slice a4 n3 c4]] (by kernel_rfl) (.arr (.one rfl (.one rfl (.one rfl (.one rfl (.one rfl .nil)))))) ?_
  intro g3 st3 hB2
  replace hR2 := hR2.mono st3 (WL.no1 (by omega))
  replace hR3 := hR3.mono st3 (WL.no1 (by omega))
  replace hR4 := hR4.mono st3 (WL.no1 (by omega))
  replace tot := tot.trans (st3.up1 (.inr (by omega)))
  clear hB1
  have hB1 := hB2
  clear hB2
  refine WP.still 1 (by kernel_rfl) ?_
  refine WP.done (by kernel_rfl) ?_
  refine NX.then_n ?_
  refine CP.refr 52 [(0, .slice a2 ((imin (l1.length : Int) 600).toNat - (0 : Int).toNat) c2), (3, .pointer (some ⟨b1, 0, none⟩)), (4, .int .i64 x4)] (by kernel_rfl) (by kernel_rfl) ?_
  clear ds
  intro ds
  refine CP.seqR ?_
  refine WP.still 1 (by kernel_rfl) ?_
  replace hs := Option.bind_eq_some_iff.1 hs
  obtain ⟨⟨d2, x5, x6, x7, l4, l5, x8⟩, hk2, hs⟩ := hs
  dsimp only at hs
  have hcal2 := P.baizeref25_Decode g3 (t + 2) (t + 3) (sliceI l1 0 (imin (l1.length : Int) 600)) a2 ((imin (l1.length : Int) 600).toNat - (0 : Int).toNat) c2 hR2 d2 x5 x6 x7 l4 l5 x8 hk2
  refine WP.callC hcal2 (by kernel_rfl) ?_
  rintro _ g4 st4 ⟨a5, n4, c5, a6, n5, c6, rfl, hR5, hR6⟩
  replace hR2 := hR2.mono st4 (fun x => x)
  replace hB1 := hB1.mono st4 (fun x => x)
  replace hR3 := hR3.mono st4 (fun x => x)
  replace hR4 := hR4.mono st4 (fun x => x)
  replace tot := tot.trans st4.pure
  refine WP.still 3 (by kernel_rfl) ?_
  refine WP.alloc (T := 34) (t + 4) [encA .u8 (zA 8), [.int .i64 0], [.int .i64 0], [.int .i64 0], [.slice none 0 0], [.slice none 0 0]] [8, 1, 1, 1, 1, 1] (by kernel_rfl) (by simp [len_encA]) ?_
  intro g5 b2 st5 hB3
  replace hR2 := hR2.mono st5 (fun x => x)
  replace hB1 := hB1.mono st5 (fun x => x)
  replace hR3 := hR3.mono st5 (fun x => x)
  replace hR4 := hR4.mono st5 (fun x => x)
  replace hR5 := hR5.mono st5 (fun x => x) (fun x => x)
  replace hR6 := hR6.mono st5 (fun x => x) (fun x => x)
  replace tot := tot.trans st5.pure
  refine WP.storeB (ty := 34) (off := 0) (v := AG [encA .u8 d2, [.int .i64 x5], [.int .i64 x6], [.int .i64 x7], [.slice a5 n4 c5], [.slice a6 n5 c6]]) hB3 [encA .u8 d2, [.int .i64 x5], [.int .i64 x6], [.int .i64 x7], [.slice a5 n4 c5], [.slice a6 n5 c6]] [8, 1, 1, 1, 1, 1] (by kernel_rfl) (by kernel_rfl) (by simp [len_encA]) (by kernel_rfl) [encA .u8 d2, [.int .i64 x5], [.int .i64 x6], [.int .i64 x7], [.slice a5 n4 c5], [.slice a6 n5 c6]] (by kernel_rfl) (.arr (.one rfl (.one rfl (.one rfl (.one rfl (.one rfl .nil)))))) ?_
  intro g6 st6 hB4
  replace hR2 := hR2.mono st6 (WL.no1 (by omega))
  replace hB1 := hB1.mono st6 (WL.no1 (by omega))
  replace hR3 := hR3.mono st6 (WL.no1 (by omega))
  replace hR4 := hR4.mono st6 (WL.no1 (by omega))
  replace hR5 := hR5.mono st6 (WL.no1 (by omega)) (WL.no1 (by omega))
  replace hR6 := hR6.mono st6 (WL.no1 (by omega)) (WL.no1 (by omega))
  replace tot := tot.trans (st6.up1 (.inr (by omega)))
  clear hB3
  have hB3 := hB4
  clear hB4
  refine WP.still 1 (by kernel_rfl) ?_
  refine WP.done (by kernel_rfl) ?_
  refine NX.then_n ?_
  refine CP.seq ?_
  refine CP.cut (fun tm g => ∃ (q2 : Bool), Fr 52 [(0, .slice a2 ((imin (l1.length : Int) 600).toNat - (0 : Int).toNat) c2), (3, .pointer (some ⟨b1, 0, none⟩)), (6, .int .i64 x8), (33, .bool q2)] tm ∧ Step (fun l => NoM l ∨ t ≤ l) g0 g ∧ RdS (Kd.int .u8) g 5 a2 ((imin (l1.length : Int) 600).toNat - (0 : Int).toNat) c2 (sliceI l1 0 (imin (l1.length : Int) 600)) ∧ Box g (t + 1) b1 26 [encA .u8 d1, [.int .i64 x1], [.int .i64 x2], [.int .i64 x3], [.slice a3 n2 c3], [.slice a4 n3 c4]] [8, 1, 1, 1, 1, 1] ∧ RdS (Kd.int .u8) g 5 a3 n2 c3 l2 ∧ RdS (Kd.int .u8) g 5 a4 n3 c4 l3 ∧ (F.baizelaw25_TxDecodes.c1 l1 d1 x1 x2 x3 l2 l3 x8 q2) = some o1) ?_ ?_
  · refine bool_split (b := (x4 != x8)) (fun h8 => ?_) (fun h8 => ?_)
    · replace hs := of_if_t hs h8
      refine CP.drawL (by kernel_rfl) [3] N.baizelaw25_TxDecodes_0 [⟨some 0, [], [0], fun l g => l.getD 0 undef = .bool true⟩] [[]] [] [0, 1, 2] [4, 5, 6, 7, 8, 9] (by kernel_rfl) (by simp) (by simp) ⟨fun _ _ _ _ st h0 hl hj e => e, trivial⟩ ⟨trivial, trivial⟩ (by kernel_rfl) (fun vs => by kernel_rfl) ?_ ?_ ?_
      · intro j hj
        have hq : j = 0 ∨ j = 1 ∨ j = 2 ∨ j = 3 ∨ j = 4 ∨ j = 5 := by have h : j < 6 := hj; omega
        rcases hq with rfl | rfl | rfl | rfl | rfl | rfl
        · intro vs gq stq hl hf
          replace hl : vs.length = 1 := hl
          obtain ⟨v0, vs0, rfl, hl0⟩ := len_succ hl
          obtain rfl := len_zero hl0
          have e := (show v0 = .bool true from hf _ (List.mem_of_getElem? (i := 0) rfl) (by kernel_rfl))
          subst e
          show Option.isSome _ = true
          kernel_rfl
        · intro vs gq stq hl hf
          replace hl : vs.length = 1 := hl
          obtain ⟨v0, vs0, rfl, hl0⟩ := len_succ hl
          obtain rfl := len_zero hl0
          have e := (show v0 = .bool true from hf _ (List.mem_of_getElem? (i := 0) rfl) (by kernel_rfl))
          subst e
          show Option.isSome _ = true
          kernel_rfl
        · intro vs gq stq hl hf
          replace hl : vs.length = 1 := hl
          obtain ⟨v0, vs0, rfl, hl0⟩ := len_succ hl
          obtain rfl := len_zero hl0
          have e := (show v0 = .bool true from hf _ (List.mem_of_getElem? (i := 0) rfl) (by kernel_rfl))
          subst e
          show Option.isSome _ = true
          kernel_rfl
        · intro vs gq stq hl hf
          replace hl : vs.length = 1 := hl
          obtain ⟨v0, vs0, rfl, hl0⟩ := len_succ hl
          obtain rfl := len_zero hl0
          have e := (show v0 = .bool true from hf _ (List.mem_of_getElem? (i := 0) rfl) (by kernel_rfl))
          subst e
          show Option.isSome _ = true
          kernel_rfl
        · intro vs gq stq hl hf
          replace hl : vs.length = 1 := hl
          obtain ⟨v0, vs0, rfl, hl0⟩ := len_succ hl
          obtain rfl := len_zero hl0
          have e := (show v0 = .bool true from hf _ (List.mem_of_getElem? (i := 0) rfl) (by kernel_rfl))
          subst e
          show Option.isSome _ = true
          kernel_rfl
        · intro vs gq stq hl hf
          replace hl : vs.length = 1 := hl
          obtain ⟨v0, vs0, rfl, hl0⟩ := len_succ hl
          obtain rfl := len_zero hl0
          have e := (show v0 = .bool true from hf _ (List.mem_of_getElem? (i := 0) rfl) (by kernel_rfl))
          subst e
          show Option.isSome _ = true
          kernel_rfl
      · intro j hj
        have hq : j = 0 := by have h : j < 1 := hj; omega
        rcases hq with rfl
        · intro vs gq stq hl hf
          replace hl : vs.length = 1 := hl
          obtain ⟨v0, vs0, rfl, hl0⟩ := len_succ hl
          obtain rfl := len_zero hl0
          refine WP.still 1 (by kernel_rfl) ?_
          refine WP.done (by kernel_rfl) (Shown.ok (v := .bool (x4 != x8)) (by kernel_rfl) (Step.refl _ _) ?_)
          exact ⟨congrArg Value.bool h8, trivial⟩
      intro vs g18 st18 hl hf
      replace hl : vs.length = 1 := hl
      obtain ⟨v0, vs0, rfl, hl0⟩ := len_succ hl
      obtain rfl := len_zero hl0
      have e := (show v0 = .bool true from hf _ (List.mem_of_getElem? (i := 0) rfl) (by kernel_rfl))
      subst e
      replace hR2 := hR2.mono st18.toNo (fun x => x)
      replace hB1 := hB1.mono st18.toNo (fun x => x)
      replace hR3 := hR3.mono st18.toNo (fun x => x)
      replace hR4 := hR4.mono st18.toNo (fun x => x)
      replace tot := tot.trans st18.toNo.pure
      refine NX.post ?_
      exact ⟨true, ⟨by kernel_rfl, by kernel_rfl⟩, tot, hR2, hB1, hR3, hR4, hs⟩
    replace hs := of_if_f hs h8
    replace hs := Option.bind_eq_some_iff.1 hs
    obtain ⟨⟨d4, x13, x14, x15, l9, l10⟩, hk11, hs⟩ := hs
    dsimp only at hs
    replace hs := Option.bind_eq_some_iff.1 hs
    obtain ⟨q9, hk12, hs⟩ := hs
    refine CP.drawL (by kernel_rfl) [3, 4, 5, 6, 7] N.baizelaw25_TxDecodes_0 [⟨none, [], [], fun l g => Box g (t + 1) b1 26 [encA .u8 d1, [.int .i64 x1], [.int .i64 x2], [.int .i64 x3], [.slice a3 n2 c3], [.slice a4 n3 c4]] [8, 1, 1, 1, 1, 1]⟩, ⟨none, [], [], fun l g => RdS (Kd.int .u8) g 5 a3 n2 c3 l2⟩, ⟨none, [], [], fun l g => RdS (Kd.int .u8) g 5 a4 n3 c4 l3⟩, ⟨none, [], [], fun l g => Box g (t + 4) b2 34 [encA .u8 d2, [.int .i64 x5], [.int .i64 x6], [.int .i64 x7], [.slice a5 n4 c5], [.slice a6 n5 c6]] [8, 1, 1, 1, 1, 1]⟩, ⟨none, [0], [], fun l g => OwnS (Kd.int .u8) g (t + 2) 5 a5 n4 c5 l4⟩, ⟨none, [1], [], fun l g => OwnS (Kd.int .u8) g (t + 3) 5 a6 n5 c6 l5⟩, ⟨some 0, [], [0], fun l g => l.getD 0 undef = .bool false⟩, ⟨some 1, [], [1], fun l g => l.getD 0 undef = AG [encA .u8 d1, [.int .i64 x1], [.int .i64 x2], [.int .i64 x3], [.slice a3 n2 c3], [.slice a4 n3 c4]]⟩, ⟨some 2, [], [2], fun l g => ∃ (a10 : Option Addr) (c10 : Nat) (a11 : Option Addr) (c11 : Nat), l.getD 0 undef = AG [encA .u8 d4, [.int .i64 x13], [.int .i64 x14], [.int .i64 x15], [.slice a10 l9.length c10], [.slice a11 l10.length c11]] ∧ RdS (Kd.int .u8) g 5 a10 l9.length c10 l9 ∧ RdS (Kd.int .u8) g 5 a11 l10.length c11 l10⟩, ⟨some 3, [], [3], fun l g => l.getD 0 undef = AG [encA .u8 d2, [.int .i64 x5], [.int .i64 x6], [.int .i64 x7], [.slice a5 n4 c5], [.slice a6 n5 c6]]⟩, ⟨some 4, [], [4], fun l g => l.getD 0 undef = .bool q9⟩, ⟨some 4, [0], [], fun l g => OwnS (Kd.int .u8) g (t + 2) 5 a5 n4 c5 l4⟩, ⟨some 4, [1], [], fun l g => OwnS (Kd.int .u8) g (t + 3) 5 a6 n5 c6 l5⟩] [[], [], [], [], [0, 1]] [(t + 2), (t + 3)] [0, 1, 2] [8, 9] (by kernel_rfl) (by simp <;> omega) (by simp <;> omega) ⟨fun _ _ _ _ st h0 hl hj hB1 => (hB1.mono st (fun h => absurd (hl _ h) (by simp <;> omega))), fun _ _ _ _ st h0 hl hj hR3 => (RdS.mono (e := 5) hR3 st h0), fun _ _ _ _ st h0 hl hj hR4 => (RdS.mono (e := 5) hR4 st h0), fun _ _ _ _ st h0 hl hj hB3 => (hB3.mono st (fun h => absurd (hl _ h) (by simp <;> omega))), fun _ _ _ _ st h0 hl hj hR5 => (hR5.mono st h0 (hj 0 (by simp) _ rfl)), fun _ _ _ _ st h0 hl hj hR6 => (hR6.mono st h0 (hj 1 (by simp) _ rfl)), fun _ _ _ _ st h0 hl hj e => e, fun _ _ _ _ st h0 hl hj e => e, fun _ _ _ _ st h0 hl hj ⟨a10, c10, a11, c11, e, hR10, hR11⟩ => ⟨a10, c10, a11, c11, e, (RdS.mono (e := 5) hR10 st h0), (RdS.mono (e := 5) hR11 st h0)⟩, fun _ _ _ _ st h0 hl hj e => e, fun _ _ _ _ st h0 hl hj e => e, fun _ _ _ _ st h0 hl hj hR5 => (hR5.mono st h0 (hj 0 (by simp) _ rfl)), fun _ _ _ _ st h0 hl hj hR6 => (hR6.mono st h0 (hj 1 (by simp) _ rfl)), trivial⟩ ⟨hB1, hR3, hR4, hB3, hR5, hR6, trivial, trivial, trivial, trivial, trivial, trivial, trivial, trivial⟩ (by kernel_rfl) (fun vs => by kernel_rfl) ?_ ?_ ?_
    · intro j hj
      have hq : j = 0 ∨ j = 1 := by have h : j < 2 := hj; omega
      rcases hq with rfl | rfl
      · intro vs gq stq hl hf
        replace hl : vs.length = 5 := hl
        obtain ⟨v0, vs0, rfl, hl0⟩ := len_succ hl
        obtain ⟨v1, vs1, rfl, hl1⟩ := len_succ hl0
        obtain ⟨v2, vs2, rfl, hl2⟩ := len_succ hl1
        obtain ⟨v3, vs3, rfl, hl3⟩ := len_succ hl2
        obtain ⟨v4, vs4, rfl, hl4⟩ := len_succ hl3
        obtain rfl := len_zero hl4
        have e := (show v0 = .bool false from hf _ (List.mem_of_getElem? (i := 6) rfl) (by kernel_rfl))
        subst e
        have e := (show v4 = .bool q9 from hf _ (List.mem_of_getElem? (i := 10) rfl) (by kernel_rfl))
        subst e
        show Option.isSome _ = true
        kernel_rfl
      · intro vs gq stq hl hf
        replace hl : vs.length = 5 := hl
        obtain ⟨v0, vs0, rfl, hl0⟩ := len_succ hl
        obtain ⟨v1, vs1, rfl, hl1⟩ := len_succ hl0
        obtain ⟨v2, vs2, rfl, hl2⟩ := len_succ hl1
        obtain ⟨v3, vs3, rfl, hl3⟩ := len_succ hl2
        obtain ⟨v4, vs4, rfl, hl4⟩ := len_succ hl3
        obtain rfl := len_zero hl4
        have e := (show v0 = .bool false from hf _ (List.mem_of_getElem? (i := 6) rfl) (by kernel_rfl))
        subst e
        have e := (show v4 = .bool q9 from hf _ (List.mem_of_getElem? (i := 10) rfl) (by kernel_rfl))
        subst e
        show Option.isSome _ = true
        kernel_rfl
    · intro j hj
      have hq : j = 0 ∨ j = 1 ∨ j = 2 ∨ j = 3 ∨ j = 4 := by have h : j < 5 := hj; omega
      rcases hq with rfl | rfl | rfl | rfl | rfl
      · intro vs gq stq hl hf
        replace hl : vs.length = 5 := hl
        obtain ⟨v0, vs0, rfl, hl0⟩ := len_succ hl
        obtain ⟨v1, vs1, rfl, hl1⟩ := len_succ hl0
        obtain ⟨v2, vs2, rfl, hl2⟩ := len_succ hl1
        obtain ⟨v3, vs3, rfl, hl3⟩ := len_succ hl2
        obtain ⟨v4, vs4, rfl, hl4⟩ := len_succ hl3
        obtain rfl := len_zero hl4
        refine WP.still 1 (by kernel_rfl) ?_
        refine WP.done (by kernel_rfl) (Shown.ok (v := .bool (x4 != x8)) (by kernel_rfl) (Step.refl _ _) ?_)
        exact ⟨trivial, trivial, trivial, trivial, trivial, trivial, congrArg Value.bool h8, trivial, trivial, trivial, trivial, trivial, trivial, trivial⟩
      · intro vs gq stq hl hf
        replace hl : vs.length = 5 := hl
        obtain ⟨v0, vs0, rfl, hl0⟩ := len_succ hl
        obtain ⟨v1, vs1, rfl, hl1⟩ := len_succ hl0
        obtain ⟨v2, vs2, rfl, hl2⟩ := len_succ hl1
        obtain ⟨v3, vs3, rfl, hl3⟩ := len_succ hl2
        obtain ⟨v4, vs4, rfl, hl4⟩ := len_succ hl3
        obtain rfl := len_zero hl4
        have hB1 := (show Box gq (t + 1) b1 26 [encA .u8 d1, [.int .i64 x1], [.int .i64 x2], [.int .i64 x3], [.slice a3 n2 c3], [.slice a4 n3 c4]] [8, 1, 1, 1, 1, 1] from hf _ (List.mem_of_getElem? (i := 0) rfl) (by kernel_rfl))
        have hR3 := (show RdS (Kd.int .u8) gq 5 a3 n2 c3 l2 from hf _ (List.mem_of_getElem? (i := 1) rfl) (by kernel_rfl))
        have hR4 := (show RdS (Kd.int .u8) gq 5 a4 n3 c4 l3 from hf _ (List.mem_of_getElem? (i := 2) rfl) (by kernel_rfl))
        have e := (show v0 = .bool false from hf _ (List.mem_of_getElem? (i := 6) rfl) (by kernel_rfl))
        subst e
        refine WP.loadB (v := AG [encA .u8 d1, [.int .i64 x1], [.int .i64 x2], [.int .i64 x3], [.slice a3 n2 c3], [.slice a4 n3 c4]]) hB1 (by kernel_rfl) (by kernel_rfl) ?_
        refine WP.done (by kernel_rfl) (Shown.ok (v := AG [encA .u8 d1, [.int .i64 x1], [.int .i64 x2], [.int .i64 x3], [.slice a3 n2 c3], [.slice a4 n3 c4]]) (by kernel_rfl) (Step.refl _ _) ?_)
        exact ⟨trivial, trivial, trivial, trivial, trivial, trivial, trivial, rfl, trivial, trivial, trivial, trivial, trivial, trivial⟩
      · intro vs gq stq hl hf
        replace hl : vs.length = 5 := hl
        obtain ⟨v0, vs0, rfl, hl0⟩ := len_succ hl
        obtain ⟨v1, vs1, rfl, hl1⟩ := len_succ hl0
        obtain ⟨v2, vs2, rfl, hl2⟩ := len_succ hl1
        obtain ⟨v3, vs3, rfl, hl3⟩ := len_succ hl2
        obtain ⟨v4, vs4, rfl, hl4⟩ := len_succ hl3
        obtain rfl := len_zero hl4
        have hR3 := (show RdS (Kd.int .u8) gq 5 a3 n2 c3 l2 from hf _ (List.mem_of_getElem? (i := 1) rfl) (by kernel_rfl))
        have hR4 := (show RdS (Kd.int .u8) gq 5 a4 n3 c4 l3 from hf _ (List.mem_of_getElem? (i := 2) rfl) (by kernel_rfl))
        have e := (show v0 = .bool false from hf _ (List.mem_of_getElem? (i := 6) rfl) (by kernel_rfl))
        subst e
        have e := (show v1 = AG [encA .u8 d1, [.int .i64 x1], [.int .i64 x2], [.int .i64 x3], [.slice a3 n2 c3], [.slice a4 n3 c4]] from hf _ (List.mem_of_getElem? (i := 7) rfl) (by kernel_rfl))
        subst e
        have hcal11 := P.baizelaw25_Of gq d1 x1 x2 x3 l2 l3 a3 n2 c3 a4 n3 c4 hR3 hR4 d4 x13 x14 x15 l9 l10 hk11
        refine WP.callC hcal11 (by kernel_rfl) ?_
        rintro _ g19 st19 ⟨a10, n9, c10, a11, n10, c11, rfl, hR10, hR11⟩
        obtain rfl := hR10.len
        obtain rfl := hR11.len
        refine WP.done (by kernel_rfl) (Shown.ok (v := AG [encA .u8 d4, [.int .i64 x13], [.int .i64 x14], [.int .i64 x15], [.slice a10 l9.length c10], [.slice a11 l10.length c11]]) (by kernel_rfl) st19.pure ?_)
        exact ⟨trivial, trivial, trivial, trivial, trivial, trivial, trivial, trivial, ⟨a10, c10, a11, c11, rfl, hR10, hR11⟩, trivial, trivial, trivial, trivial, trivial⟩
      · intro vs gq stq hl hf
        replace hl : vs.length = 5 := hl
        obtain ⟨v0, vs0, rfl, hl0⟩ := len_succ hl
        obtain ⟨v1, vs1, rfl, hl1⟩ := len_succ hl0
        obtain ⟨v2, vs2, rfl, hl2⟩ := len_succ hl1
        obtain ⟨v3, vs3, rfl, hl3⟩ := len_succ hl2
        obtain ⟨v4, vs4, rfl, hl4⟩ := len_succ hl3
        obtain rfl := len_zero hl4
        have hB3 := (show Box gq (t + 4) b2 34 [encA .u8 d2, [.int .i64 x5], [.int .i64 x6], [.int .i64 x7], [.slice a5 n4 c5], [.slice a6 n5 c6]] [8, 1, 1, 1, 1, 1] from hf _ (List.mem_of_getElem? (i := 3) rfl) (by kernel_rfl))
        have hR5 := (show OwnS (Kd.int .u8) gq (t + 2) 5 a5 n4 c5 l4 from hf _ (List.mem_of_getElem? (i := 4) rfl) (by kernel_rfl))
        have hR6 := (show OwnS (Kd.int .u8) gq (t + 3) 5 a6 n5 c6 l5 from hf _ (List.mem_of_getElem? (i := 5) rfl) (by kernel_rfl))
        have e := (show v0 = .bool false from hf _ (List.mem_of_getElem? (i := 6) rfl) (by kernel_rfl))
        subst e
        refine WP.loadB (v := AG [encA .u8 d2, [.int .i64 x5], [.int .i64 x6], [.int .i64 x7], [.slice a5 n4 c5], [.slice a6 n5 c6]]) hB3 (by kernel_rfl) (by kernel_rfl) ?_
        refine WP.done (by kernel_rfl) (Shown.ok (v := AG [encA .u8 d2, [.int .i64 x5], [.int .i64 x6], [.int .i64 x7], [.slice a5 n4 c5], [.slice a6 n5 c6]]) (by kernel_rfl) (Step.refl _ _) ?_)
        exact ⟨trivial, trivial, trivial, trivial, trivial, trivial, trivial, trivial, trivial, rfl, trivial, trivial, trivial, trivial⟩
      · intro vs gq stq hl hf
        replace hl : vs.length = 5 := hl
        obtain ⟨v0, vs0, rfl, hl0⟩ := len_succ hl
        obtain ⟨v1, vs1, rfl, hl1⟩ := len_succ hl0
        obtain ⟨v2, vs2, rfl, hl2⟩ := len_succ hl1
        obtain ⟨v3, vs3, rfl, hl3⟩ := len_succ hl2
        obtain ⟨v4, vs4, rfl, hl4⟩ := len_succ hl3
        obtain rfl := len_zero hl4
        have hR5 := (show OwnS (Kd.int .u8) gq (t + 2) 5 a5 n4 c5 l4 from hf _ (List.mem_of_getElem? (i := 4) rfl) (by kernel_rfl))
        have hR6 := (show OwnS (Kd.int .u8) gq (t + 3) 5 a6 n5 c6 l5 from hf _ (List.mem_of_getElem? (i := 5) rfl) (by kernel_rfl))
        have e := (show v0 = .bool false from hf _ (List.mem_of_getElem? (i := 6) rfl) (by kernel_rfl))
        subst e
        obtain ⟨a10, c10, a11, c11, e, hR10, hR11⟩ := (show ∃ (a10 : Option Addr) (c10 : Nat) (a11 : Option Addr) (c11 : Nat), v2 = AG [encA .u8 d4, [.int .i64 x13], [.int .i64 x14], [.int .i64 x15], [.slice a10 l9.length c10], [.slice a11 l10.length c11]] ∧ RdS (Kd.int .u8) gq 5 a10 l9.length c10 l9 ∧ RdS (Kd.int .u8) gq 5 a11 l10.length c11 l10 from hf _ (List.mem_of_getElem? (i := 8) rfl) (by kernel_rfl))
        subst e
        have e := (show v3 = AG [encA .u8 d2, [.int .i64 x5], [.int .i64 x6], [.int .i64 x7], [.slice a5 n4 c5], [.slice a6 n5 c6]] from hf _ (List.mem_of_getElem? (i := 9) rfl) (by kernel_rfl))
        subst e
        have hS4 : 0 ∉ ([(t + 2), (t + 3)] : List Nat) := by simp <;> omega
        have stl4 := GW.lend_step gq [(t + 2), (t + 3)]
        have hRl5 := hR5.lendTo hS4 (by simp)
        have hRl6 := hR6.lendTo hS4 (by simp)
        refine WP.regw (g' := GW.lend gq [(t + 2), (t + 3)]) rfl ?_
        have hcal12 := P.baizeref25_Same (GW.lend gq [(t + 2), (t + 3)]) d4 x13 x14 x15 l9 l10 d2 x5 x6 x7 l4 l5 a10 l9.length c10 a11 l10.length c11 a5 n4 c5 a6 n5 c6 (hR10.mono stl4 (WL.no (by simp <;> omega))) (hR11.mono stl4 (WL.no (by simp <;> omega))) hRl5 hRl6 q9 hk12
        refine WP.callC hcal12 (by kernel_rfl) ?_
        rintro _ g20 st20 rfl
        have st21 := (GW.back_step st20).lentS
        have hO5 := hR5.backTo hS4 (by simp) st20 (fun x => x)
        have hO6 := hR6.backTo hS4 (by simp) st20 (fun x => x)
        refine WP.regw (g' := GW.back gq g20 [(t + 2), (t + 3)]) rfl ?_
        generalize GW.back gq g20 [(t + 2), (t + 3)] = g21 at *
        refine WP.done (by kernel_rfl) (Shown.ok (v := .bool q9) (by kernel_rfl) st21 ?_)
        exact ⟨trivial, trivial, trivial, trivial, trivial, trivial, trivial, trivial, trivial, trivial, rfl, hO5, hO6, trivial⟩
    intro vs g22 st22 hl hf
    replace hl : vs.length = 5 := hl
    obtain ⟨v0, vs0, rfl, hl0⟩ := len_succ hl
    obtain ⟨v1, vs1, rfl, hl1⟩ := len_succ hl0
    obtain ⟨v2, vs2, rfl, hl2⟩ := len_succ hl1
    obtain ⟨v3, vs3, rfl, hl3⟩ := len_succ hl2
    obtain ⟨v4, vs4, rfl, hl4⟩ := len_succ hl3
    obtain rfl := len_zero hl4
    have e := (show v0 = .bool false from hf _ (List.mem_of_getElem? (i := 6) rfl) (by kernel_rfl))
    subst e
    have e := (show v4 = .bool q9 from hf _ (List.mem_of_getElem? (i := 10) rfl) (by kernel_rfl))
    subst e
    replace hR2 := hR2.mono st22 (WL.no2 (by omega) (by omega))
    replace hB1 := hB1.mono st22 (WL.no2 (by omega) (by omega))
    replace hR3 := hR3.mono st22 (WL.no2 (by omega) (by omega))
    replace hR4 := hR4.mono st22 (WL.no2 (by omega) (by omega))
    replace tot := tot.trans (st22.up2 (.inr (by omega)) (.inr (by omega)))
    refine NX.post ?_
    exact ⟨(!q9), ⟨by kernel_rfl, by kernel_rfl⟩, tot, hR2, hB1, hR3, hR4, hs⟩
  clear tot hs hR2 hB1 hR3 hR4 hB3 hR5 hR6
  rintro tm g ⟨q2, hF, tot, hR2, hB1, hR3, hR4, hs⟩
  clear ds
  obtain ⟨ds, rfl⟩ := hF.open
  clear hF
  unfold F.baizelaw25_TxDecodes.c1 at hs
  refine CP.cond (b := q2) (by kernel_rfl) (fun h2 => ?_) (fun h2 => ?_)
  · replace hs := of_if_t hs h2
    refine CP.seqR ?_
    refine WP.still 1 (by kernel_rfl) ?_
    refine WP.done (by kernel_rfl) ?_
    refine NX.then_n ?_
    refine CP.ret ?_
    refine NX.then_r ?_
    replace hs := Option.some.inj hs
    obtain rfl := hs
    exact NX.fin (v := .bool false) (Res.still (by kernel_rfl)) tot htL rfl
  replace hs := of_if_f hs h2
  refine CP.skip ?_
  refine NX.then_n ?_
  refine CP.seq ?_
  refine CP.seqR ?_
  refine WP.still 2 (by kernel_rfl) ?_
  refine WP.done (by kernel_rfl) ?_
  refine NX.then_n ?_
  refine CP.cond (b := (x8 != 0)) (by kernel_rfl) (fun h3 => ?_) (fun h3 => ?_)
  · replace hs := of_if_t hs h3
    refine CP.seqR ?_
    replace hs := Option.bind_eq_some_iff.1 hs
    obtain ⟨q3, hk5, hs⟩ := hs
    have hcal5 := P.baizelaw25_known g q3 hk5
    refine WP.callC hcal5 (by kernel_rfl) ?_
    rintro _ g10 st10 rfl
    replace hR2 := hR2.mono st10 (fun x => x)
    replace hB1 := hB1.mono st10 (fun x => x)
    replace hR3 := hR3.mono st10 (fun x => x)
    replace hR4 := hR4.mono st10 (fun x => x)
    replace tot := tot.trans st10.pure
    refine WP.still 1 (by kernel_rfl) ?_
    refine WP.done (by kernel_rfl) ?_
    refine NX.then_n ?_
    refine CP.ret ?_
    refine NX.then_r ?_
    replace hs := Option.some.inj hs
    obtain rfl := hs
    exact NX.fin (v := .bool q3) (Res.still (by kernel_rfl)) tot htL rfl
  replace hs := of_if_f hs h3
  refine CP.skip ?_
  refine NX.then_n ?_
  refine CP.seqR ?_
  refine WP.loadB (v := AG [encA .u8 d1, [.int .i64 x1], [.int .i64 x2], [.int .i64 x3], [.slice a3 n2 c3], [.slice a4 n3 c4]]) hB1 (by kernel_rfl) (by kernel_rfl) ?_
  replace hs := Option.bind_eq_some_iff.1 hs
  obtain ⟨⟨l8, x12⟩, hk6, hs⟩ := hs
  dsimp only at hs
  have hcal6 := P.tx_Tx_Encode g (t + 5) d1 x1 x2 x3 l2 l3 a3 n2 c3 a4 n3 c4 hR3 hR4 l8 x12 hk6
  refine WP.callC hcal6 (by kernel_rfl) ?_
  rintro _ g11 st11 ⟨a9, n8, c9, rfl, hR9⟩
  replace hR2 := hR2.mono st11 (fun x => x)
  replace hB1 := hB1.mono st11 (fun x => x)
  replace hR3 := hR3.mono st11 (fun x => x)
  replace hR4 := hR4.mono st11 (fun x => x)
  replace tot := tot.trans st11.pure
  refine WP.still 5 (by kernel_rfl) ?_
  refine WP.done (by kernel_rfl) ?_
  refine NX.then_n ?_
  refine CP.cut (fun tm g => ∃ (q6 : Bool), Fr 52 [(2, .bool q6)] tm ∧ Step (fun l => NoM l ∨ t ≤ l) g0 g ∧ (F.baizelaw25_TxDecodes.c2 q6) = some o1) ?_ ?_
  · refine CP.region ?_
    replace hs := Option.bind_eq_some_iff.1 hs
    obtain ⟨q7, hk9, hs⟩ := hs
    have hcal9 := P.baizelaw25_known g11 q7 hk9
    refine WP.callC hcal9 (by kernel_rfl) ?_
    rintro _ g15 st15 rfl
    replace hR2 := hR2.mono st15 (fun x => x)
    replace hR9 := hR9.mono st15 (fun x => x) (fun x => x)
    replace tot := tot.trans st15.pure
    refine WP.still 1 (by kernel_rfl) ?_
    refine WP.guard 43 (b := q7) (by kernel_rfl) (fun h6 => ?_) (fun h6 => ?_)
    · replace hs := of_if_t hs h6
      refine WP.still 4 (by kernel_rfl) ?_
      refine WP.guard 47 (b := (x12 == 0)) (by kernel_rfl) (fun h7 => ?_) (fun h7 => ?_)
      · replace hs := of_if_t hs h7
        refine WP.still 2 (by kernel_rfl) ?_
        replace hs := Option.bind_eq_some_iff.1 hs
        obtain ⟨q8, hk10, hs⟩ := hs
        have hS3 : 0 ∉ ([(t + 5)] : List Nat) := by simp <;> omega
        have stl3 := GW.lend_step g15 [(t + 5)]
        have hRl4 := hR9.lendTo hS3 (by simp)
        refine WP.regw (g' := GW.lend g15 [(t + 5)]) rfl ?_
        have hcal10 := P.baizeref01_Same (GW.lend g15 [(t + 5)]) l8 (sliceI l1 0 (imin (l1.length : Int) 600)) a9 n8 c9 a2 ((imin (l1.length : Int) 600).toNat - (0 : Int).toNat) c2 hRl4 (hR2.mono stl3 (WL.no (by simp <;> omega))) q8 hk10
        refine WP.callC hcal10 (by kernel_rfl) ?_
        rintro _ g16 st16 rfl
        have st17 := (GW.back_step st16).lentS
        have hO4 := hR9.backTo hS3 (by simp) st16 (fun x => x)
        refine WP.regw (g' := GW.back g15 g16 [(t + 5)]) rfl ?_
        generalize GW.back g15 g16 [(t + 5)] = g17 at *
        replace hR2 := hR2.mono st17 (WL.no1 (by omega))
        replace tot := tot.trans (st17.up1 (.inr (by omega)))
        clear hR9
        have hR9 : OwnS (Kd.int .u8) g17 (t + 5) 5 a9 n8 c9 l8 := hO4
        clear hO4
        refine WP.still 2 (by kernel_rfl) ?_
        refine WP.done (by kernel_rfl) ?_
        refine NX.post ?_
        exact ⟨q8, ⟨by kernel_rfl, by kernel_rfl⟩, tot, hs⟩
      replace hs := of_if_f hs h7
      refine WP.still 5 (by kernel_rfl) ?_
      refine WP.done (by kernel_rfl) ?_
      refine NX.post ?_
      exact ⟨false, ⟨by kernel_rfl, by kernel_rfl⟩, tot, hs⟩
    replace hs := of_if_f hs h6
    refine WP.still 9 (by kernel_rfl) ?_
    refine WP.done (by kernel_rfl) ?_
    refine NX.post ?_
    exact ⟨false, ⟨by kernel_rfl, by kernel_rfl⟩, tot, hs⟩
  clear tot hs hR2 hR9
  rintro tm g ⟨q6, hF, tot, hs⟩
  clear ds
  obtain ⟨ds, rfl⟩ := hF.open
  clear hF
  unfold F.baizelaw25_TxDecodes.c2 at hs
  refine CP.ret ?_
  replace hs := Option.some.inj hs
  obtain rfl := hs
  exact NX.fin (v := .bool q6) (Res.still (by kernel_rfl)) tot htL rfl
def F.baizeref01_Bytes (l1 : List Int) : Option ((List Int)) := ((F.baizeref01_Num (IntKind.u64.wrap (l1.length : Int))).bind fun l2 => (if l2.length + l1.length ≤ 140737488355328 then (some (l2 ++ l1)) else none))
theorem P.baizeref01_Bytes (g0 : GW) (r0 : Nat) (l1 : List Int) (a1 : Option Addr) (n1 : Nat) (c1 : Nat) (hR1 : RdS (Kd.int .u8) g0 5 a1 n1 c1 l1) (o1 : List Int) (hs : F.baizeref01_Bytes l1 = some o1) :
    Calls Try.prog 51 #[.slice a1 n1 c1] g0.w (Ret NoM g0 fun v g => ∃ (a_1 : Option Addr) (n_1 : Nat) (c_1 : Nat), v = .slice a_1 n_1 c_1 ∧ OwnS (Kd.int .u8) g r0 5 a_1 n_1 c_1 o1) := by
  refine calls_of (args := [.slice a1 n1 c1]) Try.func51 rfl (r0 + 0) ?_
  intro t ht htL
  refine ⟨_, rfl, ?_⟩
  refine CP.refr 9 [(0, .slice a1 n1 c1)] (by kernel_rfl) (by kernel_rfl) ?_
  intro ds
  have tot : Step (fun l => NoM l ∨ t ≤ l) g0 g0 := Step.refl _ _
  unfold F.baizeref01_Bytes at hs
  refine CP.seqR ?_
  refine WP.still 1 (by kernel_rfl) ?_
  refine WP.done (by kernel_rfl) ?_
  refine NX.then_n ?_
  refine CP.seqR ?_
  refine WP.still 1 (by kernel_rfl) ?_
  refine WP.len (a := a1) (cp := c1) hR1.len (by kernel_rfl) ?_
  refine WP.still 1 (by kernel_rfl) ?_
  replace hs := Option.bind_eq_some_iff.1 hs
  obtain ⟨l2, hk1, hs⟩ := hs
  have hcal1 := P.baizeref01_Num g0 (t + 1) (IntKind.u64.wrap (l1.length : Int)) l2 hk1
  refine WP.callC hcal1 (by kernel_rfl) ?_
  rintro _ g1 st1 ⟨a2, n2, c2, rfl, hR2⟩
  replace hR1 := hR1.mono st1 (fun x => x)
  replace tot := tot.trans st1.pure
  refine WP.still 1 (by kernel_rfl) ?_
  by_cases hc1 : l2.length + l1.length ≤ 140737488355328
  case neg => rw [if_neg hc1] at hs; cases hs
  replace hs := of_if_p hs hc1
  refine WP.append (kd := (Kd.int .u8)) (t := 24) (e := 5) (bytes := 1) (a2 := a1) (c2 := c1) hR2 hR1.src hR1.len (by kernel_rfl) (by kernel_rfl) (by omega) (by simp only [maxLen]; omega) (by omega) ?_
  intro g2 a3 c3 st2 hR3
  replace hR1 := hR1.mono st2 (WL.no1 (by omega))
  replace tot := tot.trans (st2.up1 (.inr (by omega)))
  refine WP.still 1 (by kernel_rfl) ?_
  refine WP.done (by kernel_rfl) ?_
  refine NX.then_n ?_
  refine CP.ret ?_
  obtain ⟨g3, hw1, st3, hnew⟩ := hR3.relab (by omega) r0
  refine NX.regw hw1 ?_
  replace tot := tot.trans (st3.up1 (.inr (by omega)))
  clear hR3
  have hR3 := hnew
  clear hnew
  replace hs := Option.some.inj hs
  obtain rfl := hs
  exact NX.fin (v := .slice a3 (n2 + n1) c3) (Res.still (by kernel_rfl)) tot htL ⟨a3, (n2 + n1), c3, rfl, hR3⟩
end Go.Proofs.Ytjcmjedphijhjaa
