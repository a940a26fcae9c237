/-
  Walks, written by program: each Go function computes the plain function of its name, in whatever world its arguments' facts hold.
-/
import Derived.Test.YtjcmjedphijhjaaWTx3
namespace Go.Proofs.Ytjcmjedphijhjaa
open Go.RowKit Go.Lab
attribute [local irreducible] WP CP NX wpList Code.wp Calls
set_option maxRecDepth 100000
set_option maxHeartbeats 4000000
set_option linter.unusedVariables false

def N.baizeref25_head_0 : List (List Nat) := [[], [0], [0, 1], [0, 1, 2], [], [4], [0, 1, 2, 3, 4, 5], [0, 1, 2, 3, 4, 5, 6], [0, 1, 2, 3, 4, 5, 6, 7], [0, 1, 2, 3, 4, 5, 6, 7, 8]]
def N.baizeref25_head_1 : List (List Nat) := [[], [], [1], [1, 2], [1, 2, 3], [0, 1, 2, 3, 4], [], [6], [6, 7], [0, 1, 2, 3, 4, 5, 6, 7, 8], [0, 1, 2, 3, 4, 5, 6, 7, 8, 9], [0, 1, 2, 3, 4, 5, 6, 7, 8, 9, 10]]
def F.baizeref25_head (d1 : Arr Int 8) (x1 : Int) (x2 : Int) (x3 : Int) (l1 : List Int) (l2 : List Int) : Option ((List Int)) := ((F.baizeref01_Num (IntKind.u64.wrap x3)).bind fun l3 => ((F.baizeref02_Num d1).bind fun x4 => ((F.baizeref01_Num x4).bind fun l4 => (if l3.length + l4.length ≤ 140737488355328 then ((F.baizeref01_Num (IntKind.u64.wrap x1)).bind fun l5 => (if (l3 ++ l4).length + l5.length ≤ 140737488355328 then ((F.baizeref01_Num (IntKind.u64.wrap x2)).bind fun l6 => (if ((l3 ++ l4) ++ l5).length + l6.length ≤ 140737488355328 then ((F.baizeref01_Bytes l1).bind fun l7 => (if (((l3 ++ l4) ++ l5) ++ l6).length + l7.length ≤ 140737488355328 then (some ((((l3 ++ l4) ++ l5) ++ l6) ++ l7)) else none)) else none)) else none)) else none))))
theorem P.baizeref25_head (g0 : GW) (r0 : Nat) (d1 : Arr Int 8) (x1 : Int) (x2 : Int) (x3 : Int) (l1 : List Int) (l2 : List Int) (a1 : Option Addr) (n1 : Nat) (c1 : Nat) (a2 : Option Addr) (n2 : Nat) (c2 : Nat) (hR1 : RdS (Kd.int .u8) g0 5 a1 n1 c1 l1) (hR2 : RdS (Kd.int .u8) g0 5 a2 n2 c2 l2) (o1 : List Int) (hs : F.baizeref25_head d1 x1 x2 x3 l1 l2 = some o1) :
    Calls Try.prog 50 #[AG [encA .u8 d1, [.int .i64 x1], [.int .i64 x2], [.int .i64 x3], [.slice a1 n1 c1], [.slice a2 n2 c2]]] g0.w (Ret NoM g0 fun v g => ∃ (a_1 : Option Addr) (n_1 : Nat) (c_1 : Nat), v = .slice a_1 n_1 c_1 ∧ OwnS (Kd.int .u8) g r0 5 a_1 n_1 c_1 o1) := by
  refine calls_of (args := [AG [encA .u8 d1, [.int .i64 x1], [.int .i64 x2], [.int .i64 x3], [.slice a1 n1 c1], [.slice a2 n2 c2]]]) Try.func50 rfl (r0 + 0) ?_
  intro t ht htL
  refine ⟨_, rfl, ?_⟩
  refine CP.refr 29 [(0, AG [encA .u8 d1, [.int .i64 x1], [.int .i64 x2], [.int .i64 x3], [.slice a1 n1 c1], [.slice a2 n2 c2]])] (by kernel_rfl) (by kernel_rfl) ?_
  intro ds
  have tot : Step (fun l => NoM l ∨ t ≤ l) g0 g0 := Step.refl _ _
  unfold F.baizeref25_head at hs
  refine CP.seqR ?_
  refine WP.alloc (T := 34) (t + 1) [encA .u8 d1, [.int .i64 x1], [.int .i64 x2], [.int .i64 x3], [.slice a1 n1 c1], [.slice a2 n2 c2]] [8, 1, 1, 1, 1, 1] (by kernel_rfl) (by simp [len_encA]) ?_
  intro g1 b1 st1 hB1
  replace hR1 := hR1.mono st1 (fun x => x)
  replace hR2 := hR2.mono st1 (fun x => x)
  replace tot := tot.trans st1.pure
  refine WP.still 1 (by kernel_rfl) ?_
  refine WP.done (by kernel_rfl) ?_
  refine NX.then_n ?_
  refine CP.seq ?_
  replace hs := Option.bind_eq_some_iff.1 hs
  obtain ⟨l3, hk1, hs⟩ := hs
  replace hs := Option.bind_eq_some_iff.1 hs
  obtain ⟨x4, hk2, hs⟩ := hs
  replace hs := Option.bind_eq_some_iff.1 hs
  obtain ⟨l4, hk3, hs⟩ := hs
  by_cases hc1 : l3.length + l4.length ≤ 140737488355328
  case neg => rw [if_neg hc1] at hs; cases hs
  replace hs := of_if_p hs hc1
  refine CP.drawL (by kernel_rfl) [1, 3, 5, 6, 7, 8] N.baizeref25_head_0 [⟨none, [], [], fun l g => Box g (t + 1) b1 34 [encA .u8 d1, [.int .i64 x1], [.int .i64 x2], [.int .i64 x3], [.slice a1 n1 c1], [.slice a2 n2 c2]] [8, 1, 1, 1, 1, 1]⟩, ⟨none, [], [], fun l g => RdS (Kd.int .u8) g 5 a1 n1 c1 l1⟩, ⟨none, [], [], fun l g => RdS (Kd.int .u8) g 5 a2 n2 c2 l2⟩, ⟨some 0, [], [0], fun l g => l.getD 0 undef = .int .i64 x3⟩, ⟨some 1, [0], [1], fun l g => ∃ (a3 : Option Addr) (c3 : Nat), l.getD 0 undef = .slice a3 l3.length c3 ∧ OwnS (Kd.int .u8) g (t + 2) 5 a3 l3.length c3 l3⟩, ⟨some 2, [], [2], fun l g => l.getD 0 undef = AG [encA .u8 d1]⟩, ⟨some 3, [], [3], fun l g => l.getD 0 undef = .int .u64 x4⟩, ⟨some 4, [], [4], fun l g => ∃ (a4 : Option Addr) (c4 : Nat), l.getD 0 undef = .slice a4 l4.length c4 ∧ OwnS (Kd.int .u8) g (t + 3) 5 a4 l4.length c4 l4⟩, ⟨some 5, [0], [5], fun l g => ∃ (a5 : Option Addr) (c5 : Nat), l.getD 0 undef = .slice a5 (l3.length + l4.length) c5 ∧ OwnS (Kd.int .u8) g (t + 2) 5 a5 (l3.length + l4.length) c5 (l3 ++ l4)⟩, ⟨some 5, [], [1], fun l g => ∃ (a3 : Option Addr) (c3 : Nat), l.getD 0 undef = .slice a3 l3.length c3⟩] [[], [], [], [], [], [0]] [(t + 2)] [0, 4] [2, 9] (by kernel_rfl) (by simp <;> omega) (by simp) ⟨fun _ _ _ _ st h0 hl hj hB1 => (hB1.mono st (fun h => absurd (hl _ h) (by simp <;> omega))), fun _ _ _ _ st h0 hl hj hR1 => (RdS.mono (e := 5) hR1 st h0), fun _ _ _ _ st h0 hl hj hR2 => (RdS.mono (e := 5) hR2 st h0), fun _ _ _ _ st h0 hl hj e => e, fun _ _ _ _ st h0 hl hj ⟨a3, c3, e, hR3⟩ => ⟨a3, c3, e, (hR3.mono st h0 (hj 0 (by simp) _ rfl))⟩, fun _ _ _ _ st h0 hl hj e => e, fun _ _ _ _ st h0 hl hj e => e, fun _ _ _ _ st h0 hl hj ⟨a4, c4, e, hR4⟩ => ⟨a4, c4, e, (hR4.mono st h0 (fun h => absurd (hl _ h) (by simp <;> omega)))⟩, fun _ _ _ _ st h0 hl hj ⟨a5, c5, e, hR5⟩ => ⟨a5, c5, e, (hR5.mono st h0 (hj 0 (by simp) _ rfl))⟩, fun _ _ _ _ st h0 hl hj ⟨a3, c3, e⟩ => ⟨a3, c3, e⟩, trivial⟩ ⟨hB1, hR1, hR2, trivial, trivial, trivial, trivial, trivial, trivial, trivial, trivial⟩ (by kernel_rfl) (fun vs => by kernel_rfl) ?_ ?_ ?_
  · intro j hj
    have hq : j = 0 ∨ j = 1 := by have h : j < 2 := hj; omega
    rcases hq with rfl | rfl
    · intro vs gq stq hl hf
      replace hl : vs.length = 6 := hl
      obtain ⟨v0, vs0, rfl, hl0⟩ := len_succ hl
      obtain ⟨v1, vs1, rfl, hl1⟩ := len_succ hl0
      obtain ⟨v2, vs2, rfl, hl2⟩ := len_succ hl1
      obtain ⟨v3, vs3, rfl, hl3⟩ := len_succ hl2
      obtain ⟨v4, vs4, rfl, hl4⟩ := len_succ hl3
      obtain ⟨v5, vs5, rfl, hl5⟩ := len_succ hl4
      obtain rfl := len_zero hl5
      have e := (show v0 = .int .i64 x3 from hf _ (List.mem_of_getElem? (i := 3) rfl) (by kernel_rfl))
      subst e
      show Option.isSome _ = true
      kernel_rfl
    · intro vs gq stq hl hf
      replace hl : vs.length = 6 := hl
      obtain ⟨v0, vs0, rfl, hl0⟩ := len_succ hl
      obtain ⟨v1, vs1, rfl, hl1⟩ := len_succ hl0
      obtain ⟨v2, vs2, rfl, hl2⟩ := len_succ hl1
      obtain ⟨v3, vs3, rfl, hl3⟩ := len_succ hl2
      obtain ⟨v4, vs4, rfl, hl4⟩ := len_succ hl3
      obtain ⟨v5, vs5, rfl, hl5⟩ := len_succ hl4
      obtain rfl := len_zero hl5
      obtain ⟨a5, c5, e, hR5⟩ := (show ∃ (a5 : Option Addr) (c5 : Nat), v5 = .slice a5 (l3.length + l4.length) c5 ∧ OwnS (Kd.int .u8) gq (t + 2) 5 a5 (l3.length + l4.length) c5 (l3 ++ l4) from hf _ (List.mem_of_getElem? (i := 8) rfl) (by kernel_rfl))
      subst e
      show Option.isSome _ = true
      kernel_rfl
  · intro j hj
    have hq : j = 0 ∨ j = 1 ∨ j = 2 ∨ j = 3 ∨ j = 4 ∨ j = 5 := by have h : j < 6 := hj; omega
    rcases hq with rfl | rfl | rfl | rfl | rfl | rfl
    · intro vs gq stq hl hf
      replace hl : vs.length = 6 := hl
      obtain ⟨v0, vs0, rfl, hl0⟩ := len_succ hl
      obtain ⟨v1, vs1, rfl, hl1⟩ := len_succ hl0
      obtain ⟨v2, vs2, rfl, hl2⟩ := len_succ hl1
      obtain ⟨v3, vs3, rfl, hl3⟩ := len_succ hl2
      obtain ⟨v4, vs4, rfl, hl4⟩ := len_succ hl3
      obtain ⟨v5, vs5, rfl, hl5⟩ := len_succ hl4
      obtain rfl := len_zero hl5
      have hB1 := (show Box gq (t + 1) b1 34 [encA .u8 d1, [.int .i64 x1], [.int .i64 x2], [.int .i64 x3], [.slice a1 n1 c1], [.slice a2 n2 c2]] [8, 1, 1, 1, 1, 1] from hf _ (List.mem_of_getElem? (i := 0) rfl) (by kernel_rfl))
      have hR1 := (show RdS (Kd.int .u8) gq 5 a1 n1 c1 l1 from hf _ (List.mem_of_getElem? (i := 1) rfl) (by kernel_rfl))
      have hR2 := (show RdS (Kd.int .u8) gq 5 a2 n2 c2 l2 from hf _ (List.mem_of_getElem? (i := 2) rfl) (by kernel_rfl))
      refine WP.loadB (v := .int .i64 x3) hB1 (by kernel_rfl) (by kernel_rfl) ?_
      refine WP.done (by kernel_rfl) (Shown.ok (v := .int .i64 x3) (by kernel_rfl) (Step.refl _ _) ?_)
      exact ⟨trivial, trivial, trivial, rfl, trivial, trivial, trivial, trivial, trivial, trivial, trivial⟩
    · intro vs gq stq hl hf
      replace hl : vs.length = 6 := hl
      obtain ⟨v0, vs0, rfl, hl0⟩ := len_succ hl
      obtain ⟨v1, vs1, rfl, hl1⟩ := len_succ hl0
      obtain ⟨v2, vs2, rfl, hl2⟩ := len_succ hl1
      obtain ⟨v3, vs3, rfl, hl3⟩ := len_succ hl2
      obtain ⟨v4, vs4, rfl, hl4⟩ := len_succ hl3
      obtain ⟨v5, vs5, rfl, hl5⟩ := len_succ hl4
      obtain rfl := len_zero hl5
      have e := (show v0 = .int .i64 x3 from hf _ (List.mem_of_getElem? (i := 3) rfl) (by kernel_rfl))
      subst e
      have hcal1 := P.baizeref01_Num gq (t + 2) (IntKind.u64.wrap x3) l3 hk1
      refine WP.callC hcal1 (by kernel_rfl) ?_
      rintro _ g2 st2 ⟨a3, n3, c3, rfl, hR3⟩
      obtain rfl := hR3.len
      refine WP.done (by kernel_rfl) (Shown.ok (v := .slice a3 l3.length c3) (by kernel_rfl) st2.pure ?_)
      exact ⟨trivial, trivial, trivial, trivial, ⟨a3, c3, rfl, hR3⟩, trivial, trivial, trivial, trivial, trivial, trivial⟩
    · intro vs gq stq hl hf
      replace hl : vs.length = 6 := hl
      obtain ⟨v0, vs0, rfl, hl0⟩ := len_succ hl
      obtain ⟨v1, vs1, rfl, hl1⟩ := len_succ hl0
      obtain ⟨v2, vs2, rfl, hl2⟩ := len_succ hl1
      obtain ⟨v3, vs3, rfl, hl3⟩ := len_succ hl2
      obtain ⟨v4, vs4, rfl, hl4⟩ := len_succ hl3
      obtain ⟨v5, vs5, rfl, hl5⟩ := len_succ hl4
      obtain rfl := len_zero hl5
      have hB1 := (show Box gq (t + 1) b1 34 [encA .u8 d1, [.int .i64 x1], [.int .i64 x2], [.int .i64 x3], [.slice a1 n1 c1], [.slice a2 n2 c2]] [8, 1, 1, 1, 1, 1] from hf _ (List.mem_of_getElem? (i := 0) rfl) (by kernel_rfl))
      have hR1 := (show RdS (Kd.int .u8) gq 5 a1 n1 c1 l1 from hf _ (List.mem_of_getElem? (i := 1) rfl) (by kernel_rfl))
      have hR2 := (show RdS (Kd.int .u8) gq 5 a2 n2 c2 l2 from hf _ (List.mem_of_getElem? (i := 2) rfl) (by kernel_rfl))
      refine WP.loadB (v := AG [encA .u8 d1]) hB1 (by kernel_rfl) (by kernel_rfl) ?_
      refine WP.done (by kernel_rfl) (Shown.ok (v := AG [encA .u8 d1]) (by kernel_rfl) (Step.refl _ _) ?_)
      exact ⟨trivial, trivial, trivial, trivial, trivial, rfl, trivial, trivial, trivial, trivial, trivial⟩
    · intro vs gq stq hl hf
      replace hl : vs.length = 6 := hl
      obtain ⟨v0, vs0, rfl, hl0⟩ := len_succ hl
      obtain ⟨v1, vs1, rfl, hl1⟩ := len_succ hl0
      obtain ⟨v2, vs2, rfl, hl2⟩ := len_succ hl1
      obtain ⟨v3, vs3, rfl, hl3⟩ := len_succ hl2
      obtain ⟨v4, vs4, rfl, hl4⟩ := len_succ hl3
      obtain ⟨v5, vs5, rfl, hl5⟩ := len_succ hl4
      obtain rfl := len_zero hl5
      have e := (show v2 = AG [encA .u8 d1] from hf _ (List.mem_of_getElem? (i := 5) rfl) (by kernel_rfl))
      subst e
      have hcal2 := P.baizeref02_Num gq d1 x4 hk2
      refine WP.callC hcal2 (by kernel_rfl) ?_
      rintro _ g3 st3 rfl
      refine WP.done (by kernel_rfl) (Shown.ok (v := .int .u64 x4) (by kernel_rfl) st3.pure ?_)
      exact ⟨trivial, trivial, trivial, trivial, trivial, trivial, rfl, trivial, trivial, trivial, trivial⟩
    · intro vs gq stq hl hf
      replace hl : vs.length = 6 := hl
      obtain ⟨v0, vs0, rfl, hl0⟩ := len_succ hl
      obtain ⟨v1, vs1, rfl, hl1⟩ := len_succ hl0
      obtain ⟨v2, vs2, rfl, hl2⟩ := len_succ hl1
      obtain ⟨v3, vs3, rfl, hl3⟩ := len_succ hl2
      obtain ⟨v4, vs4, rfl, hl4⟩ := len_succ hl3
      obtain ⟨v5, vs5, rfl, hl5⟩ := len_succ hl4
      obtain rfl := len_zero hl5
      have e := (show v3 = .int .u64 x4 from hf _ (List.mem_of_getElem? (i := 6) rfl) (by kernel_rfl))
      subst e
      have hcal3 := P.baizeref01_Num gq (t + 3) x4 l4 hk3
      refine WP.callC hcal3 (by kernel_rfl) ?_
      rintro _ g4 st4 ⟨a4, n4, c4, rfl, hR4⟩
      obtain rfl := hR4.len
      refine WP.done (by kernel_rfl) (Shown.ok (v := .slice a4 l4.length c4) (by kernel_rfl) st4.pure ?_)
      exact ⟨trivial, trivial, trivial, trivial, trivial, trivial, trivial, ⟨a4, c4, rfl, hR4⟩, trivial, trivial, trivial⟩
    · intro vs gq stq hl hf
      replace hl : vs.length = 6 := hl
      obtain ⟨v0, vs0, rfl, hl0⟩ := len_succ hl
      obtain ⟨v1, vs1, rfl, hl1⟩ := len_succ hl0
      obtain ⟨v2, vs2, rfl, hl2⟩ := len_succ hl1
      obtain ⟨v3, vs3, rfl, hl3⟩ := len_succ hl2
      obtain ⟨v4, vs4, rfl, hl4⟩ := len_succ hl3
      obtain ⟨v5, vs5, rfl, hl5⟩ := len_succ hl4
      obtain rfl := len_zero hl5
      obtain ⟨a3, c3, e, hR3⟩ := (show ∃ (a3 : Option Addr) (c3 : Nat), v1 = .slice a3 l3.length c3 ∧ OwnS (Kd.int .u8) gq (t + 2) 5 a3 l3.length c3 l3 from hf _ (List.mem_of_getElem? (i := 4) rfl) (by kernel_rfl))
      subst e
      obtain ⟨a4, c4, e, hR4⟩ := (show ∃ (a4 : Option Addr) (c4 : Nat), v4 = .slice a4 l4.length c4 ∧ OwnS (Kd.int .u8) gq (t + 3) 5 a4 l4.length c4 l4 from hf _ (List.mem_of_getElem? (i := 7) rfl) (by kernel_rfl))
      subst e
      refine WP.append (kd := (Kd.int .u8)) (t := 24) (e := 5) (bytes := 1) (a2 := a4) (c2 := c4) hR3 hR4.src hR4.len (by kernel_rfl) (by kernel_rfl) (by omega) (by simp only [maxLen]; omega) (by omega) ?_
      intro g5 a5 c5 st5 hR5
      refine WP.done (by kernel_rfl) (Shown.ok (v := .slice a5 (l3.length + l4.length) c5) (by kernel_rfl) st5 ?_)
      exact ⟨trivial, trivial, trivial, trivial, trivial, trivial, trivial, trivial, ⟨a5, c5, rfl, hR5⟩, ⟨a3, c3, rfl⟩, trivial⟩
  intro vs g6 st6 hl hf
  replace hl : vs.length = 6 := hl
  obtain ⟨v0, vs0, rfl, hl0⟩ := len_succ hl
  obtain ⟨v1, vs1, rfl, hl1⟩ := len_succ hl0
  obtain ⟨v2, vs2, rfl, hl2⟩ := len_succ hl1
  obtain ⟨v3, vs3, rfl, hl3⟩ := len_succ hl2
  obtain ⟨v4, vs4, rfl, hl4⟩ := len_succ hl3
  obtain ⟨v5, vs5, rfl, hl5⟩ := len_succ hl4
  obtain rfl := len_zero hl5
  obtain ⟨a5, c5, e, hR5⟩ := (show ∃ (a5 : Option Addr) (c5 : Nat), v5 = .slice a5 (l3.length + l4.length) c5 ∧ OwnS (Kd.int .u8) g6 (t + 2) 5 a5 (l3.length + l4.length) c5 (l3 ++ l4) from hf _ (List.mem_of_getElem? (i := 8) rfl) (by kernel_rfl))
  subst e
  replace hB1 := hB1.mono st6 (WL.no1 (by omega))
  replace hR1 := hR1.mono st6 (WL.no1 (by omega))
  replace hR2 := hR2.mono st6 (WL.no1 (by omega))
  replace tot := tot.trans (st6.up1 (.inr (by omega)))
  refine NX.then_n ?_
  refine CP.refr 29 [(1, .pointer (some ⟨b1, 0, none⟩)), (3, .slice a5 (l3.length + l4.length) c5)] (by kernel_rfl) (by kernel_rfl) ?_
  clear ds
  intro ds
  refine CP.seq ?_
  replace hs := Option.bind_eq_some_iff.1 hs
  obtain ⟨l5, hk4, hs⟩ := hs
  by_cases hc2 : (l3 ++ l4).length + l5.length ≤ 140737488355328
  case neg => rw [if_neg hc2] at hs; cases hs
  replace hs := of_if_p hs hc2
  replace hs := Option.bind_eq_some_iff.1 hs
  obtain ⟨l6, hk5, hs⟩ := hs
  by_cases hc3 : ((l3 ++ l4) ++ l5).length + l6.length ≤ 140737488355328
  case neg => rw [if_neg hc3] at hs; cases hs
  replace hs := of_if_p hs hc3
  refine CP.drawL (by kernel_rfl) [2, 4, 5, 7, 9, 10] N.baizeref25_head_1 [⟨none, [], [], fun l g => Box g (t + 1) b1 34 [encA .u8 d1, [.int .i64 x1], [.int .i64 x2], [.int .i64 x3], [.slice a1 n1 c1], [.slice a2 n2 c2]] [8, 1, 1, 1, 1, 1]⟩, ⟨none, [], [], fun l g => RdS (Kd.int .u8) g 5 a1 n1 c1 l1⟩, ⟨none, [], [], fun l g => RdS (Kd.int .u8) g 5 a2 n2 c2 l2⟩, ⟨none, [0], [], fun l g => OwnS (Kd.int .u8) g (t + 2) 5 a5 (l3.length + l4.length) c5 (l3 ++ l4)⟩, ⟨some 0, [], [0], fun l g => l.getD 0 undef = .int .i64 x1⟩, ⟨some 1, [], [1], fun l g => ∃ (a6 : Option Addr) (c6 : Nat), l.getD 0 undef = .slice a6 l5.length c6 ∧ OwnS (Kd.int .u8) g (t + 4) 5 a6 l5.length c6 l5⟩, ⟨some 2, [0], [2], fun l g => ∃ (a7 : Option Addr) (c7 : Nat), l.getD 0 undef = .slice a7 ((l3.length + l4.length) + l5.length) c7 ∧ OwnS (Kd.int .u8) g (t + 2) 5 a7 ((l3.length + l4.length) + l5.length) c7 ((l3 ++ l4) ++ l5)⟩, ⟨some 3, [], [3], fun l g => l.getD 0 undef = .int .i64 x2⟩, ⟨some 4, [], [4], fun l g => ∃ (a8 : Option Addr) (c8 : Nat), l.getD 0 undef = .slice a8 l6.length c8 ∧ OwnS (Kd.int .u8) g (t + 5) 5 a8 l6.length c8 l6⟩, ⟨some 5, [0], [5], fun l g => ∃ (a9 : Option Addr) (c9 : Nat), l.getD 0 undef = .slice a9 (((l3.length + l4.length) + l5.length) + l6.length) c9 ∧ OwnS (Kd.int .u8) g (t + 2) 5 a9 (((l3.length + l4.length) + l5.length) + l6.length) c9 (((l3 ++ l4) ++ l5) ++ l6)⟩, ⟨some 5, [], [2], fun l g => ∃ (a7 : Option Addr) (c7 : Nat), l.getD 0 undef = .slice a7 ((l3.length + l4.length) + l5.length) c7⟩] [[], [], [0], [], [], [0]] [(t + 2)] [0, 1, 6] [3, 8, 11] (by kernel_rfl) (by simp <;> omega) (by simp) ⟨fun _ _ _ _ st h0 hl hj hB1 => (hB1.mono st (fun h => absurd (hl _ h) (by simp <;> omega))), fun _ _ _ _ st h0 hl hj hR1 => (RdS.mono (e := 5) hR1 st h0), fun _ _ _ _ st h0 hl hj hR2 => (RdS.mono (e := 5) hR2 st h0), fun _ _ _ _ st h0 hl hj hR5 => (hR5.mono st h0 (hj 0 (by simp) _ rfl)), fun _ _ _ _ st h0 hl hj e => e, fun _ _ _ _ st h0 hl hj ⟨a6, c6, e, hR6⟩ => ⟨a6, c6, e, (hR6.mono st h0 (fun h => absurd (hl _ h) (by simp <;> omega)))⟩, fun _ _ _ _ st h0 hl hj ⟨a7, c7, e, hR7⟩ => ⟨a7, c7, e, (hR7.mono st h0 (hj 0 (by simp) _ rfl))⟩, fun _ _ _ _ st h0 hl hj e => e, fun _ _ _ _ st h0 hl hj ⟨a8, c8, e, hR8⟩ => ⟨a8, c8, e, (hR8.mono st h0 (fun h => absurd (hl _ h) (by simp <;> omega)))⟩, fun _ _ _ _ st h0 hl hj ⟨a9, c9, e, hR9⟩ => ⟨a9, c9, e, (hR9.mono st h0 (hj 0 (by simp) _ rfl))⟩, fun _ _ _ _ st h0 hl hj ⟨a7, c7, e⟩ => ⟨a7, c7, e⟩, trivial⟩ ⟨hB1, hR1, hR2, hR5, trivial, trivial, trivial, trivial, trivial, trivial, trivial, trivial⟩ (by kernel_rfl) (fun vs => by kernel_rfl) ?_ ?_ ?_
  · intro j hj
    have hq : j = 0 ∨ j = 1 ∨ j = 2 := by have h : j < 3 := hj; omega
    rcases hq with rfl | rfl | rfl
    · intro vs gq stq hl hf
      replace hl : vs.length = 6 := hl
      obtain ⟨v0, vs0, rfl, hl0⟩ := len_succ hl
      obtain ⟨v1, vs1, rfl, hl1⟩ := len_succ hl0
      obtain ⟨v2, vs2, rfl, hl2⟩ := len_succ hl1
      obtain ⟨v3, vs3, rfl, hl3⟩ := len_succ hl2
      obtain ⟨v4, vs4, rfl, hl4⟩ := len_succ hl3
      obtain ⟨v5, vs5, rfl, hl5⟩ := len_succ hl4
      obtain rfl := len_zero hl5
      have e := (show v0 = .int .i64 x1 from hf _ (List.mem_of_getElem? (i := 4) rfl) (by kernel_rfl))
      subst e
      show Option.isSome _ = true
      kernel_rfl
    · intro vs gq stq hl hf
      replace hl : vs.length = 6 := hl
      obtain ⟨v0, vs0, rfl, hl0⟩ := len_succ hl
      obtain ⟨v1, vs1, rfl, hl1⟩ := len_succ hl0
      obtain ⟨v2, vs2, rfl, hl2⟩ := len_succ hl1
      obtain ⟨v3, vs3, rfl, hl3⟩ := len_succ hl2
      obtain ⟨v4, vs4, rfl, hl4⟩ := len_succ hl3
      obtain ⟨v5, vs5, rfl, hl5⟩ := len_succ hl4
      obtain rfl := len_zero hl5
      have e := (show v3 = .int .i64 x2 from hf _ (List.mem_of_getElem? (i := 7) rfl) (by kernel_rfl))
      subst e
      show Option.isSome _ = true
      kernel_rfl
    · intro vs gq stq hl hf
      replace hl : vs.length = 6 := hl
      obtain ⟨v0, vs0, rfl, hl0⟩ := len_succ hl
      obtain ⟨v1, vs1, rfl, hl1⟩ := len_succ hl0
      obtain ⟨v2, vs2, rfl, hl2⟩ := len_succ hl1
      obtain ⟨v3, vs3, rfl, hl3⟩ := len_succ hl2
      obtain ⟨v4, vs4, rfl, hl4⟩ := len_succ hl3
      obtain ⟨v5, vs5, rfl, hl5⟩ := len_succ hl4
      obtain rfl := len_zero hl5
      obtain ⟨a9, c9, e, hR9⟩ := (show ∃ (a9 : Option Addr) (c9 : Nat), v5 = .slice a9 (((l3.length + l4.length) + l5.length) + l6.length) c9 ∧ OwnS (Kd.int .u8) gq (t + 2) 5 a9 (((l3.length + l4.length) + l5.length) + l6.length) c9 (((l3 ++ l4) ++ l5) ++ l6) from hf _ (List.mem_of_getElem? (i := 9) rfl) (by kernel_rfl))
      subst e
      show Option.isSome _ = true
      kernel_rfl
  · intro j hj
    have hq : j = 0 ∨ j = 1 ∨ j = 2 ∨ j = 3 ∨ j = 4 ∨ j = 5 := by have h : j < 6 := hj; omega
    rcases hq with rfl | rfl | rfl | rfl | rfl | rfl
    · intro vs gq stq hl hf
      replace hl : vs.length = 6 := hl
      obtain ⟨v0, vs0, rfl, hl0⟩ := len_succ hl
      obtain ⟨v1, vs1, rfl, hl1⟩ := len_succ hl0
      obtain ⟨v2, vs2, rfl, hl2⟩ := len_succ hl1
      obtain ⟨v3, vs3, rfl, hl3⟩ := len_succ hl2
      obtain ⟨v4, vs4, rfl, hl4⟩ := len_succ hl3
      obtain ⟨v5, vs5, rfl, hl5⟩ := len_succ hl4
      obtain rfl := len_zero hl5
      have hB1 := (show Box gq (t + 1) b1 34 [encA .u8 d1, [.int .i64 x1], [.int .i64 x2], [.int .i64 x3], [.slice a1 n1 c1], [.slice a2 n2 c2]] [8, 1, 1, 1, 1, 1] from hf _ (List.mem_of_getElem? (i := 0) rfl) (by kernel_rfl))
      have hR1 := (show RdS (Kd.int .u8) gq 5 a1 n1 c1 l1 from hf _ (List.mem_of_getElem? (i := 1) rfl) (by kernel_rfl))
      have hR2 := (show RdS (Kd.int .u8) gq 5 a2 n2 c2 l2 from hf _ (List.mem_of_getElem? (i := 2) rfl) (by kernel_rfl))
      refine WP.loadB (v := .int .i64 x1) hB1 (by kernel_rfl) (by kernel_rfl) ?_
      refine WP.done (by kernel_rfl) (Shown.ok (v := .int .i64 x1) (by kernel_rfl) (Step.refl _ _) ?_)
      exact ⟨trivial, trivial, trivial, trivial, rfl, trivial, trivial, trivial, trivial, trivial, trivial, trivial⟩
    · intro vs gq stq hl hf
      replace hl : vs.length = 6 := hl
      obtain ⟨v0, vs0, rfl, hl0⟩ := len_succ hl
      obtain ⟨v1, vs1, rfl, hl1⟩ := len_succ hl0
      obtain ⟨v2, vs2, rfl, hl2⟩ := len_succ hl1
      obtain ⟨v3, vs3, rfl, hl3⟩ := len_succ hl2
      obtain ⟨v4, vs4, rfl, hl4⟩ := len_succ hl3
      obtain ⟨v5, vs5, rfl, hl5⟩ := len_succ hl4
      obtain rfl := len_zero hl5
      have e := (show v0 = .int .i64 x1 from hf _ (List.mem_of_getElem? (i := 4) rfl) (by kernel_rfl))
      subst e
      have hcal4 := P.baizeref01_Num gq (t + 4) (IntKind.u64.wrap x1) l5 hk4
      refine WP.callC hcal4 (by kernel_rfl) ?_
      rintro _ g7 st7 ⟨a6, n5, c6, rfl, hR6⟩
      obtain rfl := hR6.len
      refine WP.done (by kernel_rfl) (Shown.ok (v := .slice a6 l5.length c6) (by kernel_rfl) st7.pure ?_)
      exact ⟨trivial, trivial, trivial, trivial, trivial, ⟨a6, c6, rfl, hR6⟩, trivial, trivial, trivial, trivial, trivial, trivial⟩
    · intro vs gq stq hl hf
      replace hl : vs.length = 6 := hl
      obtain ⟨v0, vs0, rfl, hl0⟩ := len_succ hl
      obtain ⟨v1, vs1, rfl, hl1⟩ := len_succ hl0
      obtain ⟨v2, vs2, rfl, hl2⟩ := len_succ hl1
      obtain ⟨v3, vs3, rfl, hl3⟩ := len_succ hl2
      obtain ⟨v4, vs4, rfl, hl4⟩ := len_succ hl3
      obtain ⟨v5, vs5, rfl, hl5⟩ := len_succ hl4
      obtain rfl := len_zero hl5
      have hR5 := (show OwnS (Kd.int .u8) gq (t + 2) 5 a5 (l3.length + l4.length) c5 (l3 ++ l4) from hf _ (List.mem_of_getElem? (i := 3) rfl) (by kernel_rfl))
      obtain ⟨a6, c6, e, hR6⟩ := (show ∃ (a6 : Option Addr) (c6 : Nat), v1 = .slice a6 l5.length c6 ∧ OwnS (Kd.int .u8) gq (t + 4) 5 a6 l5.length c6 l5 from hf _ (List.mem_of_getElem? (i := 5) rfl) (by kernel_rfl))
      subst e
      refine WP.append (kd := (Kd.int .u8)) (t := 24) (e := 5) (bytes := 1) (a2 := a6) (c2 := c6) hR5 hR6.src hR6.len (by kernel_rfl) (by kernel_rfl) (by omega) (by simp only [maxLen]; omega) (by omega) ?_
      intro g8 a7 c7 st8 hR7
      refine WP.done (by kernel_rfl) (Shown.ok (v := .slice a7 ((l3.length + l4.length) + l5.length) c7) (by kernel_rfl) st8 ?_)
      exact ⟨trivial, trivial, trivial, trivial, trivial, trivial, ⟨a7, c7, rfl, hR7⟩, trivial, trivial, trivial, trivial, trivial⟩
    · intro vs gq stq hl hf
      replace hl : vs.length = 6 := hl
      obtain ⟨v0, vs0, rfl, hl0⟩ := len_succ hl
      obtain ⟨v1, vs1, rfl, hl1⟩ := len_succ hl0
      obtain ⟨v2, vs2, rfl, hl2⟩ := len_succ hl1
      obtain ⟨v3, vs3, rfl, hl3⟩ := len_succ hl2
      obtain ⟨v4, vs4, rfl, hl4⟩ := len_succ hl3
      obtain ⟨v5, vs5, rfl, hl5⟩ := len_succ hl4
      obtain rfl := len_zero hl5
      have hB1 := (show Box gq (t + 1) b1 34 [encA .u8 d1, [.int .i64 x1], [.int .i64 x2], [.int .i64 x3], [.slice a1 n1 c1], [.slice a2 n2 c2]] [8, 1, 1, 1, 1, 1] from hf _ (List.mem_of_getElem? (i := 0) rfl) (by kernel_rfl))
      have hR1 := (show RdS (Kd.int .u8) gq 5 a1 n1 c1 l1 from hf _ (List.mem_of_getElem? (i := 1) rfl) (by kernel_rfl))
      have hR2 := (show RdS (Kd.int .u8) gq 5 a2 n2 c2 l2 from hf _ (List.mem_of_getElem? (i := 2) rfl) (by kernel_rfl))
      refine WP.loadB (v := .int .i64 x2) hB1 (by kernel_rfl) (by kernel_rfl) ?_
      refine WP.done (by kernel_rfl) (Shown.ok (v := .int .i64 x2) (by kernel_rfl) (Step.refl _ _) ?_)
      exact ⟨trivial, trivial, trivial, trivial, trivial, trivial, trivial, rfl, trivial, trivial, trivial, trivial⟩
    · intro vs gq stq hl hf
      replace hl : vs.length = 6 := hl
      obtain ⟨v0, vs0, rfl, hl0⟩ := len_succ hl
      obtain ⟨v1, vs1, rfl, hl1⟩ := len_succ hl0
      obtain ⟨v2, vs2, rfl, hl2⟩ := len_succ hl1
      obtain ⟨v3, vs3, rfl, hl3⟩ := len_succ hl2
      obtain ⟨v4, vs4, rfl, hl4⟩ := len_succ hl3
      obtain ⟨v5, vs5, rfl, hl5⟩ := len_succ hl4
      obtain rfl := len_zero hl5
      have e := (show v3 = .int .i64 x2 from hf _ (List.mem_of_getElem? (i := 7) rfl) (by kernel_rfl))
      subst e
      have hcal5 := P.baizeref01_Num gq (t + 5) (IntKind.u64.wrap x2) l6 hk5
      refine WP.callC hcal5 (by kernel_rfl) ?_
      rintro _ g9 st9 ⟨a8, n6, c8, rfl, hR8⟩
      obtain rfl := hR8.len
      refine WP.done (by kernel_rfl) (Shown.ok (v := .slice a8 l6.length c8) (by kernel_rfl) st9.pure ?_)
      exact ⟨trivial, trivial, trivial, trivial, trivial, trivial, trivial, trivial, ⟨a8, c8, rfl, hR8⟩, trivial, trivial, trivial⟩
    · intro vs gq stq hl hf
      replace hl : vs.length = 6 := hl
      obtain ⟨v0, vs0, rfl, hl0⟩ := len_succ hl
      obtain ⟨v1, vs1, rfl, hl1⟩ := len_succ hl0
      obtain ⟨v2, vs2, rfl, hl2⟩ := len_succ hl1
      obtain ⟨v3, vs3, rfl, hl3⟩ := len_succ hl2
      obtain ⟨v4, vs4, rfl, hl4⟩ := len_succ hl3
      obtain ⟨v5, vs5, rfl, hl5⟩ := len_succ hl4
      obtain rfl := len_zero hl5
      obtain ⟨a7, c7, e, hR7⟩ := (show ∃ (a7 : Option Addr) (c7 : Nat), v2 = .slice a7 ((l3.length + l4.length) + l5.length) c7 ∧ OwnS (Kd.int .u8) gq (t + 2) 5 a7 ((l3.length + l4.length) + l5.length) c7 ((l3 ++ l4) ++ l5) from hf _ (List.mem_of_getElem? (i := 6) rfl) (by kernel_rfl))
      subst e
      obtain ⟨a8, c8, e, hR8⟩ := (show ∃ (a8 : Option Addr) (c8 : Nat), v4 = .slice a8 l6.length c8 ∧ OwnS (Kd.int .u8) gq (t + 5) 5 a8 l6.length c8 l6 from hf _ (List.mem_of_getElem? (i := 8) rfl) (by kernel_rfl))
      subst e
      refine WP.append (kd := (Kd.int .u8)) (t := 24) (e := 5) (bytes := 1) (a2 := a8) (c2 := c8) hR7 hR8.src hR8.len (by kernel_rfl) (by kernel_rfl) (by omega) (by simp only [maxLen]; omega) (by omega) ?_
      intro g10 a9 c9 st10 hR9
      refine WP.done (by kernel_rfl) (Shown.ok (v := .slice a9 (((l3.length + l4.length) + l5.length) + l6.length) c9) (by kernel_rfl) st10 ?_)
      exact ⟨trivial, trivial, trivial, trivial, trivial, trivial, trivial, trivial, trivial, ⟨a9, c9, rfl, hR9⟩, ⟨a7, c7, rfl⟩, trivial⟩
  intro vs g11 st11 hl hf
  replace hl : vs.length = 6 := hl
  obtain ⟨v0, vs0, rfl, hl0⟩ := len_succ hl
  obtain ⟨v1, vs1, rfl, hl1⟩ := len_succ hl0
  obtain ⟨v2, vs2, rfl, hl2⟩ := len_succ hl1
  obtain ⟨v3, vs3, rfl, hl3⟩ := len_succ hl2
  obtain ⟨v4, vs4, rfl, hl4⟩ := len_succ hl3
  obtain ⟨v5, vs5, rfl, hl5⟩ := len_succ hl4
  obtain rfl := len_zero hl5
  obtain ⟨a9, c9, e, hR9⟩ := (show ∃ (a9 : Option Addr) (c9 : Nat), v5 = .slice a9 (((l3.length + l4.length) + l5.length) + l6.length) c9 ∧ OwnS (Kd.int .u8) g11 (t + 2) 5 a9 (((l3.length + l4.length) + l5.length) + l6.length) c9 (((l3 ++ l4) ++ l5) ++ l6) from hf _ (List.mem_of_getElem? (i := 9) rfl) (by kernel_rfl))
  subst e
  replace hB1 := hB1.mono st11 (WL.no1 (by omega))
  replace hR1 := hR1.mono st11 (WL.no1 (by omega))
  replace hR2 := hR2.mono st11 (WL.no1 (by omega))
  replace tot := tot.trans (st11.up1 (.inr (by omega)))
  refine NX.then_n ?_
  refine CP.refr 29 [(1, .pointer (some ⟨b1, 0, none⟩)), (3, .slice a9 (((l3.length + l4.length) + l5.length) + l6.length) c9)] (by kernel_rfl) (by kernel_rfl) ?_
  clear ds
  intro ds
  refine CP.seqR ?_
  refine WP.still 2 (by kernel_rfl) ?_
  refine WP.loadB (v := .slice a1 n1 c1) hB1 (by kernel_rfl) (by kernel_rfl) ?_
  replace hs := Option.bind_eq_some_iff.1 hs
  obtain ⟨l7, hk6, hs⟩ := hs
  have hcal6 := P.baizeref01_Bytes g11 (t + 6) l1 a1 n1 c1 hR1 l7 hk6
  refine WP.callC hcal6 (by kernel_rfl) ?_
  rintro _ g12 st12 ⟨a10, n7, c10, rfl, hR10⟩
  replace hB1 := hB1.mono st12 (fun x => x)
  replace hR1 := hR1.mono st12 (fun x => x)
  replace hR2 := hR2.mono st12 (fun x => x)
  replace hR9 := hR9.mono st12 (fun x => x) (fun x => x)
  replace tot := tot.trans st12.pure
  by_cases hc4 : (((l3 ++ l4) ++ l5) ++ l6).length + l7.length ≤ 140737488355328
  case neg => rw [if_neg hc4] at hs; cases hs
  replace hs := of_if_p hs hc4
  refine WP.append (kd := (Kd.int .u8)) (t := 24) (e := 5) (bytes := 1) (a2 := a10) (c2 := c10) hR9 hR10.src hR10.len (by kernel_rfl) (by kernel_rfl) (by omega) (by simp only [maxLen]; omega) (by omega) ?_
  intro g13 a11 c11 st13 hR11
  replace hB1 := hB1.mono st13 (WL.no1 (by omega))
  replace hR1 := hR1.mono st13 (WL.no1 (by omega))
  replace hR2 := hR2.mono st13 (WL.no1 (by omega))
  replace hR10 := hR10.mono st13 (WL.no1 (by omega)) (WL.no1 (by omega))
  replace tot := tot.trans (st13.up1 (.inr (by omega)))
  refine WP.still 1 (by kernel_rfl) ?_
  refine WP.done (by kernel_rfl) ?_
  refine NX.then_n ?_
  refine CP.ret ?_
  obtain ⟨g14, hw1, st14, hnew⟩ := hR11.relab (by omega) r0
  refine NX.regw hw1 ?_
  replace tot := tot.trans (st14.up1 (.inr (by omega)))
  clear hR11
  have hR11 := hnew
  clear hnew
  replace hs := Option.some.inj hs
  obtain rfl := hs
  exact NX.fin (v := .slice a11 ((((l3.length + l4.length) + l5.length) + l6.length) + n7) c11) (Res.still (by kernel_rfl)) tot htL ⟨a11, ((((l3.length + l4.length) + l5.length) + l6.length) + n7), c11, rfl, hR11⟩
def N.baizeref25_Bytes_0 : List (List Nat) := [[], [0], [], [2], [0, 1, 2, 3], [0, 1, 2, 3, 4], [0, 1, 2, 3, 4, 5]]
def F.baizeref25_Bytes (d1 : Arr Int 8) (x1 : Int) (x2 : Int) (x3 : Int) (l1 : List Int) (l2 : List Int) : Option ((List Int)) := ((F.baizeref25_head d1 x1 x2 x3 l1 l2).bind fun l3 => ((F.baizeref01_Bytes l2).bind fun l4 => (if l3.length + l4.length ≤ 140737488355328 then (some (l3 ++ l4)) else none)))
theorem P.baizeref25_Bytes (g0 : GW) (r0 : Nat) (d1 : Arr Int 8) (x1 : Int) (x2 : Int) (x3 : Int) (l1 : List Int) (l2 : List Int) (a1 : Option Addr) (n1 : Nat) (c1 : Nat) (a2 : Option Addr) (n2 : Nat) (c2 : Nat) (hR1 : RdS (Kd.int .u8) g0 5 a1 n1 c1 l1) (hR2 : RdS (Kd.int .u8) g0 5 a2 n2 c2 l2) (o1 : List Int) (hs : F.baizeref25_Bytes d1 x1 x2 x3 l1 l2 = some o1) :
    Calls Try.prog 26 #[AG [encA .u8 d1, [.int .i64 x1], [.int .i64 x2], [.int .i64 x3], [.slice a1 n1 c1], [.slice a2 n2 c2]]] g0.w (Ret NoM g0 fun v g => ∃ (a_1 : Option Addr) (n_1 : Nat) (c_1 : Nat), v = .slice a_1 n_1 c_1 ∧ OwnS (Kd.int .u8) g r0 5 a_1 n_1 c_1 o1) := by
  refine calls_of (args := [AG [encA .u8 d1, [.int .i64 x1], [.int .i64 x2], [.int .i64 x3], [.slice a1 n1 c1], [.slice a2 n2 c2]]]) Try.func26 rfl (r0 + 0) ?_
  intro t ht htL
  refine ⟨_, rfl, ?_⟩
  refine CP.refr 9 [(0, AG [encA .u8 d1, [.int .i64 x1], [.int .i64 x2], [.int .i64 x3], [.slice a1 n1 c1], [.slice a2 n2 c2]])] (by kernel_rfl) (by kernel_rfl) ?_
  intro ds
  have tot : Step (fun l => NoM l ∨ t ≤ l) g0 g0 := Step.refl _ _
  unfold F.baizeref25_Bytes at hs
  refine CP.seqR ?_
  refine WP.alloc (T := 34) (t + 1) [encA .u8 d1, [.int .i64 x1], [.int .i64 x2], [.int .i64 x3], [.slice a1 n1 c1], [.slice a2 n2 c2]] [8, 1, 1, 1, 1, 1] (by kernel_rfl) (by simp [len_encA]) ?_
  intro g1 b1 st1 hB1
  replace hR1 := hR1.mono st1 (fun x => x)
  replace hR2 := hR2.mono st1 (fun x => x)
  replace tot := tot.trans st1.pure
  refine WP.still 1 (by kernel_rfl) ?_
  refine WP.done (by kernel_rfl) ?_
  refine NX.then_n ?_
  refine CP.seq ?_
  replace hs := Option.bind_eq_some_iff.1 hs
  obtain ⟨l3, hk1, hs⟩ := hs
  replace hs := Option.bind_eq_some_iff.1 hs
  obtain ⟨l4, hk2, hs⟩ := hs
  by_cases hc1 : l3.length + l4.length ≤ 140737488355328
  case neg => rw [if_neg hc1] at hs; cases hs
  replace hs := of_if_p hs hc1
  refine CP.drawL (by kernel_rfl) [0, 1, 3, 4, 5] N.baizeref25_Bytes_0 [⟨none, [], [], fun l g => Box g (t + 1) b1 34 [encA .u8 d1, [.int .i64 x1], [.int .i64 x2], [.int .i64 x3], [.slice a1 n1 c1], [.slice a2 n2 c2]] [8, 1, 1, 1, 1, 1]⟩, ⟨none, [], [], fun l g => RdS (Kd.int .u8) g 5 a1 n1 c1 l1⟩, ⟨none, [], [], fun l g => RdS (Kd.int .u8) g 5 a2 n2 c2 l2⟩, ⟨some 0, [], [0], fun l g => l.getD 0 undef = AG [encA .u8 d1, [.int .i64 x1], [.int .i64 x2], [.int .i64 x3], [.slice a1 n1 c1], [.slice a2 n2 c2]]⟩, ⟨some 1, [0], [1], fun l g => ∃ (a3 : Option Addr) (c3 : Nat), l.getD 0 undef = .slice a3 l3.length c3 ∧ OwnS (Kd.int .u8) g (t + 2) 5 a3 l3.length c3 l3⟩, ⟨some 2, [], [2], fun l g => l.getD 0 undef = .slice a2 n2 c2⟩, ⟨some 3, [], [3], fun l g => ∃ (a4 : Option Addr) (c4 : Nat), l.getD 0 undef = .slice a4 l4.length c4 ∧ OwnS (Kd.int .u8) g (t + 3) 5 a4 l4.length c4 l4⟩, ⟨some 4, [0], [4], fun l g => ∃ (a5 : Option Addr) (c5 : Nat), l.getD 0 undef = .slice a5 (l3.length + l4.length) c5 ∧ OwnS (Kd.int .u8) g (t + 2) 5 a5 (l3.length + l4.length) c5 (l3 ++ l4)⟩, ⟨some 4, [], [1], fun l g => ∃ (a3 : Option Addr) (c3 : Nat), l.getD 0 undef = .slice a3 l3.length c3⟩] [[], [], [], [], [0]] [(t + 2)] [2] [6] (by kernel_rfl) (by simp <;> omega) (by simp) ⟨fun _ _ _ _ st h0 hl hj hB1 => (hB1.mono st (fun h => absurd (hl _ h) (by simp <;> omega))), fun _ _ _ _ st h0 hl hj hR1 => (RdS.mono (e := 5) hR1 st h0), fun _ _ _ _ st h0 hl hj hR2 => (RdS.mono (e := 5) hR2 st h0), fun _ _ _ _ st h0 hl hj e => e, fun _ _ _ _ st h0 hl hj ⟨a3, c3, e, hR3⟩ => ⟨a3, c3, e, (hR3.mono st h0 (hj 0 (by simp) _ rfl))⟩, fun _ _ _ _ st h0 hl hj e => e, fun _ _ _ _ st h0 hl hj ⟨a4, c4, e, hR4⟩ => ⟨a4, c4, e, (hR4.mono st h0 (fun h => absurd (hl _ h) (by simp <;> omega)))⟩, fun _ _ _ _ st h0 hl hj ⟨a5, c5, e, hR5⟩ => ⟨a5, c5, e, (hR5.mono st h0 (hj 0 (by simp) _ rfl))⟩, fun _ _ _ _ st h0 hl hj ⟨a3, c3, e⟩ => ⟨a3, c3, e⟩, trivial⟩ ⟨hB1, hR1, hR2, trivial, trivial, trivial, trivial, trivial, trivial, trivial⟩ (by kernel_rfl) (fun vs => by kernel_rfl) ?_ ?_ ?_
  · intro j hj
    have hq : j = 0 := by have h : j < 1 := hj; omega
    rcases hq with rfl
    · intro vs gq stq hl hf
      replace hl : vs.length = 5 := hl
      obtain ⟨v0, vs0, rfl, hl0⟩ := len_succ hl
      obtain ⟨v1, vs1, rfl, hl1⟩ := len_succ hl0
      obtain ⟨v2, vs2, rfl, hl2⟩ := len_succ hl1
      obtain ⟨v3, vs3, rfl, hl3⟩ := len_succ hl2
      obtain ⟨v4, vs4, rfl, hl4⟩ := len_succ hl3
      obtain rfl := len_zero hl4
      obtain ⟨a5, c5, e, hR5⟩ := (show ∃ (a5 : Option Addr) (c5 : Nat), v4 = .slice a5 (l3.length + l4.length) c5 ∧ OwnS (Kd.int .u8) gq (t + 2) 5 a5 (l3.length + l4.length) c5 (l3 ++ l4) from hf _ (List.mem_of_getElem? (i := 7) rfl) (by kernel_rfl))
      subst e
      show Option.isSome _ = true
      kernel_rfl
  · intro j hj
    have hq : j = 0 ∨ j = 1 ∨ j = 2 ∨ j = 3 ∨ j = 4 := by have h : j < 5 := hj; omega
    rcases hq with rfl | rfl | rfl | rfl | rfl
    · intro vs gq stq hl hf
      replace hl : vs.length = 5 := hl
      obtain ⟨v0, vs0, rfl, hl0⟩ := len_succ hl
      obtain ⟨v1, vs1, rfl, hl1⟩ := len_succ hl0
      obtain ⟨v2, vs2, rfl, hl2⟩ := len_succ hl1
      obtain ⟨v3, vs3, rfl, hl3⟩ := len_succ hl2
      obtain ⟨v4, vs4, rfl, hl4⟩ := len_succ hl3
      obtain rfl := len_zero hl4
      have hB1 := (show Box gq (t + 1) b1 34 [encA .u8 d1, [.int .i64 x1], [.int .i64 x2], [.int .i64 x3], [.slice a1 n1 c1], [.slice a2 n2 c2]] [8, 1, 1, 1, 1, 1] from hf _ (List.mem_of_getElem? (i := 0) rfl) (by kernel_rfl))
      have hR1 := (show RdS (Kd.int .u8) gq 5 a1 n1 c1 l1 from hf _ (List.mem_of_getElem? (i := 1) rfl) (by kernel_rfl))
      have hR2 := (show RdS (Kd.int .u8) gq 5 a2 n2 c2 l2 from hf _ (List.mem_of_getElem? (i := 2) rfl) (by kernel_rfl))
      refine WP.loadB (v := AG [encA .u8 d1, [.int .i64 x1], [.int .i64 x2], [.int .i64 x3], [.slice a1 n1 c1], [.slice a2 n2 c2]]) hB1 (by kernel_rfl) (by kernel_rfl) ?_
      refine WP.done (by kernel_rfl) (Shown.ok (v := AG [encA .u8 d1, [.int .i64 x1], [.int .i64 x2], [.int .i64 x3], [.slice a1 n1 c1], [.slice a2 n2 c2]]) (by kernel_rfl) (Step.refl _ _) ?_)
      exact ⟨trivial, trivial, trivial, rfl, trivial, trivial, trivial, trivial, trivial, trivial⟩
    · intro vs gq stq hl hf
      replace hl : vs.length = 5 := hl
      obtain ⟨v0, vs0, rfl, hl0⟩ := len_succ hl
      obtain ⟨v1, vs1, rfl, hl1⟩ := len_succ hl0
      obtain ⟨v2, vs2, rfl, hl2⟩ := len_succ hl1
      obtain ⟨v3, vs3, rfl, hl3⟩ := len_succ hl2
      obtain ⟨v4, vs4, rfl, hl4⟩ := len_succ hl3
      obtain rfl := len_zero hl4
      have hR1 := (show RdS (Kd.int .u8) gq 5 a1 n1 c1 l1 from hf _ (List.mem_of_getElem? (i := 1) rfl) (by kernel_rfl))
      have hR2 := (show RdS (Kd.int .u8) gq 5 a2 n2 c2 l2 from hf _ (List.mem_of_getElem? (i := 2) rfl) (by kernel_rfl))
      have e := (show v0 = AG [encA .u8 d1, [.int .i64 x1], [.int .i64 x2], [.int .i64 x3], [.slice a1 n1 c1], [.slice a2 n2 c2]] from hf _ (List.mem_of_getElem? (i := 3) rfl) (by kernel_rfl))
      subst e
      have hcal1 := P.baizeref25_head gq (t + 2) d1 x1 x2 x3 l1 l2 a1 n1 c1 a2 n2 c2 hR1 hR2 l3 hk1
      refine WP.callC hcal1 (by kernel_rfl) ?_
      rintro _ g2 st2 ⟨a3, n3, c3, rfl, hR3⟩
      obtain rfl := hR3.len
      refine WP.done (by kernel_rfl) (Shown.ok (v := .slice a3 l3.length c3) (by kernel_rfl) st2.pure ?_)
      exact ⟨trivial, trivial, trivial, trivial, ⟨a3, c3, rfl, hR3⟩, trivial, trivial, trivial, trivial, trivial⟩
    · intro vs gq stq hl hf
      replace hl : vs.length = 5 := hl
      obtain ⟨v0, vs0, rfl, hl0⟩ := len_succ hl
      obtain ⟨v1, vs1, rfl, hl1⟩ := len_succ hl0
      obtain ⟨v2, vs2, rfl, hl2⟩ := len_succ hl1
      obtain ⟨v3, vs3, rfl, hl3⟩ := len_succ hl2
      obtain ⟨v4, vs4, rfl, hl4⟩ := len_succ hl3
      obtain rfl := len_zero hl4
      have hB1 := (show Box gq (t + 1) b1 34 [encA .u8 d1, [.int .i64 x1], [.int .i64 x2], [.int .i64 x3], [.slice a1 n1 c1], [.slice a2 n2 c2]] [8, 1, 1, 1, 1, 1] from hf _ (List.mem_of_getElem? (i := 0) rfl) (by kernel_rfl))
      have hR1 := (show RdS (Kd.int .u8) gq 5 a1 n1 c1 l1 from hf _ (List.mem_of_getElem? (i := 1) rfl) (by kernel_rfl))
      have hR2 := (show RdS (Kd.int .u8) gq 5 a2 n2 c2 l2 from hf _ (List.mem_of_getElem? (i := 2) rfl) (by kernel_rfl))
      refine WP.loadB (v := .slice a2 n2 c2) hB1 (by kernel_rfl) (by kernel_rfl) ?_
      refine WP.done (by kernel_rfl) (Shown.ok (v := .slice a2 n2 c2) (by kernel_rfl) (Step.refl _ _) ?_)
      exact ⟨trivial, trivial, trivial, trivial, trivial, rfl, trivial, trivial, trivial, trivial⟩
    · intro vs gq stq hl hf
      replace hl : vs.length = 5 := hl
      obtain ⟨v0, vs0, rfl, hl0⟩ := len_succ hl
      obtain ⟨v1, vs1, rfl, hl1⟩ := len_succ hl0
      obtain ⟨v2, vs2, rfl, hl2⟩ := len_succ hl1
      obtain ⟨v3, vs3, rfl, hl3⟩ := len_succ hl2
      obtain ⟨v4, vs4, rfl, hl4⟩ := len_succ hl3
      obtain rfl := len_zero hl4
      have hR2 := (show RdS (Kd.int .u8) gq 5 a2 n2 c2 l2 from hf _ (List.mem_of_getElem? (i := 2) rfl) (by kernel_rfl))
      have e := (show v2 = .slice a2 n2 c2 from hf _ (List.mem_of_getElem? (i := 5) rfl) (by kernel_rfl))
      subst e
      have hcal2 := P.baizeref01_Bytes gq (t + 3) l2 a2 n2 c2 hR2 l4 hk2
      refine WP.callC hcal2 (by kernel_rfl) ?_
      rintro _ g3 st3 ⟨a4, n4, c4, rfl, hR4⟩
      obtain rfl := hR4.len
      refine WP.done (by kernel_rfl) (Shown.ok (v := .slice a4 l4.length c4) (by kernel_rfl) st3.pure ?_)
      exact ⟨trivial, trivial, trivial, trivial, trivial, trivial, ⟨a4, c4, rfl, hR4⟩, trivial, trivial, trivial⟩
    · intro vs gq stq hl hf
      replace hl : vs.length = 5 := hl
      obtain ⟨v0, vs0, rfl, hl0⟩ := len_succ hl
      obtain ⟨v1, vs1, rfl, hl1⟩ := len_succ hl0
      obtain ⟨v2, vs2, rfl, hl2⟩ := len_succ hl1
      obtain ⟨v3, vs3, rfl, hl3⟩ := len_succ hl2
      obtain ⟨v4, vs4, rfl, hl4⟩ := len_succ hl3
      obtain rfl := len_zero hl4
      obtain ⟨a3, c3, e, hR3⟩ := (show ∃ (a3 : Option Addr) (c3 : Nat), v1 = .slice a3 l3.length c3 ∧ OwnS (Kd.int .u8) gq (t + 2) 5 a3 l3.length c3 l3 from hf _ (List.mem_of_getElem? (i := 4) rfl) (by kernel_rfl))
      subst e
      obtain ⟨a4, c4, e, hR4⟩ := (show ∃ (a4 : Option Addr) (c4 : Nat), v3 = .slice a4 l4.length c4 ∧ OwnS (Kd.int .u8) gq (t + 3) 5 a4 l4.length c4 l4 from hf _ (List.mem_of_getElem? (i := 6) rfl) (by kernel_rfl))
      subst e
      refine WP.append (kd := (Kd.int .u8)) (t := 24) (e := 5) (bytes := 1) (a2 := a4) (c2 := c4) hR3 hR4.src hR4.len (by kernel_rfl) (by kernel_rfl) (by omega) (by simp only [maxLen]; omega) (by omega) ?_
      intro g4 a5 c5 st4 hR5
      refine WP.done (by kernel_rfl) (Shown.ok (v := .slice a5 (l3.length + l4.length) c5) (by kernel_rfl) st4 ?_)
      exact ⟨trivial, trivial, trivial, trivial, trivial, trivial, trivial, ⟨a5, c5, rfl, hR5⟩, ⟨a3, c3, rfl⟩, trivial⟩
  intro vs g5 st5 hl hf
  replace hl : vs.length = 5 := hl
  obtain ⟨v0, vs0, rfl, hl0⟩ := len_succ hl
  obtain ⟨v1, vs1, rfl, hl1⟩ := len_succ hl0
  obtain ⟨v2, vs2, rfl, hl2⟩ := len_succ hl1
  obtain ⟨v3, vs3, rfl, hl3⟩ := len_succ hl2
  obtain ⟨v4, vs4, rfl, hl4⟩ := len_succ hl3
  obtain rfl := len_zero hl4
  obtain ⟨a5, c5, e, hR5⟩ := (show ∃ (a5 : Option Addr) (c5 : Nat), v4 = .slice a5 (l3.length + l4.length) c5 ∧ OwnS (Kd.int .u8) g5 (t + 2) 5 a5 (l3.length + l4.length) c5 (l3 ++ l4) from hf _ (List.mem_of_getElem? (i := 7) rfl) (by kernel_rfl))
  subst e
  replace tot := tot.trans (st5.up1 (.inr (by omega)))
  refine NX.then_n ?_
  refine CP.refr 9 [(2, .slice a5 (l3.length + l4.length) c5)] (by kernel_rfl) (by kernel_rfl) ?_
  clear ds
  intro ds
  refine CP.ret ?_
  obtain ⟨g6, hw1, st6, hnew⟩ := hR5.relab (by omega) r0
  refine NX.regw hw1 ?_
  replace tot := tot.trans (st6.up1 (.inr (by omega)))
  clear hR5
  have hR5 := hnew
  clear hnew
  replace hs := Option.some.inj hs
  obtain rfl := hs
  exact NX.fin (v := .slice a5 (l3.length + l4.length) c5) (Res.still (by kernel_rfl)) tot htL ⟨a5, (l3.length + l4.length), c5, rfl, hR5⟩
end Go.Proofs.Ytjcmjedphijhjaa
