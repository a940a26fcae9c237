/-
  Walks, written by program: each Go function computes the plain function of its name, in whatever world its arguments' facts hold.
-/
import Derived.Test.YtjcmjedphijhjaaWTx1
namespace Go.Proofs.Ytjcmjedphijhjaa
open Go.RowKit Go.Lab
attribute [local irreducible] WP CP NX wpList Code.wp Calls
set_option maxRecDepth 100000
set_option maxHeartbeats 4000000
set_option linter.unusedVariables false

def N.tx_Tx_bare_0 : List (List Nat) := [[], [0], [0, 1], [0, 1, 2], [], [4], [0, 1, 2, 3, 4, 5], [0, 1, 2, 3, 4, 5, 6]]
def N.tx_Tx_bare_1 : List (List Nat) := [[], [], [1], [1, 2], [0, 1, 2, 3], [], [5], [5, 6], [0, 1, 2, 3, 4, 5, 6, 7], [0, 1, 2, 3, 4, 5, 6, 7, 8]]
def F.tx_Tx_bare (d1 : Arr Int 8) (x1 : Int) (x2 : Int) (x3 : Int) (l1 : List Int) (l2 : List Int) : Option ((List Int)) := ((F.octet_PutNum ([]) (IntKind.u64.wrap x3)).bind fun l3 => ((F.tx_key l3 d1).bind fun l4 => ((F.octet_PutNum l4 (IntKind.u64.wrap x1)).bind fun l6 => ((F.octet_PutNum l6 (IntKind.u64.wrap x2)).bind fun l7 => ((F.octet_PutBytes l7 l1).bind fun l8 => (some l8))))))
theorem P.tx_Tx_bare (g0 : GW) (r0 : Nat) (d1 : Arr Int 8) (x1 : Int) (x2 : Int) (x3 : Int) (l1 : List Int) (l2 : List Int) (a1 : Option Addr) (n1 : Nat) (c1 : Nat) (a2 : Option Addr) (n2 : Nat) (c2 : Nat) (hR1 : RdS (Kd.int .u8) g0 5 a1 n1 c1 l1) (hR2 : RdS (Kd.int .u8) g0 5 a2 n2 c2 l2) (o1 : List Int) (hs : F.tx_Tx_bare d1 x1 x2 x3 l1 l2 = some o1) :
    Calls Try.prog 54 #[AG [encA .u8 d1, [.int .i64 x1], [.int .i64 x2], [.int .i64 x3], [.slice a1 n1 c1], [.slice a2 n2 c2]]] g0.w (Ret NoM g0 fun v g => ∃ (a_1 : Option Addr) (n_1 : Nat) (c_1 : Nat), v = .slice a_1 n_1 c_1 ∧ OwnS (Kd.int .u8) g r0 5 a_1 n_1 c_1 o1) := by
  refine calls_of (args := [AG [encA .u8 d1, [.int .i64 x1], [.int .i64 x2], [.int .i64 x3], [.slice a1 n1 c1], [.slice a2 n2 c2]]]) Try.func54 rfl (r0 + 0) ?_
  intro t ht htL
  refine ⟨_, rfl, ?_⟩
  refine CP.refr 24 [(0, AG [encA .u8 d1, [.int .i64 x1], [.int .i64 x2], [.int .i64 x3], [.slice a1 n1 c1], [.slice a2 n2 c2]])] (by kernel_rfl) (by kernel_rfl) ?_
  intro ds
  have tot : Step (fun l => NoM l ∨ t ≤ l) g0 g0 := Step.refl _ _
  unfold F.tx_Tx_bare at hs
  refine CP.seqR ?_
  refine WP.alloc (T := 26) (t + 1) [encA .u8 d1, [.int .i64 x1], [.int .i64 x2], [.int .i64 x3], [.slice a1 n1 c1], [.slice a2 n2 c2]] [8, 1, 1, 1, 1, 1] (by kernel_rfl) (by simp [len_encA]) ?_
  intro g1 b1 st1 hB1
  replace hR1 := hR1.mono st1 (fun x => x)
  replace hR2 := hR2.mono st1 (fun x => x)
  replace tot := tot.trans st1.pure
  refine WP.still 1 (by kernel_rfl) ?_
  refine WP.done (by kernel_rfl) ?_
  refine NX.then_n ?_
  refine CP.seq ?_
  replace hs := Option.bind_eq_some_iff.1 hs
  obtain ⟨l3, hk1, hs⟩ := hs
  replace hs := Option.bind_eq_some_iff.1 hs
  obtain ⟨l4, hk2, hs⟩ := hs
  refine CP.drawL (by kernel_rfl) [1, 3, 5, 6] N.tx_Tx_bare_0 [⟨none, [], [], fun l g => Box g (t + 1) b1 26 [encA .u8 d1, [.int .i64 x1], [.int .i64 x2], [.int .i64 x3], [.slice a1 n1 c1], [.slice a2 n2 c2]] [8, 1, 1, 1, 1, 1]⟩, ⟨none, [], [], fun l g => RdS (Kd.int .u8) g 5 a1 n1 c1 l1⟩, ⟨none, [], [], fun l g => RdS (Kd.int .u8) g 5 a2 n2 c2 l2⟩, ⟨some 0, [], [0], fun l g => l.getD 0 undef = .int .i64 x3⟩, ⟨some 1, [0], [1], fun l g => ∃ (a3 : Option Addr) (c3 : Nat), l.getD 0 undef = .slice a3 l3.length c3 ∧ OwnS (Kd.int .u8) g (t + 2) 5 a3 l3.length c3 l3⟩, ⟨some 2, [], [2], fun l g => l.getD 0 undef = AG [encA .u8 d1]⟩, ⟨some 3, [], [3], fun l g => ∃ (a4 : Option Addr) (c4 : Nat), l.getD 0 undef = .slice a4 l4.length c4 ∧ OwnS (Kd.int .u8) g (t + 3) 5 a4 l4.length c4 l4⟩, ⟨some 3, [], [1], fun l g => ∃ (a3 : Option Addr) (c3 : Nat), l.getD 0 undef = .slice a3 l3.length c3 ∧ RdS (Kd.int .u8) g 5 a3 l3.length c3 l3⟩] [[], [], [], [0]] [(t + 2)] [0, 4] [2, 7] (by kernel_rfl) (by simp <;> omega) (by simp) ⟨fun _ _ _ _ st h0 hl hj hB1 => (hB1.mono st (fun h => absurd (hl _ h) (by simp <;> omega))), fun _ _ _ _ st h0 hl hj hR1 => (RdS.mono (e := 5) hR1 st h0), fun _ _ _ _ st h0 hl hj hR2 => (RdS.mono (e := 5) hR2 st h0), fun _ _ _ _ st h0 hl hj e => e, fun _ _ _ _ st h0 hl hj ⟨a3, c3, e, hR3⟩ => ⟨a3, c3, e, (hR3.mono st h0 (hj 0 (by simp) _ rfl))⟩, fun _ _ _ _ st h0 hl hj e => e, fun _ _ _ _ st h0 hl hj ⟨a4, c4, e, hR4⟩ => ⟨a4, c4, e, (hR4.mono st h0 (fun h => absurd (hl _ h) (by simp <;> omega)))⟩, fun _ _ _ _ st h0 hl hj ⟨a3, c3, e, hR3⟩ => ⟨a3, c3, e, (RdS.mono (e := 5) hR3 st h0)⟩, trivial⟩ ⟨hB1, hR1, hR2, trivial, trivial, trivial, trivial, trivial, trivial⟩ (by kernel_rfl) (fun vs => by kernel_rfl) ?_ ?_ ?_
  · intro j hj
    have hq : j = 0 ∨ j = 1 := by have h : j < 2 := hj; omega
    rcases hq with rfl | rfl
    · intro vs gq stq hl hf
      replace hl : vs.length = 4 := hl
      obtain ⟨v0, vs0, rfl, hl0⟩ := len_succ hl
      obtain ⟨v1, vs1, rfl, hl1⟩ := len_succ hl0
      obtain ⟨v2, vs2, rfl, hl2⟩ := len_succ hl1
      obtain ⟨v3, vs3, rfl, hl3⟩ := len_succ hl2
      obtain rfl := len_zero hl3
      have e := (show v0 = .int .i64 x3 from hf _ (List.mem_of_getElem? (i := 3) rfl) (by kernel_rfl))
      subst e
      show Option.isSome _ = true
      kernel_rfl
    · intro vs gq stq hl hf
      replace hl : vs.length = 4 := hl
      obtain ⟨v0, vs0, rfl, hl0⟩ := len_succ hl
      obtain ⟨v1, vs1, rfl, hl1⟩ := len_succ hl0
      obtain ⟨v2, vs2, rfl, hl2⟩ := len_succ hl1
      obtain ⟨v3, vs3, rfl, hl3⟩ := len_succ hl2
      obtain rfl := len_zero hl3
      obtain ⟨a4, c4, e, hR4⟩ := (show ∃ (a4 : Option Addr) (c4 : Nat), v3 = .slice a4 l4.length c4 ∧ OwnS (Kd.int .u8) gq (t + 3) 5 a4 l4.length c4 l4 from hf _ (List.mem_of_getElem? (i := 6) rfl) (by kernel_rfl))
      subst e
      show Option.isSome _ = true
      kernel_rfl
  · intro j hj
    have hq : j = 0 ∨ j = 1 ∨ j = 2 ∨ j = 3 := by have h : j < 4 := hj; omega
    rcases hq with rfl | rfl | rfl | rfl
    · intro vs gq stq hl hf
      replace hl : vs.length = 4 := hl
      obtain ⟨v0, vs0, rfl, hl0⟩ := len_succ hl
      obtain ⟨v1, vs1, rfl, hl1⟩ := len_succ hl0
      obtain ⟨v2, vs2, rfl, hl2⟩ := len_succ hl1
      obtain ⟨v3, vs3, rfl, hl3⟩ := len_succ hl2
      obtain rfl := len_zero hl3
      have hB1 := (show Box gq (t + 1) b1 26 [encA .u8 d1, [.int .i64 x1], [.int .i64 x2], [.int .i64 x3], [.slice a1 n1 c1], [.slice a2 n2 c2]] [8, 1, 1, 1, 1, 1] from hf _ (List.mem_of_getElem? (i := 0) rfl) (by kernel_rfl))
      have hR1 := (show RdS (Kd.int .u8) gq 5 a1 n1 c1 l1 from hf _ (List.mem_of_getElem? (i := 1) rfl) (by kernel_rfl))
      have hR2 := (show RdS (Kd.int .u8) gq 5 a2 n2 c2 l2 from hf _ (List.mem_of_getElem? (i := 2) rfl) (by kernel_rfl))
      refine WP.loadB (v := .int .i64 x3) hB1 (by kernel_rfl) (by kernel_rfl) ?_
      refine WP.done (by kernel_rfl) (Shown.ok (v := .int .i64 x3) (by kernel_rfl) (Step.refl _ _) ?_)
      exact ⟨trivial, trivial, trivial, rfl, trivial, trivial, trivial, trivial, trivial⟩
    · intro vs gq stq hl hf
      replace hl : vs.length = 4 := hl
      obtain ⟨v0, vs0, rfl, hl0⟩ := len_succ hl
      obtain ⟨v1, vs1, rfl, hl1⟩ := len_succ hl0
      obtain ⟨v2, vs2, rfl, hl2⟩ := len_succ hl1
      obtain ⟨v3, vs3, rfl, hl3⟩ := len_succ hl2
      obtain rfl := len_zero hl3
      have e := (show v0 = .int .i64 x3 from hf _ (List.mem_of_getElem? (i := 3) rfl) (by kernel_rfl))
      subst e
      have hcal1 := P.octet_PutNum gq (t + 2) ([]) (IntKind.u64.wrap x3) none 0 0 (RdS.nil _ _ _) l3 hk1
      refine WP.callC hcal1 (by kernel_rfl) ?_
      rintro _ g2 st2 ⟨a3, n3, c3, rfl, hR3⟩
      obtain rfl := hR3.len
      refine WP.done (by kernel_rfl) (Shown.ok (v := .slice a3 l3.length c3) (by kernel_rfl) st2.pure ?_)
      exact ⟨trivial, trivial, trivial, trivial, ⟨a3, c3, rfl, hR3⟩, trivial, trivial, trivial, trivial⟩
    · intro vs gq stq hl hf
      replace hl : vs.length = 4 := hl
      obtain ⟨v0, vs0, rfl, hl0⟩ := len_succ hl
      obtain ⟨v1, vs1, rfl, hl1⟩ := len_succ hl0
      obtain ⟨v2, vs2, rfl, hl2⟩ := len_succ hl1
      obtain ⟨v3, vs3, rfl, hl3⟩ := len_succ hl2
      obtain rfl := len_zero hl3
      have hB1 := (show Box gq (t + 1) b1 26 [encA .u8 d1, [.int .i64 x1], [.int .i64 x2], [.int .i64 x3], [.slice a1 n1 c1], [.slice a2 n2 c2]] [8, 1, 1, 1, 1, 1] from hf _ (List.mem_of_getElem? (i := 0) rfl) (by kernel_rfl))
      have hR1 := (show RdS (Kd.int .u8) gq 5 a1 n1 c1 l1 from hf _ (List.mem_of_getElem? (i := 1) rfl) (by kernel_rfl))
      have hR2 := (show RdS (Kd.int .u8) gq 5 a2 n2 c2 l2 from hf _ (List.mem_of_getElem? (i := 2) rfl) (by kernel_rfl))
      refine WP.loadB (v := AG [encA .u8 d1]) hB1 (by kernel_rfl) (by kernel_rfl) ?_
      refine WP.done (by kernel_rfl) (Shown.ok (v := AG [encA .u8 d1]) (by kernel_rfl) (Step.refl _ _) ?_)
      exact ⟨trivial, trivial, trivial, trivial, trivial, rfl, trivial, trivial, trivial⟩
    · intro vs gq stq hl hf
      replace hl : vs.length = 4 := hl
      obtain ⟨v0, vs0, rfl, hl0⟩ := len_succ hl
      obtain ⟨v1, vs1, rfl, hl1⟩ := len_succ hl0
      obtain ⟨v2, vs2, rfl, hl2⟩ := len_succ hl1
      obtain ⟨v3, vs3, rfl, hl3⟩ := len_succ hl2
      obtain rfl := len_zero hl3
      obtain ⟨a3, c3, e, hR3⟩ := (show ∃ (a3 : Option Addr) (c3 : Nat), v1 = .slice a3 l3.length c3 ∧ OwnS (Kd.int .u8) gq (t + 2) 5 a3 l3.length c3 l3 from hf _ (List.mem_of_getElem? (i := 4) rfl) (by kernel_rfl))
      subst e
      have e := (show v2 = AG [encA .u8 d1] from hf _ (List.mem_of_getElem? (i := 5) rfl) (by kernel_rfl))
      subst e
      obtain ⟨gf1, hwf1, stf1, hnew⟩ := hR3.freeze (by omega)
      refine WP.regw hwf1 ?_
      clear hR3
      have hR3 := hnew
      clear hnew
      have hcal2 := P.tx_key gf1 (t + 3) l3 d1 a3 l3.length c3 hR3 l4 hk2
      refine WP.callC hcal2 (by kernel_rfl) ?_
      rintro _ g3 st3 ⟨a4, n4, c4, rfl, hR4⟩
      obtain rfl := hR4.len
      replace st3 : Step (WL []) _ _ := Step.pure st3
      have hz1 := hR3.mono st3 (WL.no (by simp <;> omega))
      replace st3 := Step.both stf1 st3
      refine WP.done (by kernel_rfl) (Shown.ok (v := .slice a4 l4.length c4) (by kernel_rfl) st3 ?_)
      exact ⟨trivial, trivial, trivial, trivial, trivial, trivial, ⟨a4, c4, rfl, hR4⟩, ⟨a3, c3, rfl, hz1⟩, trivial⟩
  intro vs g4 st4 hl hf
  replace hl : vs.length = 4 := hl
  obtain ⟨v0, vs0, rfl, hl0⟩ := len_succ hl
  obtain ⟨v1, vs1, rfl, hl1⟩ := len_succ hl0
  obtain ⟨v2, vs2, rfl, hl2⟩ := len_succ hl1
  obtain ⟨v3, vs3, rfl, hl3⟩ := len_succ hl2
  obtain rfl := len_zero hl3
  obtain ⟨a4, c4, e, hR4⟩ := (show ∃ (a4 : Option Addr) (c4 : Nat), v3 = .slice a4 l4.length c4 ∧ OwnS (Kd.int .u8) g4 (t + 3) 5 a4 l4.length c4 l4 from hf _ (List.mem_of_getElem? (i := 6) rfl) (by kernel_rfl))
  subst e
  replace hB1 := hB1.mono st4 (WL.no1 (by omega))
  replace hR1 := hR1.mono st4 (WL.no1 (by omega))
  replace hR2 := hR2.mono st4 (WL.no1 (by omega))
  replace tot := tot.trans (st4.up1 (.inr (by omega)))
  refine NX.then_n ?_
  refine CP.refr 24 [(1, .pointer (some ⟨b1, 0, none⟩)), (3, .slice a4 l4.length c4)] (by kernel_rfl) (by kernel_rfl) ?_
  clear ds
  intro ds
  refine CP.seq ?_
  obtain ⟨g6, hw1, st6, hnew⟩ := hR4.freeze (by omega)
  refine CP.regw hw1 ?_
  replace hB1 := hB1.mono st6 (WL.no1 (by omega))
  replace hR1 := hR1.mono st6 (WL.no1 (by omega))
  replace hR2 := hR2.mono st6 (WL.no1 (by omega))
  replace tot := tot.trans (st6.up1 (.inr (by omega)))
  clear hR4
  have hR4 := hnew
  clear hnew
  replace hs := Option.bind_eq_some_iff.1 hs
  obtain ⟨l6, hk4, hs⟩ := hs
  replace hs := Option.bind_eq_some_iff.1 hs
  obtain ⟨l7, hk5, hs⟩ := hs
  refine CP.drawL (by kernel_rfl) [2, 4, 6, 8] N.tx_Tx_bare_1 [⟨none, [], [], fun l g => Box g (t + 1) b1 26 [encA .u8 d1, [.int .i64 x1], [.int .i64 x2], [.int .i64 x3], [.slice a1 n1 c1], [.slice a2 n2 c2]] [8, 1, 1, 1, 1, 1]⟩, ⟨none, [], [], fun l g => RdS (Kd.int .u8) g 5 a1 n1 c1 l1⟩, ⟨none, [], [], fun l g => RdS (Kd.int .u8) g 5 a2 n2 c2 l2⟩, ⟨none, [], [], fun l g => RdS (Kd.int .u8) g 5 a4 l4.length c4 l4⟩, ⟨some 0, [], [0], fun l g => l.getD 0 undef = .int .i64 x1⟩, ⟨some 1, [0], [1], fun l g => ∃ (a6 : Option Addr) (c6 : Nat), l.getD 0 undef = .slice a6 l6.length c6 ∧ OwnS (Kd.int .u8) g (t + 5) 5 a6 l6.length c6 l6⟩, ⟨some 2, [], [2], fun l g => l.getD 0 undef = .int .i64 x2⟩, ⟨some 3, [], [3], fun l g => ∃ (a7 : Option Addr) (c7 : Nat), l.getD 0 undef = .slice a7 l7.length c7 ∧ OwnS (Kd.int .u8) g (t + 6) 5 a7 l7.length c7 l7⟩, ⟨some 3, [], [1], fun l g => ∃ (a6 : Option Addr) (c6 : Nat), l.getD 0 undef = .slice a6 l6.length c6 ∧ RdS (Kd.int .u8) g 5 a6 l6.length c6 l6⟩] [[], [], [], [0]] [(t + 5)] [0, 1, 5] [3, 7, 9] (by kernel_rfl) (by simp <;> omega) (by simp) ⟨fun _ _ _ _ st h0 hl hj hB1 => (hB1.mono st (fun h => absurd (hl _ h) (by simp <;> omega))), fun _ _ _ _ st h0 hl hj hR1 => (RdS.mono (e := 5) hR1 st h0), fun _ _ _ _ st h0 hl hj hR2 => (RdS.mono (e := 5) hR2 st h0), fun _ _ _ _ st h0 hl hj hR4 => (RdS.mono (e := 5) hR4 st h0), fun _ _ _ _ st h0 hl hj e => e, fun _ _ _ _ st h0 hl hj ⟨a6, c6, e, hR6⟩ => ⟨a6, c6, e, (hR6.mono st h0 (hj 0 (by simp) _ rfl))⟩, fun _ _ _ _ st h0 hl hj e => e, fun _ _ _ _ st h0 hl hj ⟨a7, c7, e, hR7⟩ => ⟨a7, c7, e, (hR7.mono st h0 (fun h => absurd (hl _ h) (by simp <;> omega)))⟩, fun _ _ _ _ st h0 hl hj ⟨a6, c6, e, hR6⟩ => ⟨a6, c6, e, (RdS.mono (e := 5) hR6 st h0)⟩, trivial⟩ ⟨hB1, hR1, hR2, hR4, trivial, trivial, trivial, trivial, trivial, trivial⟩ (by kernel_rfl) (fun vs => by kernel_rfl) ?_ ?_ ?_
  · intro j hj
    have hq : j = 0 ∨ j = 1 ∨ j = 2 := by have h : j < 3 := hj; omega
    rcases hq with rfl | rfl | rfl
    · intro vs gq stq hl hf
      replace hl : vs.length = 4 := hl
      obtain ⟨v0, vs0, rfl, hl0⟩ := len_succ hl
      obtain ⟨v1, vs1, rfl, hl1⟩ := len_succ hl0
      obtain ⟨v2, vs2, rfl, hl2⟩ := len_succ hl1
      obtain ⟨v3, vs3, rfl, hl3⟩ := len_succ hl2
      obtain rfl := len_zero hl3
      have e := (show v0 = .int .i64 x1 from hf _ (List.mem_of_getElem? (i := 4) rfl) (by kernel_rfl))
      subst e
      show Option.isSome _ = true
      kernel_rfl
    · intro vs gq stq hl hf
      replace hl : vs.length = 4 := hl
      obtain ⟨v0, vs0, rfl, hl0⟩ := len_succ hl
      obtain ⟨v1, vs1, rfl, hl1⟩ := len_succ hl0
      obtain ⟨v2, vs2, rfl, hl2⟩ := len_succ hl1
      obtain ⟨v3, vs3, rfl, hl3⟩ := len_succ hl2
      obtain rfl := len_zero hl3
      have e := (show v2 = .int .i64 x2 from hf _ (List.mem_of_getElem? (i := 6) rfl) (by kernel_rfl))
      subst e
      show Option.isSome _ = true
      kernel_rfl
    · intro vs gq stq hl hf
      replace hl : vs.length = 4 := hl
      obtain ⟨v0, vs0, rfl, hl0⟩ := len_succ hl
      obtain ⟨v1, vs1, rfl, hl1⟩ := len_succ hl0
      obtain ⟨v2, vs2, rfl, hl2⟩ := len_succ hl1
      obtain ⟨v3, vs3, rfl, hl3⟩ := len_succ hl2
      obtain rfl := len_zero hl3
      obtain ⟨a7, c7, e, hR7⟩ := (show ∃ (a7 : Option Addr) (c7 : Nat), v3 = .slice a7 l7.length c7 ∧ OwnS (Kd.int .u8) gq (t + 6) 5 a7 l7.length c7 l7 from hf _ (List.mem_of_getElem? (i := 7) rfl) (by kernel_rfl))
      subst e
      show Option.isSome _ = true
      kernel_rfl
  · intro j hj
    have hq : j = 0 ∨ j = 1 ∨ j = 2 ∨ j = 3 := by have h : j < 4 := hj; omega
    rcases hq with rfl | rfl | rfl | rfl
    · intro vs gq stq hl hf
      replace hl : vs.length = 4 := hl
      obtain ⟨v0, vs0, rfl, hl0⟩ := len_succ hl
      obtain ⟨v1, vs1, rfl, hl1⟩ := len_succ hl0
      obtain ⟨v2, vs2, rfl, hl2⟩ := len_succ hl1
      obtain ⟨v3, vs3, rfl, hl3⟩ := len_succ hl2
      obtain rfl := len_zero hl3
      have hB1 := (show Box gq (t + 1) b1 26 [encA .u8 d1, [.int .i64 x1], [.int .i64 x2], [.int .i64 x3], [.slice a1 n1 c1], [.slice a2 n2 c2]] [8, 1, 1, 1, 1, 1] from hf _ (List.mem_of_getElem? (i := 0) rfl) (by kernel_rfl))
      have hR1 := (show RdS (Kd.int .u8) gq 5 a1 n1 c1 l1 from hf _ (List.mem_of_getElem? (i := 1) rfl) (by kernel_rfl))
      have hR2 := (show RdS (Kd.int .u8) gq 5 a2 n2 c2 l2 from hf _ (List.mem_of_getElem? (i := 2) rfl) (by kernel_rfl))
      refine WP.loadB (v := .int .i64 x1) hB1 (by kernel_rfl) (by kernel_rfl) ?_
      refine WP.done (by kernel_rfl) (Shown.ok (v := .int .i64 x1) (by kernel_rfl) (Step.refl _ _) ?_)
      exact ⟨trivial, trivial, trivial, trivial, rfl, trivial, trivial, trivial, trivial, trivial⟩
    · intro vs gq stq hl hf
      replace hl : vs.length = 4 := hl
      obtain ⟨v0, vs0, rfl, hl0⟩ := len_succ hl
      obtain ⟨v1, vs1, rfl, hl1⟩ := len_succ hl0
      obtain ⟨v2, vs2, rfl, hl2⟩ := len_succ hl1
      obtain ⟨v3, vs3, rfl, hl3⟩ := len_succ hl2
      obtain rfl := len_zero hl3
      have hR4 := (show RdS (Kd.int .u8) gq 5 a4 l4.length c4 l4 from hf _ (List.mem_of_getElem? (i := 3) rfl) (by kernel_rfl))
      have e := (show v0 = .int .i64 x1 from hf _ (List.mem_of_getElem? (i := 4) rfl) (by kernel_rfl))
      subst e
      have hcal4 := P.octet_PutNum gq (t + 5) l4 (IntKind.u64.wrap x1) a4 l4.length c4 hR4 l6 hk4
      refine WP.callC hcal4 (by kernel_rfl) ?_
      rintro _ g7 st7 ⟨a6, n6, c6, rfl, hR6⟩
      obtain rfl := hR6.len
      refine WP.done (by kernel_rfl) (Shown.ok (v := .slice a6 l6.length c6) (by kernel_rfl) st7.pure ?_)
      exact ⟨trivial, trivial, trivial, trivial, trivial, ⟨a6, c6, rfl, hR6⟩, trivial, trivial, trivial, trivial⟩
    · intro vs gq stq hl hf
      replace hl : vs.length = 4 := hl
      obtain ⟨v0, vs0, rfl, hl0⟩ := len_succ hl
      obtain ⟨v1, vs1, rfl, hl1⟩ := len_succ hl0
      obtain ⟨v2, vs2, rfl, hl2⟩ := len_succ hl1
      obtain ⟨v3, vs3, rfl, hl3⟩ := len_succ hl2
      obtain rfl := len_zero hl3
      have hB1 := (show Box gq (t + 1) b1 26 [encA .u8 d1, [.int .i64 x1], [.int .i64 x2], [.int .i64 x3], [.slice a1 n1 c1], [.slice a2 n2 c2]] [8, 1, 1, 1, 1, 1] from hf _ (List.mem_of_getElem? (i := 0) rfl) (by kernel_rfl))
      have hR1 := (show RdS (Kd.int .u8) gq 5 a1 n1 c1 l1 from hf _ (List.mem_of_getElem? (i := 1) rfl) (by kernel_rfl))
      have hR2 := (show RdS (Kd.int .u8) gq 5 a2 n2 c2 l2 from hf _ (List.mem_of_getElem? (i := 2) rfl) (by kernel_rfl))
      refine WP.loadB (v := .int .i64 x2) hB1 (by kernel_rfl) (by kernel_rfl) ?_
      refine WP.done (by kernel_rfl) (Shown.ok (v := .int .i64 x2) (by kernel_rfl) (Step.refl _ _) ?_)
      exact ⟨trivial, trivial, trivial, trivial, trivial, trivial, rfl, trivial, trivial, trivial⟩
    · intro vs gq stq hl hf
      replace hl : vs.length = 4 := hl
      obtain ⟨v0, vs0, rfl, hl0⟩ := len_succ hl
      obtain ⟨v1, vs1, rfl, hl1⟩ := len_succ hl0
      obtain ⟨v2, vs2, rfl, hl2⟩ := len_succ hl1
      obtain ⟨v3, vs3, rfl, hl3⟩ := len_succ hl2
      obtain rfl := len_zero hl3
      obtain ⟨a6, c6, e, hR6⟩ := (show ∃ (a6 : Option Addr) (c6 : Nat), v1 = .slice a6 l6.length c6 ∧ OwnS (Kd.int .u8) gq (t + 5) 5 a6 l6.length c6 l6 from hf _ (List.mem_of_getElem? (i := 5) rfl) (by kernel_rfl))
      subst e
      have e := (show v2 = .int .i64 x2 from hf _ (List.mem_of_getElem? (i := 6) rfl) (by kernel_rfl))
      subst e
      obtain ⟨gf2, hwf2, stf2, hnew⟩ := hR6.freeze (by omega)
      refine WP.regw hwf2 ?_
      clear hR6
      have hR6 := hnew
      clear hnew
      have hcal5 := P.octet_PutNum gf2 (t + 6) l6 (IntKind.u64.wrap x2) a6 l6.length c6 hR6 l7 hk5
      refine WP.callC hcal5 (by kernel_rfl) ?_
      rintro _ g8 st8 ⟨a7, n7, c7, rfl, hR7⟩
      obtain rfl := hR7.len
      replace st8 : Step (WL []) _ _ := Step.pure st8
      have hz2 := hR6.mono st8 (WL.no (by simp <;> omega))
      replace st8 := Step.both stf2 st8
      refine WP.done (by kernel_rfl) (Shown.ok (v := .slice a7 l7.length c7) (by kernel_rfl) st8 ?_)
      exact ⟨trivial, trivial, trivial, trivial, trivial, trivial, trivial, ⟨a7, c7, rfl, hR7⟩, ⟨a6, c6, rfl, hz2⟩, trivial⟩
  intro vs g9 st9 hl hf
  replace hl : vs.length = 4 := hl
  obtain ⟨v0, vs0, rfl, hl0⟩ := len_succ hl
  obtain ⟨v1, vs1, rfl, hl1⟩ := len_succ hl0
  obtain ⟨v2, vs2, rfl, hl2⟩ := len_succ hl1
  obtain ⟨v3, vs3, rfl, hl3⟩ := len_succ hl2
  obtain rfl := len_zero hl3
  obtain ⟨a7, c7, e, hR7⟩ := (show ∃ (a7 : Option Addr) (c7 : Nat), v3 = .slice a7 l7.length c7 ∧ OwnS (Kd.int .u8) g9 (t + 6) 5 a7 l7.length c7 l7 from hf _ (List.mem_of_getElem? (i := 7) rfl) (by kernel_rfl))
  subst e
  replace hB1 := hB1.mono st9 (WL.no1 (by omega))
  replace hR1 := hR1.mono st9 (WL.no1 (by omega))
  replace hR2 := hR2.mono st9 (WL.no1 (by omega))
  replace tot := tot.trans (st9.up1 (.inr (by omega)))
  refine NX.then_n ?_
  refine CP.refr 24 [(1, .pointer (some ⟨b1, 0, none⟩)), (3, .slice a7 l7.length c7)] (by kernel_rfl) (by kernel_rfl) ?_
  clear ds
  intro ds
  refine CP.seqR ?_
  refine WP.still 2 (by kernel_rfl) ?_
  refine WP.loadB (v := .slice a1 n1 c1) hB1 (by kernel_rfl) (by kernel_rfl) ?_
  replace hs := Option.bind_eq_some_iff.1 hs
  obtain ⟨l8, hk6, hs⟩ := hs
  obtain ⟨g11, hw2, st11, hnew⟩ := hR7.freeze (by omega)
  refine WP.regw hw2 ?_
  replace hB1 := hB1.mono st11 (WL.no1 (by omega))
  replace hR1 := hR1.mono st11 (WL.no1 (by omega))
  replace hR2 := hR2.mono st11 (WL.no1 (by omega))
  replace tot := tot.trans (st11.up1 (.inr (by omega)))
  clear hR7
  have hR7 := hnew
  clear hnew
  have hcal6 := P.octet_PutBytes g11 (t + 7) l7 l1 a7 l7.length c7 a1 n1 c1 hR7 hR1 l8 hk6
  refine WP.callC hcal6 (by kernel_rfl) ?_
  rintro _ g10 st10 ⟨a8, n8, c8, rfl, hR8⟩
  replace hB1 := hB1.mono st10 (fun x => x)
  replace hR1 := hR1.mono st10 (fun x => x)
  replace hR2 := hR2.mono st10 (fun x => x)
  replace hR7 := hR7.mono st10 (fun x => x)
  replace tot := tot.trans st10.pure
  refine WP.still 1 (by kernel_rfl) ?_
  refine WP.done (by kernel_rfl) ?_
  refine NX.then_n ?_
  refine CP.ret ?_
  obtain ⟨g12, hw3, st12, hnew⟩ := hR8.relab (by omega) r0
  refine NX.regw hw3 ?_
  replace tot := tot.trans (st12.up1 (.inr (by omega)))
  clear hR8
  have hR8 := hnew
  clear hnew
  replace hs := Option.some.inj hs
  obtain rfl := hs
  exact NX.fin (v := .slice a8 n8 c8) (Res.still (by kernel_rfl)) tot htL ⟨a8, n8, c8, rfl, hR8⟩
def F.tx_Tx_all (d1 : Arr Int 8) (x1 : Int) (x2 : Int) (x3 : Int) (l1 : List Int) (l2 : List Int) : Option ((List Int)) := ((F.tx_Tx_bare d1 x1 x2 x3 l1 l2).bind fun l3 => ((F.octet_PutBytes l3 l2).bind fun l4 => (some l4)))
theorem P.tx_Tx_all (g0 : GW) (r0 : Nat) (d1 : Arr Int 8) (x1 : Int) (x2 : Int) (x3 : Int) (l1 : List Int) (l2 : List Int) (a1 : Option Addr) (n1 : Nat) (c1 : Nat) (a2 : Option Addr) (n2 : Nat) (c2 : Nat) (hR1 : RdS (Kd.int .u8) g0 5 a1 n1 c1 l1) (hR2 : RdS (Kd.int .u8) g0 5 a2 n2 c2 l2) (o1 : List Int) (hs : F.tx_Tx_all d1 x1 x2 x3 l1 l2 = some o1) :
    Calls Try.prog 44 #[AG [encA .u8 d1, [.int .i64 x1], [.int .i64 x2], [.int .i64 x3], [.slice a1 n1 c1], [.slice a2 n2 c2]]] g0.w (Ret NoM g0 fun v g => ∃ (a_1 : Option Addr) (n_1 : Nat) (c_1 : Nat), v = .slice a_1 n_1 c_1 ∧ OwnS (Kd.int .u8) g r0 5 a_1 n_1 c_1 o1) := by
  refine calls_of (args := [AG [encA .u8 d1, [.int .i64 x1], [.int .i64 x2], [.int .i64 x3], [.slice a1 n1 c1], [.slice a2 n2 c2]]]) Try.func44 rfl (r0 + 0) ?_
  intro t ht htL
  refine ⟨_, rfl, ?_⟩
  refine CP.refr 8 [(0, AG [encA .u8 d1, [.int .i64 x1], [.int .i64 x2], [.int .i64 x3], [.slice a1 n1 c1], [.slice a2 n2 c2]])] (by kernel_rfl) (by kernel_rfl) ?_
  intro ds
  have tot : Step (fun l => NoM l ∨ t ≤ l) g0 g0 := Step.refl _ _
  unfold F.tx_Tx_all at hs
  refine CP.seqR ?_
  refine WP.alloc (T := 26) (t + 1) [encA .u8 d1, [.int .i64 x1], [.int .i64 x2], [.int .i64 x3], [.slice a1 n1 c1], [.slice a2 n2 c2]] [8, 1, 1, 1, 1, 1] (by kernel_rfl) (by simp [len_encA]) ?_
  intro g1 b1 st1 hB1
  replace hR1 := hR1.mono st1 (fun x => x)
  replace hR2 := hR2.mono st1 (fun x => x)
  replace tot := tot.trans st1.pure
  refine WP.still 1 (by kernel_rfl) ?_
  refine WP.done (by kernel_rfl) ?_
  refine NX.then_n ?_
  refine CP.seq ?_
  replace hs := Option.bind_eq_some_iff.1 hs
  obtain ⟨l3, hk1, hs⟩ := hs
  replace hs := Option.bind_eq_some_iff.1 hs
  obtain ⟨l4, hk2, hs⟩ := hs
  refine CP.drawL (by kernel_rfl) [0, 1, 3, 4] [[], [0], [], [2], [0, 1, 2, 3], [0, 1, 2, 3, 4]] [⟨none, [], [], fun l g => Box g (t + 1) b1 26 [encA .u8 d1, [.int .i64 x1], [.int .i64 x2], [.int .i64 x3], [.slice a1 n1 c1], [.slice a2 n2 c2]] [8, 1, 1, 1, 1, 1]⟩, ⟨none, [], [], fun l g => RdS (Kd.int .u8) g 5 a1 n1 c1 l1⟩, ⟨none, [], [], fun l g => RdS (Kd.int .u8) g 5 a2 n2 c2 l2⟩, ⟨some 0, [], [0], fun l g => l.getD 0 undef = AG [encA .u8 d1, [.int .i64 x1], [.int .i64 x2], [.int .i64 x3], [.slice a1 n1 c1], [.slice a2 n2 c2]]⟩, ⟨some 1, [0], [1], fun l g => ∃ (a3 : Option Addr) (c3 : Nat), l.getD 0 undef = .slice a3 l3.length c3 ∧ OwnS (Kd.int .u8) g (t + 2) 5 a3 l3.length c3 l3⟩, ⟨some 2, [], [2], fun l g => l.getD 0 undef = .slice a2 n2 c2⟩, ⟨some 3, [], [3], fun l g => ∃ (a4 : Option Addr) (c4 : Nat), l.getD 0 undef = .slice a4 l4.length c4 ∧ OwnS (Kd.int .u8) g (t + 3) 5 a4 l4.length c4 l4⟩, ⟨some 3, [], [1], fun l g => ∃ (a3 : Option Addr) (c3 : Nat), l.getD 0 undef = .slice a3 l3.length c3 ∧ RdS (Kd.int .u8) g 5 a3 l3.length c3 l3⟩] [[], [], [], [0]] [(t + 2)] [2] [5] (by kernel_rfl) (by simp <;> omega) (by simp) ⟨fun _ _ _ _ st h0 hl hj hB1 => (hB1.mono st (fun h => absurd (hl _ h) (by simp <;> omega))), fun _ _ _ _ st h0 hl hj hR1 => (RdS.mono (e := 5) hR1 st h0), fun _ _ _ _ st h0 hl hj hR2 => (RdS.mono (e := 5) hR2 st h0), fun _ _ _ _ st h0 hl hj e => e, fun _ _ _ _ st h0 hl hj ⟨a3, c3, e, hR3⟩ => ⟨a3, c3, e, (hR3.mono st h0 (hj 0 (by simp) _ rfl))⟩, fun _ _ _ _ st h0 hl hj e => e, fun _ _ _ _ st h0 hl hj ⟨a4, c4, e, hR4⟩ => ⟨a4, c4, e, (hR4.mono st h0 (fun h => absurd (hl _ h) (by simp <;> omega)))⟩, fun _ _ _ _ st h0 hl hj ⟨a3, c3, e, hR3⟩ => ⟨a3, c3, e, (RdS.mono (e := 5) hR3 st h0)⟩, trivial⟩ ⟨hB1, hR1, hR2, trivial, trivial, trivial, trivial, trivial, trivial⟩ (by kernel_rfl) (fun vs => by kernel_rfl) ?_ ?_ ?_
  · intro j hj
    have hq : j = 0 := by have h : j < 1 := hj; omega
    rcases hq with rfl
    · intro vs gq stq hl hf
      replace hl : vs.length = 4 := hl
      obtain ⟨v0, vs0, rfl, hl0⟩ := len_succ hl
      obtain ⟨v1, vs1, rfl, hl1⟩ := len_succ hl0
      obtain ⟨v2, vs2, rfl, hl2⟩ := len_succ hl1
      obtain ⟨v3, vs3, rfl, hl3⟩ := len_succ hl2
      obtain rfl := len_zero hl3
      obtain ⟨a4, c4, e, hR4⟩ := (show ∃ (a4 : Option Addr) (c4 : Nat), v3 = .slice a4 l4.length c4 ∧ OwnS (Kd.int .u8) gq (t + 3) 5 a4 l4.length c4 l4 from hf _ (List.mem_of_getElem? (i := 6) rfl) (by kernel_rfl))
      subst e
      show Option.isSome _ = true
      kernel_rfl
  · intro j hj
    have hq : j = 0 ∨ j = 1 ∨ j = 2 ∨ j = 3 := by have h : j < 4 := hj; omega
    rcases hq with rfl | rfl | rfl | rfl
    · intro vs gq stq hl hf
      replace hl : vs.length = 4 := hl
      obtain ⟨v0, vs0, rfl, hl0⟩ := len_succ hl
      obtain ⟨v1, vs1, rfl, hl1⟩ := len_succ hl0
      obtain ⟨v2, vs2, rfl, hl2⟩ := len_succ hl1
      obtain ⟨v3, vs3, rfl, hl3⟩ := len_succ hl2
      obtain rfl := len_zero hl3
      have hB1 := (show Box gq (t + 1) b1 26 [encA .u8 d1, [.int .i64 x1], [.int .i64 x2], [.int .i64 x3], [.slice a1 n1 c1], [.slice a2 n2 c2]] [8, 1, 1, 1, 1, 1] from hf _ (List.mem_of_getElem? (i := 0) rfl) (by kernel_rfl))
      have hR1 := (show RdS (Kd.int .u8) gq 5 a1 n1 c1 l1 from hf _ (List.mem_of_getElem? (i := 1) rfl) (by kernel_rfl))
      have hR2 := (show RdS (Kd.int .u8) gq 5 a2 n2 c2 l2 from hf _ (List.mem_of_getElem? (i := 2) rfl) (by kernel_rfl))
      refine WP.loadB (v := AG [encA .u8 d1, [.int .i64 x1], [.int .i64 x2], [.int .i64 x3], [.slice a1 n1 c1], [.slice a2 n2 c2]]) hB1 (by kernel_rfl) (by kernel_rfl) ?_
      refine WP.done (by kernel_rfl) (Shown.ok (v := AG [encA .u8 d1, [.int .i64 x1], [.int .i64 x2], [.int .i64 x3], [.slice a1 n1 c1], [.slice a2 n2 c2]]) (by kernel_rfl) (Step.refl _ _) ?_)
      exact ⟨trivial, trivial, trivial, rfl, trivial, trivial, trivial, trivial, trivial⟩
    · intro vs gq stq hl hf
      replace hl : vs.length = 4 := hl
      obtain ⟨v0, vs0, rfl, hl0⟩ := len_succ hl
      obtain ⟨v1, vs1, rfl, hl1⟩ := len_succ hl0
      obtain ⟨v2, vs2, rfl, hl2⟩ := len_succ hl1
      obtain ⟨v3, vs3, rfl, hl3⟩ := len_succ hl2
      obtain rfl := len_zero hl3
      have hR1 := (show RdS (Kd.int .u8) gq 5 a1 n1 c1 l1 from hf _ (List.mem_of_getElem? (i := 1) rfl) (by kernel_rfl))
      have hR2 := (show RdS (Kd.int .u8) gq 5 a2 n2 c2 l2 from hf _ (List.mem_of_getElem? (i := 2) rfl) (by kernel_rfl))
      have e := (show v0 = AG [encA .u8 d1, [.int .i64 x1], [.int .i64 x2], [.int .i64 x3], [.slice a1 n1 c1], [.slice a2 n2 c2]] from hf _ (List.mem_of_getElem? (i := 3) rfl) (by kernel_rfl))
      subst e
      have hcal1 := P.tx_Tx_bare gq (t + 2) d1 x1 x2 x3 l1 l2 a1 n1 c1 a2 n2 c2 hR1 hR2 l3 hk1
      refine WP.callC hcal1 (by kernel_rfl) ?_
      rintro _ g2 st2 ⟨a3, n3, c3, rfl, hR3⟩
      obtain rfl := hR3.len
      refine WP.done (by kernel_rfl) (Shown.ok (v := .slice a3 l3.length c3) (by kernel_rfl) st2.pure ?_)
      exact ⟨trivial, trivial, trivial, trivial, ⟨a3, c3, rfl, hR3⟩, trivial, trivial, trivial, trivial⟩
    · intro vs gq stq hl hf
      replace hl : vs.length = 4 := hl
      obtain ⟨v0, vs0, rfl, hl0⟩ := len_succ hl
      obtain ⟨v1, vs1, rfl, hl1⟩ := len_succ hl0
      obtain ⟨v2, vs2, rfl, hl2⟩ := len_succ hl1
      obtain ⟨v3, vs3, rfl, hl3⟩ := len_succ hl2
      obtain rfl := len_zero hl3
      have hB1 := (show Box gq (t + 1) b1 26 [encA .u8 d1, [.int .i64 x1], [.int .i64 x2], [.int .i64 x3], [.slice a1 n1 c1], [.slice a2 n2 c2]] [8, 1, 1, 1, 1, 1] from hf _ (List.mem_of_getElem? (i := 0) rfl) (by kernel_rfl))
      have hR1 := (show RdS (Kd.int .u8) gq 5 a1 n1 c1 l1 from hf _ (List.mem_of_getElem? (i := 1) rfl) (by kernel_rfl))
      have hR2 := (show RdS (Kd.int .u8) gq 5 a2 n2 c2 l2 from hf _ (List.mem_of_getElem? (i := 2) rfl) (by kernel_rfl))
      refine WP.loadB (v := .slice a2 n2 c2) hB1 (by kernel_rfl) (by kernel_rfl) ?_
      refine WP.done (by kernel_rfl) (Shown.ok (v := .slice a2 n2 c2) (by kernel_rfl) (Step.refl _ _) ?_)
      exact ⟨trivial, trivial, trivial, trivial, trivial, rfl, trivial, trivial, trivial⟩
    · intro vs gq stq hl hf
      replace hl : vs.length = 4 := hl
      obtain ⟨v0, vs0, rfl, hl0⟩ := len_succ hl
      obtain ⟨v1, vs1, rfl, hl1⟩ := len_succ hl0
      obtain ⟨v2, vs2, rfl, hl2⟩ := len_succ hl1
      obtain ⟨v3, vs3, rfl, hl3⟩ := len_succ hl2
      obtain rfl := len_zero hl3
      have hR2 := (show RdS (Kd.int .u8) gq 5 a2 n2 c2 l2 from hf _ (List.mem_of_getElem? (i := 2) rfl) (by kernel_rfl))
      obtain ⟨a3, c3, e, hR3⟩ := (show ∃ (a3 : Option Addr) (c3 : Nat), v1 = .slice a3 l3.length c3 ∧ OwnS (Kd.int .u8) gq (t + 2) 5 a3 l3.length c3 l3 from hf _ (List.mem_of_getElem? (i := 4) rfl) (by kernel_rfl))
      subst e
      have e := (show v2 = .slice a2 n2 c2 from hf _ (List.mem_of_getElem? (i := 5) rfl) (by kernel_rfl))
      subst e
      obtain ⟨gf1, hwf1, stf1, hnew⟩ := hR3.freeze (by omega)
      refine WP.regw hwf1 ?_
      replace hR2 := hR2.mono stf1 (WL.no (by simp <;> omega))
      clear hR3
      have hR3 := hnew
      clear hnew
      have hcal2 := P.octet_PutBytes gf1 (t + 3) l3 l2 a3 l3.length c3 a2 n2 c2 hR3 hR2 l4 hk2
      refine WP.callC hcal2 (by kernel_rfl) ?_
      rintro _ g3 st3 ⟨a4, n4, c4, rfl, hR4⟩
      obtain rfl := hR4.len
      replace st3 : Step (WL []) _ _ := Step.pure st3
      have hz1 := hR3.mono st3 (WL.no (by simp <;> omega))
      replace st3 := Step.both stf1 st3
      refine WP.done (by kernel_rfl) (Shown.ok (v := .slice a4 l4.length c4) (by kernel_rfl) st3 ?_)
      exact ⟨trivial, trivial, trivial, trivial, trivial, trivial, ⟨a4, c4, rfl, hR4⟩, ⟨a3, c3, rfl, hz1⟩, trivial⟩
  intro vs g4 st4 hl hf
  replace hl : vs.length = 4 := hl
  obtain ⟨v0, vs0, rfl, hl0⟩ := len_succ hl
  obtain ⟨v1, vs1, rfl, hl1⟩ := len_succ hl0
  obtain ⟨v2, vs2, rfl, hl2⟩ := len_succ hl1
  obtain ⟨v3, vs3, rfl, hl3⟩ := len_succ hl2
  obtain rfl := len_zero hl3
  obtain ⟨a4, c4, e, hR4⟩ := (show ∃ (a4 : Option Addr) (c4 : Nat), v3 = .slice a4 l4.length c4 ∧ OwnS (Kd.int .u8) g4 (t + 3) 5 a4 l4.length c4 l4 from hf _ (List.mem_of_getElem? (i := 6) rfl) (by kernel_rfl))
  subst e
  replace tot := tot.trans (st4.up1 (.inr (by omega)))
  refine NX.then_n ?_
  refine CP.refr 8 [(2, .slice a4 l4.length c4)] (by kernel_rfl) (by kernel_rfl) ?_
  clear ds
  intro ds
  refine CP.ret ?_
  obtain ⟨g5, hw1, st5, hnew⟩ := hR4.relab (by omega) r0
  refine NX.regw hw1 ?_
  replace tot := tot.trans (st5.up1 (.inr (by omega)))
  clear hR4
  have hR4 := hnew
  clear hnew
  replace hs := Option.some.inj hs
  obtain rfl := hs
  exact NX.fin (v := .slice a4 l4.length c4) (Res.still (by kernel_rfl)) tot htL ⟨a4, l4.length, c4, rfl, hR4⟩
def F.tx_Tx_Encode (d1 : Arr Int 8) (x1 : Int) (x2 : Int) (x3 : Int) (l1 : List Int) (l2 : List Int) : Option ((List Int) × Int) := ((F.tx_Tx_Check d1 x1 x2 x3 l1 l2).bind fun x4 => (if (x4 != 0) = true then (some ([], x4)) else ((F.tx_Tx_all d1 x1 x2 x3 l1 l2).bind fun l3 => (some (l3, 0)))))
theorem P.tx_Tx_Encode (g0 : GW) (r0 : Nat) (d1 : Arr Int 8) (x1 : Int) (x2 : Int) (x3 : Int) (l1 : List Int) (l2 : List Int) (a1 : Option Addr) (n1 : Nat) (c1 : Nat) (a2 : Option Addr) (n2 : Nat) (c2 : Nat) (hR1 : RdS (Kd.int .u8) g0 5 a1 n1 c1 l1) (hR2 : RdS (Kd.int .u8) g0 5 a2 n2 c2 l2) (o1 : List Int) (o2 : Int) (hs : F.tx_Tx_Encode d1 x1 x2 x3 l1 l2 = some (o1, o2)) :
    Calls Try.prog 20 #[AG [encA .u8 d1, [.int .i64 x1], [.int .i64 x2], [.int .i64 x3], [.slice a1 n1 c1], [.slice a2 n2 c2]]] g0.w (Ret NoM g0 fun v g => ∃ (a_1 : Option Addr) (n_1 : Nat) (c_1 : Nat), v = .tuple #[.slice a_1 n_1 c_1, .int .i64 o2] ∧ OwnS (Kd.int .u8) g r0 5 a_1 n_1 c_1 o1) := by
  refine calls_of (args := [AG [encA .u8 d1, [.int .i64 x1], [.int .i64 x2], [.int .i64 x3], [.slice a1 n1 c1], [.slice a2 n2 c2]]]) Try.func20 rfl (r0 + 0) ?_
  intro t ht htL
  refine ⟨_, rfl, ?_⟩
  refine CP.refr 12 [(0, AG [encA .u8 d1, [.int .i64 x1], [.int .i64 x2], [.int .i64 x3], [.slice a1 n1 c1], [.slice a2 n2 c2]])] (by kernel_rfl) (by kernel_rfl) ?_
  intro ds
  have tot : Step (fun l => NoM l ∨ t ≤ l) g0 g0 := Step.refl _ _
  unfold F.tx_Tx_Encode at hs
  refine CP.seqR ?_
  refine WP.alloc (T := 26) (t + 1) [encA .u8 d1, [.int .i64 x1], [.int .i64 x2], [.int .i64 x3], [.slice a1 n1 c1], [.slice a2 n2 c2]] [8, 1, 1, 1, 1, 1] (by kernel_rfl) (by simp [len_encA]) ?_
  intro g1 b1 st1 hB1
  replace hR1 := hR1.mono st1 (fun x => x)
  replace hR2 := hR2.mono st1 (fun x => x)
  replace tot := tot.trans st1.pure
  refine WP.still 2 (by kernel_rfl) ?_
  refine WP.done (by kernel_rfl) ?_
  refine NX.then_n ?_
  refine CP.seq ?_
  refine CP.seqR ?_
  refine WP.loadB (v := AG [encA .u8 d1, [.int .i64 x1], [.int .i64 x2], [.int .i64 x3], [.slice a1 n1 c1], [.slice a2 n2 c2]]) hB1 (by kernel_rfl) (by kernel_rfl) ?_
  replace hs := Option.bind_eq_some_iff.1 hs
  obtain ⟨x4, hk1, hs⟩ := hs
  have hcal1 := P.tx_Tx_Check g1 d1 x1 x2 x3 l1 l2 a1 n1 c1 a2 n2 c2 hR1 hR2 x4 hk1
  refine WP.callC hcal1 (by kernel_rfl) ?_
  rintro _ g2 st2 rfl
  replace hB1 := hB1.mono st2 (fun x => x)
  replace hR1 := hR1.mono st2 (fun x => x)
  replace hR2 := hR2.mono st2 (fun x => x)
  replace tot := tot.trans st2.pure
  refine WP.still 1 (by kernel_rfl) ?_
  refine WP.done (by kernel_rfl) ?_
  refine NX.then_n ?_
  refine CP.seqR ?_
  refine WP.still 2 (by kernel_rfl) ?_
  refine WP.done (by kernel_rfl) ?_
  refine NX.then_n ?_
  refine CP.cond (b := (x4 != 0)) (by kernel_rfl) (fun h1 => ?_) (fun h1 => ?_)
  · replace hs := of_if_t hs h1
    refine CP.seqR ?_
    refine WP.still 3 (by kernel_rfl) ?_
    refine WP.done (by kernel_rfl) ?_
    refine NX.then_n ?_
    refine CP.ret ?_
    refine NX.then_r ?_
    replace hs := Option.some.inj hs
    obtain ⟨rfl, rfl⟩ := Prod.mk.inj hs
    exact NX.fin (v := .tuple #[.slice none 0 0, .int .i64 x4]) (Res.still (by kernel_rfl)) tot htL ⟨none, 0, 0, rfl, (OwnS.nil _ _ _ _)⟩
  replace hs := of_if_f hs h1
  refine CP.skip ?_
  refine NX.then_n ?_
  refine CP.seqR ?_
  refine WP.loadB (v := AG [encA .u8 d1, [.int .i64 x1], [.int .i64 x2], [.int .i64 x3], [.slice a1 n1 c1], [.slice a2 n2 c2]]) hB1 (by kernel_rfl) (by kernel_rfl) ?_
  replace hs := Option.bind_eq_some_iff.1 hs
  obtain ⟨l3, hk2, hs⟩ := hs
  have hcal2 := P.tx_Tx_all g2 (t + 2) d1 x1 x2 x3 l1 l2 a1 n1 c1 a2 n2 c2 hR1 hR2 l3 hk2
  refine WP.callC hcal2 (by kernel_rfl) ?_
  rintro _ g3 st3 ⟨a3, n3, c3, rfl, hR3⟩
  replace hB1 := hB1.mono st3 (fun x => x)
  replace hR1 := hR1.mono st3 (fun x => x)
  replace hR2 := hR2.mono st3 (fun x => x)
  replace tot := tot.trans st3.pure
  refine WP.still 2 (by kernel_rfl) ?_
  refine WP.done (by kernel_rfl) ?_
  refine NX.then_n ?_
  refine CP.ret ?_
  obtain ⟨g4, hw1, st4, hnew⟩ := hR3.relab (by omega) r0
  refine NX.regw hw1 ?_
  replace tot := tot.trans (st4.up1 (.inr (by omega)))
  clear hR3
  have hR3 := hnew
  clear hnew
  replace hs := Option.some.inj hs
  obtain ⟨rfl, rfl⟩ := Prod.mk.inj hs
  exact NX.fin (v := .tuple #[.slice a3 n3 c3, .int .i64 0]) (Res.still (by kernel_rfl)) tot htL ⟨a3, n3, c3, rfl, hR3⟩
def F.baizelaw25_known.c1 (q3 : Bool) : Option (Bool) := (some q3)
def F.baizelaw25_known : Option (Bool) := ((F.tx_Tx_Encode (⟨[5, 0, 0, 0, 0, 0, 0, 0], rfl⟩ : Arr Int 8) 1 2 2 ([7]) ([9])).bind fun (l1, x1) => ((F.tx_PayTo (⟨[5, 0, 0, 0, 0, 0, 0, 0], rfl⟩ : Arr Int 8) 300).bind fun l3 => ((F.baizeref01_Same l3 ([5, 172, 2])).bind fun q4 => (if q4 = true then (if (x1 == 0) = true then ((F.baizeref01_Same l1 ([2, 5, 1, 2, 1, 7, 1, 9])).bind fun q5 => (F.baizelaw25_known.c1 q5)) else (F.baizelaw25_known.c1 false)) else (F.baizelaw25_known.c1 false)))))
theorem P.baizelaw25_known (g0 : GW) (o1 : Bool) (hs : F.baizelaw25_known = some o1) :
    Calls Try.prog 17 #[] g0.w (Ret NoM g0 fun v g => v = .bool o1) := by
  refine calls_of (args := []) Try.func17 rfl (0) ?_
  intro t ht htL
  refine ⟨_, rfl, ?_⟩
  refine CP.refr 24 [] (by kernel_rfl) (by kernel_rfl) ?_
  intro ds
  have tot : Step (fun l => NoM l ∨ t ≤ l) g0 g0 := Step.refl _ _
  unfold F.baizelaw25_known at hs
  refine CP.seqR ?_
  refine WP.still 1 (by kernel_rfl) ?_
  refine WP.done (by kernel_rfl) ?_
  refine NX.then_n ?_
  refine CP.seqR ?_
  refine WP.still 1 (by kernel_rfl) ?_
  refine WP.mkSl (kd := (Kd.int .u8)) (t := 24) (e := 5) (bytes := 1) (t + 1) [.int .u8 7] [7] (by kernel_rfl) (by kernel_rfl) (Nat.le_of_ble_eq_true rfl) (Nat.le_of_ble_eq_true rfl) (all_cons rfl all_nil) (⟨_, _, rfl, (by exact rfl), rfl⟩) rfl ?_
  intro g1 a1 st1 hR1
  replace tot := tot.trans st1.pure
  refine WP.mkSl (kd := (Kd.int .u8)) (t := 24) (e := 5) (bytes := 1) (t + 2) [.int .u8 9] [9] (by kernel_rfl) (by kernel_rfl) (Nat.le_of_ble_eq_true rfl) (Nat.le_of_ble_eq_true rfl) (all_cons rfl all_nil) (⟨_, _, rfl, (by exact rfl), rfl⟩) rfl ?_
  intro g2 a2 st2 hR2
  replace hR1 := hR1.mono st2 (fun x => x) (fun x => x)
  replace tot := tot.trans st2.pure
  refine WP.buildS (places := #[(0, 8), (8, 1), (9, 1), (10, 1), (11, 1), (12, 1)]) (t := 26) [encA .u8 (zA 8), [.int .i64 0], [.int .i64 0], [.int .i64 0], [.slice none 0 0], [.slice none 0 0]] [8, 1, 1, 1, 1, 1] (by kernel_rfl) (by kernel_rfl) (by simp [len_encA]) (by kernel_rfl) ((.cons (i := 0) (off := 0) (v := AG [encA .u8 (⟨[5, 0, 0, 0, 0, 0, 0, 0], rfl⟩ : Arr Int 8)]) (mid := [encA .u8 (⟨[5, 0, 0, 0, 0, 0, 0, 0], rfl⟩ : Arr Int 8), [.int .i64 0], [.int .i64 0], [.int .i64 0], [.slice none 0 0], [.slice none 0 0]]) [encA .u8 (⟨[5, 0, 0, 0, 0, 0, 0, 0], rfl⟩ : Arr Int 8)] [8] (by kernel_rfl) (by kernel_rfl) (by simp [len_encA]) (by kernel_rfl) (.cons (i := 1) (off := 8) (v := .int .i64 1) (mid := [encA .u8 (⟨[5, 0, 0, 0, 0, 0, 0, 0], rfl⟩ : Arr Int 8), [.int .i64 1], [.int .i64 0], [.int .i64 0], [.slice none 0 0], [.slice none 0 0]]) [[.int .i64 1]] [1] (by kernel_rfl) (by kernel_rfl) rfl (by kernel_rfl) (.cons (i := 2) (off := 9) (v := .int .i64 2) (mid := [encA .u8 (⟨[5, 0, 0, 0, 0, 0, 0, 0], rfl⟩ : Arr Int 8), [.int .i64 1], [.int .i64 2], [.int .i64 0], [.slice none 0 0], [.slice none 0 0]]) [[.int .i64 2]] [1] (by kernel_rfl) (by kernel_rfl) rfl (by kernel_rfl) (.cons (i := 3) (off := 10) (v := .int .i64 2) (mid := [encA .u8 (⟨[5, 0, 0, 0, 0, 0, 0, 0], rfl⟩ : Arr Int 8), [.int .i64 1], [.int .i64 2], [.int .i64 2], [.slice none 0 0], [.slice none 0 0]]) [[.int .i64 2]] [1] (by kernel_rfl) (by kernel_rfl) rfl (by kernel_rfl) (.cons (i := 4) (off := 11) (v := .slice a1 1 1) (mid := [encA .u8 (⟨[5, 0, 0, 0, 0, 0, 0, 0], rfl⟩ : Arr Int 8), [.int .i64 1], [.int .i64 2], [.int .i64 2], [.slice a1 1 1], [.slice none 0 0]]) [[.slice a1 1 1]] [1] (by kernel_rfl) (by kernel_rfl) rfl (by kernel_rfl) (.cons (i := 5) (off := 12) (v := .slice a2 1 1) (mid := [encA .u8 (⟨[5, 0, 0, 0, 0, 0, 0, 0], rfl⟩ : Arr Int 8), [.int .i64 1], [.int .i64 2], [.int .i64 2], [.slice a1 1 1], [.slice a2 1 1]]) [[.slice a2 1 1]] [1] (by kernel_rfl) (by kernel_rfl) rfl (by kernel_rfl) .nil))))))) ?_
  replace hs := Option.bind_eq_some_iff.1 hs
  obtain ⟨⟨l1, x1⟩, hk1, hs⟩ := hs
  dsimp only at hs
  obtain ⟨g4, hw1, st4, hnew⟩ := hR1.freeze (by omega)
  refine WP.regw hw1 ?_
  replace hR2 := hR2.mono st4 (WL.no1 (by omega)) (WL.no1 (by omega))
  replace tot := tot.trans (st4.up1 (.inr (by omega)))
  clear hR1
  have hR1 := hnew
  clear hnew
  obtain ⟨g5, hw2, st5, hnew⟩ := hR2.freeze (by omega)
  refine WP.regw hw2 ?_
  replace hR1 := hR1.mono st5 (WL.no1 (by omega))
  replace tot := tot.trans (st5.up1 (.inr (by omega)))
  clear hR2
  have hR2 := hnew
  clear hnew
  have hcal1 := P.tx_Tx_Encode g5 (t + 3) (⟨[5, 0, 0, 0, 0, 0, 0, 0], rfl⟩ : Arr Int 8) 1 2 2 ([7]) ([9]) a1 1 1 a2 1 1 hR1 hR2 l1 x1 hk1
  refine WP.callC hcal1 (by kernel_rfl) ?_
  rintro _ g3 st3 ⟨a3, n1, c1, rfl, hR3⟩
  replace hR1 := hR1.mono st3 (fun x => x)
  replace hR2 := hR2.mono st3 (fun x => x)
  replace tot := tot.trans st3.pure
  refine WP.still 5 (by kernel_rfl) ?_
  refine WP.done (by kernel_rfl) ?_
  refine NX.then_n ?_
  refine CP.cut (fun tm g => ∃ (q3 : Bool), Fr 24 [(0, .bool q3)] tm ∧ Step (fun l => NoM l ∨ t ≤ l) g0 g ∧ (F.baizelaw25_known.c1 q3) = some o1) ?_ ?_
  · refine CP.region ?_
    refine WP.still 1 (by kernel_rfl) ?_
    replace hs := Option.bind_eq_some_iff.1 hs
    obtain ⟨l3, hk5, hs⟩ := hs
    have hcal5 := P.tx_PayTo g3 (t + 7) (⟨[5, 0, 0, 0, 0, 0, 0, 0], rfl⟩ : Arr Int 8) 300 l3 hk5
    refine WP.callC hcal5 (by kernel_rfl) ?_
    rintro _ g13 st13 ⟨a7, n3, c3, rfl, hR7⟩
    replace hR3 := hR3.mono st13 (fun x => x) (fun x => x)
    replace tot := tot.trans st13.pure
    refine WP.mkSl (kd := (Kd.int .u8)) (t := 24) (e := 5) (bytes := 1) (t + 8) [.int .u8 5, .int .u8 172, .int .u8 2] [5, 172, 2] (by kernel_rfl) (by kernel_rfl) (Nat.le_of_ble_eq_true rfl) (Nat.le_of_ble_eq_true rfl) (all_cons rfl (all_cons rfl (all_cons rfl all_nil))) (⟨_, _, rfl, (by exact rfl), ⟨_, _, rfl, (by exact rfl), ⟨_, _, rfl, (by exact rfl), rfl⟩⟩⟩) rfl ?_
    intro g14 a8 st14 hR8
    replace hR3 := hR3.mono st14 (fun x => x) (fun x => x)
    replace hR7 := hR7.mono st14 (fun x => x) (fun x => x)
    replace tot := tot.trans st14.pure
    replace hs := Option.bind_eq_some_iff.1 hs
    obtain ⟨q4, hk6, hs⟩ := hs
    have hS3 : 0 ∉ ([(t + 7), (t + 8)] : List Nat) := by simp <;> omega
    have stl3 := GW.lend_step g14 [(t + 7), (t + 8)]
    have hRl5 := hR7.lendTo hS3 (by simp)
    have hRl6 := hR8.lendTo hS3 (by simp)
    refine WP.regw (g' := GW.lend g14 [(t + 7), (t + 8)]) rfl ?_
    have hcal6 := P.baizeref01_Same (GW.lend g14 [(t + 7), (t + 8)]) l3 ([5, 172, 2]) a7 n3 c3 a8 3 3 hRl5 hRl6 q4 hk6
    refine WP.callC hcal6 (by kernel_rfl) ?_
    rintro _ g15 st15 rfl
    have st16 := (GW.back_step st15).lentS
    have hO5 := hR7.backTo hS3 (by simp) st15 (fun x => x)
    have hO6 := hR8.backTo hS3 (by simp) st15 (fun x => x)
    refine WP.regw (g' := GW.back g14 g15 [(t + 7), (t + 8)]) rfl ?_
    generalize GW.back g14 g15 [(t + 7), (t + 8)] = g16 at *
    replace hR3 := hR3.mono st16 (WL.no2 (by omega) (by omega)) (WL.no2 (by omega) (by omega))
    replace tot := tot.trans (st16.up2 (.inr (by omega)) (.inr (by omega)))
    clear hR7
    have hR7 : OwnS (Kd.int .u8) g16 (t + 7) 5 a7 n3 c3 l3 := hO5
    clear hO5
    clear hR8
    have hR8 : OwnS (Kd.int .u8) g16 (t + 8) 5 a8 3 3 ([5, 172, 2]) := hO6
    clear hO6
    refine WP.still 1 (by kernel_rfl) ?_
    refine WP.guard 15 (b := q4) (by kernel_rfl) (fun h3 => ?_) (fun h3 => ?_)
    · replace hs := of_if_t hs h3
      refine WP.still 4 (by kernel_rfl) ?_
      refine WP.guard 19 (b := (x1 == 0)) (by kernel_rfl) (fun h4 => ?_) (fun h4 => ?_)
      · replace hs := of_if_t hs h4
        refine WP.still 1 (by kernel_rfl) ?_
        refine WP.mkSl (kd := (Kd.int .u8)) (t := 24) (e := 5) (bytes := 1) (t + 9) [.int .u8 2, .int .u8 5, .int .u8 1, .int .u8 2, .int .u8 1, .int .u8 7, .int .u8 1, .int .u8 9] [2, 5, 1, 2, 1, 7, 1, 9] (by kernel_rfl) (by kernel_rfl) (Nat.le_of_ble_eq_true rfl) (Nat.le_of_ble_eq_true rfl) (all_cons rfl (all_cons rfl (all_cons rfl (all_cons rfl (all_cons rfl (all_cons rfl (all_cons rfl (all_cons rfl all_nil)))))))) (⟨_, _, rfl, (by exact rfl), ⟨_, _, rfl, (by exact rfl), ⟨_, _, rfl, (by exact rfl), ⟨_, _, rfl, (by exact rfl), ⟨_, _, rfl, (by exact rfl), ⟨_, _, rfl, (by exact rfl), ⟨_, _, rfl, (by exact rfl), ⟨_, _, rfl, (by exact rfl), rfl⟩⟩⟩⟩⟩⟩⟩⟩) rfl ?_
        intro g17 a9 st17 hR9
        replace hR3 := hR3.mono st17 (fun x => x) (fun x => x)
        replace hR7 := hR7.mono st17 (fun x => x) (fun x => x)
        replace hR8 := hR8.mono st17 (fun x => x) (fun x => x)
        replace tot := tot.trans st17.pure
        replace hs := Option.bind_eq_some_iff.1 hs
        obtain ⟨q5, hk7, hs⟩ := hs
        have hS4 : 0 ∉ ([(t + 3), (t + 9)] : List Nat) := by simp <;> omega
        have stl4 := GW.lend_step g17 [(t + 3), (t + 9)]
        have hRl7 := hR3.lendTo hS4 (by simp)
        have hRl8 := hR9.lendTo hS4 (by simp)
        refine WP.regw (g' := GW.lend g17 [(t + 3), (t + 9)]) rfl ?_
        have hcal7 := P.baizeref01_Same (GW.lend g17 [(t + 3), (t + 9)]) l1 ([2, 5, 1, 2, 1, 7, 1, 9]) a3 n1 c1 a9 8 8 hRl7 hRl8 q5 hk7
        refine WP.callC hcal7 (by kernel_rfl) ?_
        rintro _ g18 st18 rfl
        have st19 := (GW.back_step st18).lentS
        have hO7 := hR3.backTo hS4 (by simp) st18 (fun x => x)
        have hO8 := hR9.backTo hS4 (by simp) st18 (fun x => x)
        refine WP.regw (g' := GW.back g17 g18 [(t + 3), (t + 9)]) rfl ?_
        generalize GW.back g17 g18 [(t + 3), (t + 9)] = g19 at *
        replace hR7 := hR7.mono st19 (WL.no2 (by omega) (by omega)) (WL.no2 (by omega) (by omega))
        replace hR8 := hR8.mono st19 (WL.no2 (by omega) (by omega)) (WL.no2 (by omega) (by omega))
        replace tot := tot.trans (st19.up2 (.inr (by omega)) (.inr (by omega)))
        clear hR3
        have hR3 : OwnS (Kd.int .u8) g19 (t + 3) 5 a3 n1 c1 l1 := hO7
        clear hO7
        clear hR9
        have hR9 : OwnS (Kd.int .u8) g19 (t + 9) 5 a9 8 8 ([2, 5, 1, 2, 1, 7, 1, 9]) := hO8
        clear hO8
        refine WP.still 2 (by kernel_rfl) ?_
        refine WP.done (by kernel_rfl) ?_
        refine NX.post ?_
        exact ⟨q5, ⟨by kernel_rfl, by kernel_rfl⟩, tot, hs⟩
      replace hs := of_if_f hs h4
      refine WP.still 5 (by kernel_rfl) ?_
      refine WP.done (by kernel_rfl) ?_
      refine NX.post ?_
      exact ⟨false, ⟨by kernel_rfl, by kernel_rfl⟩, tot, hs⟩
    replace hs := of_if_f hs h3
    refine WP.still 9 (by kernel_rfl) ?_
    refine WP.done (by kernel_rfl) ?_
    refine NX.post ?_
    exact ⟨false, ⟨by kernel_rfl, by kernel_rfl⟩, tot, hs⟩
  clear tot hs hR3
  rintro tm g ⟨q3, hF, tot, hs⟩
  clear ds
  obtain ⟨ds, rfl⟩ := hF.open
  clear hF
  unfold F.baizelaw25_known.c1 at hs
  refine CP.ret ?_
  replace hs := Option.some.inj hs
  obtain rfl := hs
  exact NX.fin (v := .bool q3) (Res.still (by kernel_rfl)) tot htL rfl
def F.baizelaw25_TxPays.c3 (q5 : Bool) : Option (Bool) := (some q5)
def F.baizelaw25_TxPays.c4 (q8 : Bool) : Option (Bool) := (some q8)
def F.baizelaw25_TxPays.c2 (d2 : Arr Int 8) (x4 : Int) (d7 : Arr Int 8) (x15 : Int) (x16 : Int) (q3 : Bool) : Option (Bool) := (if q3 = true then ((F.baizelaw25_known).bind fun q6 => (if q6 = true then (if (x16 == 2) = true then (if (d7.1 == (zA 8).1) = true then (F.baizelaw25_TxPays.c3 (x15 == 0)) else (F.baizelaw25_TxPays.c3 false)) else (F.baizelaw25_TxPays.c3 false)) else (F.baizelaw25_TxPays.c3 false))) else ((F.baizelaw25_known).bind fun q9 => (if q9 = true then (if (x16 == 0) = true then (if (d7.1 == d2.1) = true then (F.baizelaw25_TxPays.c4 (x15 == x4)) else (F.baizelaw25_TxPays.c4 false)) else (F.baizelaw25_TxPays.c4 false)) else (F.baizelaw25_TxPays.c4 false))))
def F.baizelaw25_TxPays.c1 (d2 : Arr Int 8) (x4 : Int) (q2 : Bool) : Option (Bool) := (if q2 = true then (some false) else ((F.tx_PayTo d2 x4).bind fun l9 => ((F.tx_Tx_Paid (zA 8) 0 0 0 l9 ([])).bind fun (d7, x15, x16) => (if decide (x4 < 0) = true then (F.baizelaw25_TxPays.c2 d2 x4 d7 x15 x16 true) else (F.baizelaw25_TxPays.c2 d2 x4 d7 x15 x16 (decide (x4 > 1125899906842624)))))))
def N.baizelaw25_TxPays_0 : List (List Nat) := [[], [], [0, 1], [0, 1, 2], [0, 1, 2, 3], [0, 1, 2, 3], [0, 1, 2, 3, 4, 5], [0, 1, 2, 3, 4, 5, 6], [0, 1, 2, 3, 4, 5, 6, 7], [0, 1, 2, 3, 4, 5, 6, 7, 8], [0, 1, 2, 3, 4, 5, 6, 7, 8], [0, 1, 2, 3, 4, 5, 6, 7, 8, 9, 10], [0, 1, 2, 3, 4, 5, 6, 7, 8, 9, 10, 11], [0, 1, 2, 3, 4, 5, 6, 7, 8, 9, 10, 11, 12], [0, 1, 2, 3, 4, 5, 6, 7, 8, 9, 10, 11, 12, 13], [0, 1, 2, 3, 4, 5, 6, 7, 8, 9, 10, 11, 12, 13], [0, 1, 2, 3, 4, 5, 6, 7, 8, 9, 10, 11, 12, 13, 14, 15], [0, 1, 2, 3, 4, 5, 6, 7, 8, 9, 10, 11, 12, 13], [0, 1, 2, 3, 4, 5, 6, 7, 8, 9, 10, 11, 12, 13], [0, 1, 2, 3, 4, 5, 6, 7, 8, 9, 10, 11, 12, 13, 14, 15, 16, 17, 18], [0, 1, 2, 3, 4, 5, 6, 7, 8, 9, 10, 11, 12, 13, 14, 15, 16, 17, 18, 19], [0, 1, 2, 3, 4, 5, 6, 7, 8, 9, 10, 11, 12, 13, 14, 15, 16, 17, 18, 19, 20], [0, 1, 2, 3, 4, 5, 6, 7, 8, 9, 10, 11, 12, 13, 14, 15, 16, 17, 18, 19, 20, 21]]
def F.baizelaw25_TxPays (d1 : Arr Int 8) (x1 : Int) (x2 : Int) (x3 : Int) (l1 : List Int) (l2 : List Int) (d2 : Arr Int 8) (x4 : Int) : Option (Bool) := ((F.baizelaw25_Cut d1 x1 x2 x3 l1 l2).bind fun (d3, x5, x6, x7, l3, l4) => ((F.tx_Tx_Paid d3 x5 x6 x7 l3 l4).bind fun (d4, x8, x9) => ((F.baizelaw25_Of d3 x5 x6 x7 l3 l4).bind fun (d5, x10, x11, x12, l5, l6) => ((F.baizeref25_Paid d5 x10 x11 x12 l5 l6).bind fun (d6, x13, x14) => (if (!(d4.1 == d6.1)) = true then (F.baizelaw25_TxPays.c1 d2 x4 true) else (if (x8 != x13) = true then (F.baizelaw25_TxPays.c1 d2 x4 true) else (if (x9 != x14) = true then (F.baizelaw25_TxPays.c1 d2 x4 true) else ((F.tx_PayTo d2 x4).bind fun l10 => ((F.baizeref25_PayTo d2 x4).bind fun l11 => ((F.baizeref01_Same l10 l11).bind fun q10 => (F.baizelaw25_TxPays.c1 d2 x4 (!q10))))))))))))
theorem P.baizelaw25_TxPays (g0 : GW) (d1 : Arr Int 8) (x1 : Int) (x2 : Int) (x3 : Int) (l1 : List Int) (l2 : List Int) (d2 : Arr Int 8) (x4 : Int) (a1 : Option Addr) (n1 : Nat) (c1 : Nat) (a2 : Option Addr) (n2 : Nat) (c2 : Nat) (hR1 : RdS (Kd.int .u8) g0 5 a1 n1 c1 l1) (hR2 : RdS (Kd.int .u8) g0 5 a2 n2 c2 l2) (o1 : Bool) (hs : F.baizelaw25_TxPays d1 x1 x2 x3 l1 l2 d2 x4 = some o1) :
    Calls Try.prog 3 #[AG [encA .u8 d1, [.int .i64 x1], [.int .i64 x2], [.int .i64 x3], [.slice a1 n1 c1], [.slice a2 n2 c2]], AG [encA .u8 d2], .int .i64 x4] g0.w (Ret NoM g0 fun v g => v = .bool o1) := by
  refine calls_of (args := [AG [encA .u8 d1, [.int .i64 x1], [.int .i64 x2], [.int .i64 x3], [.slice a1 n1 c1], [.slice a2 n2 c2]], AG [encA .u8 d2], .int .i64 x4]) Try.func3 rfl (0) ?_
  intro t ht htL
  refine ⟨_, rfl, ?_⟩
  refine CP.refr 98 [(0, AG [encA .u8 d1, [.int .i64 x1], [.int .i64 x2], [.int .i64 x3], [.slice a1 n1 c1], [.slice a2 n2 c2]]), (1, AG [encA .u8 d2]), (2, .int .i64 x4)] (by kernel_rfl) (by kernel_rfl) ?_
  intro ds
  have tot : Step (fun l => NoM l ∨ t ≤ l) g0 g0 := Step.refl _ _
  unfold F.baizelaw25_TxPays at hs
  refine CP.seqR ?_
  refine WP.alloc (T := 26) (t + 1) [encA .u8 d1, [.int .i64 x1], [.int .i64 x2], [.int .i64 x3], [.slice a1 n1 c1], [.slice a2 n2 c2]] [8, 1, 1, 1, 1, 1] (by kernel_rfl) (by simp [len_encA]) ?_
  intro g1 b1 st1 hB1
  replace hR1 := hR1.mono st1 (fun x => x)
  replace hR2 := hR2.mono st1 (fun x => x)
  replace tot := tot.trans st1.pure
  refine WP.alloc (T := 22) (t + 2) [encA .u8 d2] [8] (by kernel_rfl) (by simp [len_encA]) ?_
  intro g2 b2 st2 hB2
  replace hR1 := hR1.mono st2 (fun x => x)
  replace hR2 := hR2.mono st2 (fun x => x)
  replace hB1 := hB1.mono st2 (fun x => x)
  replace tot := tot.trans st2.pure
  refine WP.still 1 (by kernel_rfl) ?_
  refine WP.done (by kernel_rfl) ?_
  refine NX.then_n ?_
  refine CP.seqR ?_
  refine WP.loadB (v := AG [encA .u8 d1, [.int .i64 x1], [.int .i64 x2], [.int .i64 x3], [.slice a1 n1 c1], [.slice a2 n2 c2]]) hB1 (by kernel_rfl) (by kernel_rfl) ?_
  replace hs := Option.bind_eq_some_iff.1 hs
  obtain ⟨⟨d3, x5, x6, x7, l3, l4⟩, hk1, hs⟩ := hs
  dsimp only at hs
  have hcal1 := P.baizelaw25_Cut g2 d1 x1 x2 x3 l1 l2 a1 n1 c1 a2 n2 c2 hR1 hR2 d3 x5 x6 x7 l3 l4 hk1
  refine WP.callC hcal1 (by kernel_rfl) ?_
  rintro _ g3 st3 ⟨a3, n3, c3, a4, n4, c4, rfl, hR3, hR4⟩
  replace hB1 := hB1.mono st3 (fun x => x)
  replace hR1 := hR1.mono st3 (fun x => x)
  replace hR2 := hR2.mono st3 (fun x => x)
  replace hB2 := hB2.mono st3 (fun x => x)
  replace tot := tot.trans st3.pure
  refine WP.storeB (ty := 26) (off := 0) (v := AG [encA .u8 d3, [.int .i64 x5], [.int .i64 x6], [.int .i64 x7], [.slice a3 n3 c3], [.slice a4 n4 c4]]) hB1 [encA .u8 d3, [.int .i64 x5], [.int .i64 x6], [.int .i64 x7], [.slice a3 n3 c3], [.slice a4 n4 c4]] [8, 1, 1, 1, 1, 1] (by kernel_rfl) (by kernel_rfl) (by simp [len_encA]) (by kernel_rfl) [encA .u8 d3, [.int .i64 x5], [.int .i64 x6], [.int .i64 x7], [.slice a3 n3 c3], [.slice a4 n4 c4]] (by kernel_rfl) (.arr (.one rfl (.one rfl (.one rfl (.one rfl (.one rfl .nil)))))) ?_
  intro g4 st4 hB3
  replace hR3 := hR3.mono st4 (WL.no1 (by omega))
  replace hR4 := hR4.mono st4 (WL.no1 (by omega))
  replace hB2 := hB2.mono st4 (WL.no1 (by omega))
  replace hR1 := hR1.mono st4 (WL.no1 (by omega))
  replace hR2 := hR2.mono st4 (WL.no1 (by omega))
  replace tot := tot.trans (st4.up1 (.inr (by omega)))
  clear hB1
  have hB1 := hB3
  clear hB3
  refine WP.done (by kernel_rfl) ?_
  refine NX.then_n ?_
  refine CP.seqR ?_
  refine WP.loadB (v := AG [encA .u8 d3, [.int .i64 x5], [.int .i64 x6], [.int .i64 x7], [.slice a3 n3 c3], [.slice a4 n4 c4]]) hB1 (by kernel_rfl) (by kernel_rfl) ?_
  replace hs := Option.bind_eq_some_iff.1 hs
  obtain ⟨⟨d4, x8, x9⟩, hk2, hs⟩ := hs
  dsimp only at hs
  have hcal2 := P.tx_Tx_Paid g4 d3 x5 x6 x7 l3 l4 a3 n3 c3 a4 n4 c4 hR3 hR4 d4 x8 x9 hk2
  refine WP.callC hcal2 (by kernel_rfl) ?_
  rintro _ g5 st5 rfl
  replace hB1 := hB1.mono st5 (fun x => x)
  replace hR3 := hR3.mono st5 (fun x => x)
  replace hR4 := hR4.mono st5 (fun x => x)
  replace hB2 := hB2.mono st5 (fun x => x)
  replace tot := tot.trans st5.pure
  refine WP.still 4 (by kernel_rfl) ?_
  refine WP.alloc (T := 23) (t + 3) [encA .u8 (zA 8)] [8] (by kernel_rfl) (by simp [len_encA]) ?_
  intro g6 b3 st6 hB4
  replace hB1 := hB1.mono st6 (fun x => x)
  replace hR3 := hR3.mono st6 (fun x => x)
  replace hR4 := hR4.mono st6 (fun x => x)
  replace hB2 := hB2.mono st6 (fun x => x)
  replace tot := tot.trans st6.pure
  refine WP.storeB (ty := 23) (off := 0) (v := AG [encA .u8 d4]) hB4 [encA .u8 d4] [8] (by kernel_rfl) (by kernel_rfl) (by simp [len_encA]) (by kernel_rfl) [encA .u8 d4] (by kernel_rfl) (.arr .nil) ?_
  intro g7 st7 hB5
  replace hB1 := hB1.mono st7 (WL.no1 (by omega))
  replace hR3 := hR3.mono st7 (WL.no1 (by omega))
  replace hR4 := hR4.mono st7 (WL.no1 (by omega))
  replace hB2 := hB2.mono st7 (WL.no1 (by omega))
  replace tot := tot.trans (st7.up1 (.inr (by omega)))
  clear hB4
  have hB4 := hB5
  clear hB5
  refine WP.still 2 (by kernel_rfl) ?_
  refine WP.done (by kernel_rfl) ?_
  refine NX.then_n ?_
  refine CP.refr 98 [(2, .int .i64 x4), (3, .pointer (some ⟨b1, 0, none⟩)), (4, .pointer (some ⟨b2, 0, none⟩)), (7, .pointer (some ⟨b3, 0, none⟩)), (8, .int .i64 x8), (9, .int .i64 x9)] (by kernel_rfl) (by kernel_rfl) ?_
  clear ds
  intro ds
  refine CP.seqR ?_
  refine WP.loadB (v := AG [encA .u8 d3, [.int .i64 x5], [.int .i64 x6], [.int .i64 x7], [.slice a3 n3 c3], [.slice a4 n4 c4]]) hB1 (by kernel_rfl) (by kernel_rfl) ?_
  replace hs := Option.bind_eq_some_iff.1 hs
  obtain ⟨⟨d5, x10, x11, x12, l5, l6⟩, hk3, hs⟩ := hs
  dsimp only at hs
  have hcal3 := P.baizelaw25_Of g7 d3 x5 x6 x7 l3 l4 a3 n3 c3 a4 n4 c4 hR3 hR4 d5 x10 x11 x12 l5 l6 hk3
  refine WP.callC hcal3 (by kernel_rfl) ?_
  rintro _ g8 st8 ⟨a5, n5, c5, a6, n6, c6, rfl, hR5, hR6⟩
  replace hB1 := hB1.mono st8 (fun x => x)
  replace hR3 := hR3.mono st8 (fun x => x)
  replace hR4 := hR4.mono st8 (fun x => x)
  replace hB2 := hB2.mono st8 (fun x => x)
  replace hB4 := hB4.mono st8 (fun x => x)
  replace tot := tot.trans st8.pure
  replace hs := Option.bind_eq_some_iff.1 hs
  obtain ⟨⟨d6, x13, x14⟩, hk4, hs⟩ := hs
  dsimp only at hs
  have hcal4 := P.baizeref25_Paid g8 d5 x10 x11 x12 l5 l6 a5 n5 c5 a6 n6 c6 hR5 hR6 d6 x13 x14 hk4
  refine WP.callC hcal4 (by kernel_rfl) ?_
  rintro _ g9 st9 rfl
  replace hB1 := hB1.mono st9 (fun x => x)
  replace hR3 := hR3.mono st9 (fun x => x)
  replace hR4 := hR4.mono st9 (fun x => x)
  replace hB2 := hB2.mono st9 (fun x => x)
  replace hB4 := hB4.mono st9 (fun x => x)
  replace hR5 := hR5.mono st9 (fun x => x)
  replace hR6 := hR6.mono st9 (fun x => x)
  replace tot := tot.trans st9.pure
  refine WP.still 4 (by kernel_rfl) ?_
  refine WP.alloc (T := 22) (t + 4) [encA .u8 (zA 8)] [8] (by kernel_rfl) (by simp [len_encA]) ?_
  intro g10 b4 st10 hB6
  replace hB1 := hB1.mono st10 (fun x => x)
  replace hR3 := hR3.mono st10 (fun x => x)
  replace hR4 := hR4.mono st10 (fun x => x)
  replace hB2 := hB2.mono st10 (fun x => x)
  replace hB4 := hB4.mono st10 (fun x => x)
  replace hR5 := hR5.mono st10 (fun x => x)
  replace hR6 := hR6.mono st10 (fun x => x)
  replace tot := tot.trans st10.pure
  refine WP.storeB (ty := 22) (off := 0) (v := AG [encA .u8 d6]) hB6 [encA .u8 d6] [8] (by kernel_rfl) (by kernel_rfl) (by simp [len_encA]) (by kernel_rfl) [encA .u8 d6] (by kernel_rfl) (.arr .nil) ?_
  intro g11 st11 hB7
  replace hB1 := hB1.mono st11 (WL.no1 (by omega))
  replace hR3 := hR3.mono st11 (WL.no1 (by omega))
  replace hR4 := hR4.mono st11 (WL.no1 (by omega))
  replace hB2 := hB2.mono st11 (WL.no1 (by omega))
  replace hB4 := hB4.mono st11 (WL.no1 (by omega))
  replace hR5 := hR5.mono st11 (WL.no1 (by omega))
  replace hR6 := hR6.mono st11 (WL.no1 (by omega))
  replace tot := tot.trans (st11.up1 (.inr (by omega)))
  clear hB6
  have hB6 := hB7
  clear hB7
  refine WP.still 2 (by kernel_rfl) ?_
  refine WP.done (by kernel_rfl) ?_
  refine NX.then_n ?_
  refine CP.seq ?_
  refine CP.cut (fun tm g => ∃ (q2 : Bool), Fr 98 [(2, .int .i64 x4), (4, .pointer (some ⟨b2, 0, none⟩)), (53, .bool q2)] tm ∧ Step (fun l => NoM l ∨ t ≤ l) g0 g ∧ Box g (t + 2) b2 22 [encA .u8 d2] [8] ∧ (F.baizelaw25_TxPays.c1 d2 x4 q2) = some o1) ?_ ?_
  · refine bool_split (b := (!(d4.1 == d6.1))) (fun h20 => ?_) (fun h20 => ?_)
    · replace hs := of_if_t hs h20
      refine CP.drawL (by kernel_rfl) [0, 1, 2, 3] N.baizelaw25_TxPays_0 [⟨none, [], [], fun l g => Box g (t + 3) b3 23 [encA .u8 d4] [8]⟩, ⟨none, [], [], fun l g => Box g (t + 4) b4 22 [encA .u8 d6] [8]⟩, ⟨some 0, [], [0], fun l g => l.getD 0 undef = AG [encA .u8 d4]⟩, ⟨some 1, [], [1], fun l g => l.getD 0 undef = AG [encA .u8 d6]⟩, ⟨some 2, [], [2], fun l g => l.getD 0 undef = .bool (!(d4.1 == d6.1))⟩, ⟨some 3, [], [3], fun l g => l.getD 0 undef = .bool true⟩] [[], [], [], []] [] [] [4, 5, 6, 7, 8, 9, 10, 11, 12, 13, 14, 15, 16, 17, 18, 19, 20, 21, 22] (by kernel_rfl) (by simp) (by simp) ⟨fun _ _ _ _ st h0 hl hj hB4 => (hB4.mono st (fun h => absurd (hl _ h) (by simp))), fun _ _ _ _ st h0 hl hj hB6 => (hB6.mono st (fun h => absurd (hl _ h) (by simp))), fun _ _ _ _ st h0 hl hj e => e, fun _ _ _ _ st h0 hl hj e => e, fun _ _ _ _ st h0 hl hj e => e, fun _ _ _ _ st h0 hl hj e => e, trivial⟩ ⟨hB4, hB6, trivial, trivial, trivial, trivial, trivial⟩ (by kernel_rfl) (fun vs => by kernel_rfl) ?_ ?_ ?_
      · intro j hj
        have hq : j = 0 ∨ j = 1 ∨ j = 2 ∨ j = 3 ∨ j = 4 ∨ j = 5 ∨ j = 6 ∨ j = 7 ∨ j = 8 ∨ j = 9 ∨ j = 10 ∨ j = 11 ∨ j = 12 ∨ j = 13 ∨ j = 14 ∨ j = 15 ∨ j = 16 ∨ j = 17 ∨ j = 18 := by have h : j < 19 := hj; omega
        rcases hq with rfl | rfl | rfl | rfl | rfl | rfl | rfl | rfl | rfl | rfl | rfl | rfl | rfl | rfl | rfl | rfl | rfl | rfl | rfl
        · intro vs gq stq hl hf
          replace hl : vs.length = 4 := hl
          obtain ⟨v0, vs0, rfl, hl0⟩ := len_succ hl
          obtain ⟨v1, vs1, rfl, hl1⟩ := len_succ hl0
          obtain ⟨v2, vs2, rfl, hl2⟩ := len_succ hl1
          obtain ⟨v3, vs3, rfl, hl3⟩ := len_succ hl2
          obtain rfl := len_zero hl3
          have e := (show v3 = .bool true from hf _ (List.mem_of_getElem? (i := 5) rfl) (by kernel_rfl))
          subst e
          show Option.isSome _ = true
          kernel_rfl
        · intro vs gq stq hl hf
          replace hl : vs.length = 4 := hl
          obtain ⟨v0, vs0, rfl, hl0⟩ := len_succ hl
          obtain ⟨v1, vs1, rfl, hl1⟩ := len_succ hl0
          obtain ⟨v2, vs2, rfl, hl2⟩ := len_succ hl1
          obtain ⟨v3, vs3, rfl, hl3⟩ := len_succ hl2
          obtain rfl := len_zero hl3
          have e := (show v3 = .bool true from hf _ (List.mem_of_getElem? (i := 5) rfl) (by kernel_rfl))
          subst e
          show Option.isSome _ = true
          kernel_rfl
        · intro vs gq stq hl hf
          replace hl : vs.length = 4 := hl
          obtain ⟨v0, vs0, rfl, hl0⟩ := len_succ hl
          obtain ⟨v1, vs1, rfl, hl1⟩ := len_succ hl0
          obtain ⟨v2, vs2, rfl, hl2⟩ := len_succ hl1
          obtain ⟨v3, vs3, rfl, hl3⟩ := len_succ hl2
          obtain rfl := len_zero hl3
          have e := (show v3 = .bool true from hf _ (List.mem_of_getElem? (i := 5) rfl) (by kernel_rfl))
          subst e
          show Option.isSome _ = true
          kernel_rfl
        · intro vs gq stq hl hf
          replace hl : vs.length = 4 := hl
          obtain ⟨v0, vs0, rfl, hl0⟩ := len_succ hl
          obtain ⟨v1, vs1, rfl, hl1⟩ := len_succ hl0
          obtain ⟨v2, vs2, rfl, hl2⟩ := len_succ hl1
          obtain ⟨v3, vs3, rfl, hl3⟩ := len_succ hl2
          obtain rfl := len_zero hl3
          have e := (show v3 = .bool true from hf _ (List.mem_of_getElem? (i := 5) rfl) (by kernel_rfl))
          subst e
          show Option.isSome _ = true
          kernel_rfl
        · intro vs gq stq hl hf
          replace hl : vs.length = 4 := hl
          obtain ⟨v0, vs0, rfl, hl0⟩ := len_succ hl
          obtain ⟨v1, vs1, rfl, hl1⟩ := len_succ hl0
          obtain ⟨v2, vs2, rfl, hl2⟩ := len_succ hl1
          obtain ⟨v3, vs3, rfl, hl3⟩ := len_succ hl2
          obtain rfl := len_zero hl3
          have e := (show v3 = .bool true from hf _ (List.mem_of_getElem? (i := 5) rfl) (by kernel_rfl))
          subst e
          show Option.isSome _ = true
          kernel_rfl
        · intro vs gq stq hl hf
          replace hl : vs.length = 4 := hl
          obtain ⟨v0, vs0, rfl, hl0⟩ := len_succ hl
          obtain ⟨v1, vs1, rfl, hl1⟩ := len_succ hl0
          obtain ⟨v2, vs2, rfl, hl2⟩ := len_succ hl1
          obtain ⟨v3, vs3, rfl, hl3⟩ := len_succ hl2
          obtain rfl := len_zero hl3
          have e := (show v3 = .bool true from hf _ (List.mem_of_getElem? (i := 5) rfl) (by kernel_rfl))
          subst e
          show Option.isSome _ = true
          kernel_rfl
        · intro vs gq stq hl hf
          replace hl : vs.length = 4 := hl
          obtain ⟨v0, vs0, rfl, hl0⟩ := len_succ hl
          obtain ⟨v1, vs1, rfl, hl1⟩ := len_succ hl0
          obtain ⟨v2, vs2, rfl, hl2⟩ := len_succ hl1
          obtain ⟨v3, vs3, rfl, hl3⟩ := len_succ hl2
          obtain rfl := len_zero hl3
          have e := (show v3 = .bool true from hf _ (List.mem_of_getElem? (i := 5) rfl) (by kernel_rfl))
          subst e
          show Option.isSome _ = true
          kernel_rfl
        · intro vs gq stq hl hf
          replace hl : vs.length = 4 := hl
          obtain ⟨v0, vs0, rfl, hl0⟩ := len_succ hl
          obtain ⟨v1, vs1, rfl, hl1⟩ := len_succ hl0
          obtain ⟨v2, vs2, rfl, hl2⟩ := len_succ hl1
          obtain ⟨v3, vs3, rfl, hl3⟩ := len_succ hl2
          obtain rfl := len_zero hl3
          have e := (show v3 = .bool true from hf _ (List.mem_of_getElem? (i := 5) rfl) (by kernel_rfl))
          subst e
          show Option.isSome _ = true
          kernel_rfl
        · intro vs gq stq hl hf
          replace hl : vs.length = 4 := hl
          obtain ⟨v0, vs0, rfl, hl0⟩ := len_succ hl
          obtain ⟨v1, vs1, rfl, hl1⟩ := len_succ hl0
          obtain ⟨v2, vs2, rfl, hl2⟩ := len_succ hl1
          obtain ⟨v3, vs3, rfl, hl3⟩ := len_succ hl2
          obtain rfl := len_zero hl3
          have e := (show v3 = .bool true from hf _ (List.mem_of_getElem? (i := 5) rfl) (by kernel_rfl))
          subst e
          show Option.isSome _ = true
          kernel_rfl
        · intro vs gq stq hl hf
          replace hl : vs.length = 4 := hl
          obtain ⟨v0, vs0, rfl, hl0⟩ := len_succ hl
          obtain ⟨v1, vs1, rfl, hl1⟩ := len_succ hl0
          obtain ⟨v2, vs2, rfl, hl2⟩ := len_succ hl1
          obtain ⟨v3, vs3, rfl, hl3⟩ := len_succ hl2
          obtain rfl := len_zero hl3
          have e := (show v3 = .bool true from hf _ (List.mem_of_getElem? (i := 5) rfl) (by kernel_rfl))
          subst e
          show Option.isSome _ = true
          kernel_rfl
        · intro vs gq stq hl hf
          replace hl : vs.length = 4 := hl
          obtain ⟨v0, vs0, rfl, hl0⟩ := len_succ hl
          obtain ⟨v1, vs1, rfl, hl1⟩ := len_succ hl0
          obtain ⟨v2, vs2, rfl, hl2⟩ := len_succ hl1
          obtain ⟨v3, vs3, rfl, hl3⟩ := len_succ hl2
          obtain rfl := len_zero hl3
          have e := (show v3 = .bool true from hf _ (List.mem_of_getElem? (i := 5) rfl) (by kernel_rfl))
          subst e
          show Option.isSome _ = true
          kernel_rfl
        · intro vs gq stq hl hf
          replace hl : vs.length = 4 := hl
          obtain ⟨v0, vs0, rfl, hl0⟩ := len_succ hl
          obtain ⟨v1, vs1, rfl, hl1⟩ := len_succ hl0
          obtain ⟨v2, vs2, rfl, hl2⟩ := len_succ hl1
          obtain ⟨v3, vs3, rfl, hl3⟩ := len_succ hl2
          obtain rfl := len_zero hl3
          have e := (show v3 = .bool true from hf _ (List.mem_of_getElem? (i := 5) rfl) (by kernel_rfl))
          subst e
          show Option.isSome _ = true
          kernel_rfl
        · intro vs gq stq hl hf
          replace hl : vs.length = 4 := hl
          obtain ⟨v0, vs0, rfl, hl0⟩ := len_succ hl
          obtain ⟨v1, vs1, rfl, hl1⟩ := len_succ hl0
          obtain ⟨v2, vs2, rfl, hl2⟩ := len_succ hl1
          obtain ⟨v3, vs3, rfl, hl3⟩ := len_succ hl2
          obtain rfl := len_zero hl3
          have e := (show v3 = .bool true from hf _ (List.mem_of_getElem? (i := 5) rfl) (by kernel_rfl))
          subst e
          show Option.isSome _ = true
          kernel_rfl
        · intro vs gq stq hl hf
          replace hl : vs.length = 4 := hl
          obtain ⟨v0, vs0, rfl, hl0⟩ := len_succ hl
          obtain ⟨v1, vs1, rfl, hl1⟩ := len_succ hl0
          obtain ⟨v2, vs2, rfl, hl2⟩ := len_succ hl1
          obtain ⟨v3, vs3, rfl, hl3⟩ := len_succ hl2
          obtain rfl := len_zero hl3
          have e := (show v3 = .bool true from hf _ (List.mem_of_getElem? (i := 5) rfl) (by kernel_rfl))
          subst e
          show Option.isSome _ = true
          kernel_rfl
        · intro vs gq stq hl hf
          replace hl : vs.length = 4 := hl
          obtain ⟨v0, vs0, rfl, hl0⟩ := len_succ hl
          obtain ⟨v1, vs1, rfl, hl1⟩ := len_succ hl0
          obtain ⟨v2, vs2, rfl, hl2⟩ := len_succ hl1
          obtain ⟨v3, vs3, rfl, hl3⟩ := len_succ hl2
          obtain rfl := len_zero hl3
          have e := (show v3 = .bool true from hf _ (List.mem_of_getElem? (i := 5) rfl) (by kernel_rfl))
          subst e
          show Option.isSome _ = true
          kernel_rfl
        · intro vs gq stq hl hf
          replace hl : vs.length = 4 := hl
          obtain ⟨v0, vs0, rfl, hl0⟩ := len_succ hl
          obtain ⟨v1, vs1, rfl, hl1⟩ := len_succ hl0
          obtain ⟨v2, vs2, rfl, hl2⟩ := len_succ hl1
          obtain ⟨v3, vs3, rfl, hl3⟩ := len_succ hl2
          obtain rfl := len_zero hl3
          have e := (show v3 = .bool true from hf _ (List.mem_of_getElem? (i := 5) rfl) (by kernel_rfl))
          subst e
          show Option.isSome _ = true
          kernel_rfl
        · intro vs gq stq hl hf
          replace hl : vs.length = 4 := hl
          obtain ⟨v0, vs0, rfl, hl0⟩ := len_succ hl
          obtain ⟨v1, vs1, rfl, hl1⟩ := len_succ hl0
          obtain ⟨v2, vs2, rfl, hl2⟩ := len_succ hl1
          obtain ⟨v3, vs3, rfl, hl3⟩ := len_succ hl2
          obtain rfl := len_zero hl3
          have e := (show v3 = .bool true from hf _ (List.mem_of_getElem? (i := 5) rfl) (by kernel_rfl))
          subst e
          show Option.isSome _ = true
          kernel_rfl
        · intro vs gq stq hl hf
          replace hl : vs.length = 4 := hl
          obtain ⟨v0, vs0, rfl, hl0⟩ := len_succ hl
          obtain ⟨v1, vs1, rfl, hl1⟩ := len_succ hl0
          obtain ⟨v2, vs2, rfl, hl2⟩ := len_succ hl1
          obtain ⟨v3, vs3, rfl, hl3⟩ := len_succ hl2
          obtain rfl := len_zero hl3
          have e := (show v3 = .bool true from hf _ (List.mem_of_getElem? (i := 5) rfl) (by kernel_rfl))
          subst e
          show Option.isSome _ = true
          kernel_rfl
        · intro vs gq stq hl hf
          replace hl : vs.length = 4 := hl
          obtain ⟨v0, vs0, rfl, hl0⟩ := len_succ hl
          obtain ⟨v1, vs1, rfl, hl1⟩ := len_succ hl0
          obtain ⟨v2, vs2, rfl, hl2⟩ := len_succ hl1
          obtain ⟨v3, vs3, rfl, hl3⟩ := len_succ hl2
          obtain rfl := len_zero hl3
          have e := (show v3 = .bool true from hf _ (List.mem_of_getElem? (i := 5) rfl) (by kernel_rfl))
          subst e
          show Option.isSome _ = true
          kernel_rfl
      · intro j hj
        have hq : j = 0 ∨ j = 1 ∨ j = 2 ∨ j = 3 := by have h : j < 4 := hj; omega
        rcases hq with rfl | rfl | rfl | rfl
        · intro vs gq stq hl hf
          replace hl : vs.length = 4 := hl
          obtain ⟨v0, vs0, rfl, hl0⟩ := len_succ hl
          obtain ⟨v1, vs1, rfl, hl1⟩ := len_succ hl0
          obtain ⟨v2, vs2, rfl, hl2⟩ := len_succ hl1
          obtain ⟨v3, vs3, rfl, hl3⟩ := len_succ hl2
          obtain rfl := len_zero hl3
          have hB4 := (show Box gq (t + 3) b3 23 [encA .u8 d4] [8] from hf _ (List.mem_of_getElem? (i := 0) rfl) (by kernel_rfl))
          refine WP.loadB (v := AG [encA .u8 d4]) hB4 (by kernel_rfl) (by kernel_rfl) ?_
          refine WP.done (by kernel_rfl) (Shown.ok (v := AG [encA .u8 d4]) (by kernel_rfl) (Step.refl _ _) ?_)
          exact ⟨trivial, trivial, rfl, trivial, trivial, trivial, trivial⟩
        · intro vs gq stq hl hf
          replace hl : vs.length = 4 := hl
          obtain ⟨v0, vs0, rfl, hl0⟩ := len_succ hl
          obtain ⟨v1, vs1, rfl, hl1⟩ := len_succ hl0
          obtain ⟨v2, vs2, rfl, hl2⟩ := len_succ hl1
          obtain ⟨v3, vs3, rfl, hl3⟩ := len_succ hl2
          obtain rfl := len_zero hl3
          have hB6 := (show Box gq (t + 4) b4 22 [encA .u8 d6] [8] from hf _ (List.mem_of_getElem? (i := 1) rfl) (by kernel_rfl))
          refine WP.loadB (v := AG [encA .u8 d6]) hB6 (by kernel_rfl) (by kernel_rfl) ?_
          refine WP.done (by kernel_rfl) (Shown.ok (v := AG [encA .u8 d6]) (by kernel_rfl) (Step.refl _ _) ?_)
          exact ⟨trivial, trivial, trivial, rfl, trivial, trivial, trivial⟩
        · intro vs gq stq hl hf
          replace hl : vs.length = 4 := hl
          obtain ⟨v0, vs0, rfl, hl0⟩ := len_succ hl
          obtain ⟨v1, vs1, rfl, hl1⟩ := len_succ hl0
          obtain ⟨v2, vs2, rfl, hl2⟩ := len_succ hl1
          obtain ⟨v3, vs3, rfl, hl3⟩ := len_succ hl2
          obtain rfl := len_zero hl3
          have e := (show v0 = AG [encA .u8 d4] from hf _ (List.mem_of_getElem? (i := 2) rfl) (by kernel_rfl))
          subst e
          have e := (show v1 = AG [encA .u8 d6] from hf _ (List.mem_of_getElem? (i := 3) rfl) (by kernel_rfl))
          subst e
          refine WP.neV (by kernel_rfl) (by kernel_rfl) (EqV.arr (d := 9998) (t := 23) (e := 5) (m := 8) (k := .u8) (x := d4) (y := d6) (by kernel_rfl) (by kernel_rfl)) ?_
          refine WP.done (by kernel_rfl) (Shown.ok (v := .bool (!(d4.1 == d6.1))) (by kernel_rfl) (Step.refl _ _) ?_)
          exact ⟨trivial, trivial, trivial, trivial, rfl, trivial, trivial⟩
        · intro vs gq stq hl hf
          replace hl : vs.length = 4 := hl
          obtain ⟨v0, vs0, rfl, hl0⟩ := len_succ hl
          obtain ⟨v1, vs1, rfl, hl1⟩ := len_succ hl0
          obtain ⟨v2, vs2, rfl, hl2⟩ := len_succ hl1
          obtain ⟨v3, vs3, rfl, hl3⟩ := len_succ hl2
          obtain rfl := len_zero hl3
          have e := (show v2 = .bool (!(d4.1 == d6.1)) from hf _ (List.mem_of_getElem? (i := 4) rfl) (by kernel_rfl))
          subst e
          refine WP.still 1 (by kernel_rfl) ?_
          refine WP.done (by kernel_rfl) (Shown.ok (v := .bool (!(d4.1 == d6.1))) (by kernel_rfl) (Step.refl _ _) ?_)
          exact ⟨trivial, trivial, trivial, trivial, trivial, congrArg Value.bool h20, trivial⟩
      intro vs g25 st25 hl hf
      replace hl : vs.length = 4 := hl
      obtain ⟨v0, vs0, rfl, hl0⟩ := len_succ hl
      obtain ⟨v1, vs1, rfl, hl1⟩ := len_succ hl0
      obtain ⟨v2, vs2, rfl, hl2⟩ := len_succ hl1
      obtain ⟨v3, vs3, rfl, hl3⟩ := len_succ hl2
      obtain rfl := len_zero hl3
      have e := (show v3 = .bool true from hf _ (List.mem_of_getElem? (i := 5) rfl) (by kernel_rfl))
      subst e
      replace hB2 := hB2.mono st25.toNo (fun x => x)
      replace tot := tot.trans st25.toNo.pure
      refine NX.post ?_
      exact ⟨true, ⟨by kernel_rfl, by kernel_rfl⟩, tot, hB2, hs⟩
    replace hs := of_if_f hs h20
    refine bool_split (b := (x8 != x13)) (fun h21 => ?_) (fun h21 => ?_)
    · replace hs := of_if_t hs h21
      refine CP.drawL (by kernel_rfl) [0, 1, 2, 3, 8] N.baizelaw25_TxPays_0 [⟨none, [], [], fun l g => Box g (t + 3) b3 23 [encA .u8 d4] [8]⟩, ⟨none, [], [], fun l g => Box g (t + 4) b4 22 [encA .u8 d6] [8]⟩, ⟨some 0, [], [0], fun l g => l.getD 0 undef = AG [encA .u8 d4]⟩, ⟨some 1, [], [1], fun l g => l.getD 0 undef = AG [encA .u8 d6]⟩, ⟨some 2, [], [2], fun l g => l.getD 0 undef = .bool (!(d4.1 == d6.1))⟩, ⟨some 3, [], [3], fun l g => l.getD 0 undef = .bool false⟩, ⟨some 4, [], [4], fun l g => l.getD 0 undef = .bool true⟩] [[], [], [], [], []] [] [] [4, 5, 6, 7, 9, 10, 11, 12, 13, 14, 15, 16, 17, 18, 19, 20, 21, 22] (by kernel_rfl) (by simp) (by simp) ⟨fun _ _ _ _ st h0 hl hj hB4 => (hB4.mono st (fun h => absurd (hl _ h) (by simp))), fun _ _ _ _ st h0 hl hj hB6 => (hB6.mono st (fun h => absurd (hl _ h) (by simp))), fun _ _ _ _ st h0 hl hj e => e, fun _ _ _ _ st h0 hl hj e => e, fun _ _ _ _ st h0 hl hj e => e, fun _ _ _ _ st h0 hl hj e => e, fun _ _ _ _ st h0 hl hj e => e, trivial⟩ ⟨hB4, hB6, trivial, trivial, trivial, trivial, trivial, trivial⟩ (by kernel_rfl) (fun vs => by kernel_rfl) ?_ ?_ ?_
      · intro j hj
        have hq : j = 0 ∨ j = 1 ∨ j = 2 ∨ j = 3 ∨ j = 4 ∨ j = 5 ∨ j = 6 ∨ j = 7 ∨ j = 8 ∨ j = 9 ∨ j = 10 ∨ j = 11 ∨ j = 12 ∨ j = 13 ∨ j = 14 ∨ j = 15 ∨ j = 16 ∨ j = 17 := by have h : j < 18 := hj; omega
        rcases hq with rfl | rfl | rfl | rfl | rfl | rfl | rfl | rfl | rfl | rfl | rfl | rfl | rfl | rfl | rfl | rfl | rfl | rfl
        · intro vs gq stq hl hf
          replace hl : vs.length = 5 := hl
          obtain ⟨v0, vs0, rfl, hl0⟩ := len_succ hl
          obtain ⟨v1, vs1, rfl, hl1⟩ := len_succ hl0
          obtain ⟨v2, vs2, rfl, hl2⟩ := len_succ hl1
          obtain ⟨v3, vs3, rfl, hl3⟩ := len_succ hl2
          obtain ⟨v4, vs4, rfl, hl4⟩ := len_succ hl3
          obtain rfl := len_zero hl4
          have e := (show v3 = .bool false from hf _ (List.mem_of_getElem? (i := 5) rfl) (by kernel_rfl))
          subst e
          show Option.isSome _ = true
          kernel_rfl
        · intro vs gq stq hl hf
          replace hl : vs.length = 5 := hl
          obtain ⟨v0, vs0, rfl, hl0⟩ := len_succ hl
          obtain ⟨v1, vs1, rfl, hl1⟩ := len_succ hl0
          obtain ⟨v2, vs2, rfl, hl2⟩ := len_succ hl1
          obtain ⟨v3, vs3, rfl, hl3⟩ := len_succ hl2
          obtain ⟨v4, vs4, rfl, hl4⟩ := len_succ hl3
          obtain rfl := len_zero hl4
          have e := (show v3 = .bool false from hf _ (List.mem_of_getElem? (i := 5) rfl) (by kernel_rfl))
          subst e
          show Option.isSome _ = true
          kernel_rfl
        · intro vs gq stq hl hf
          replace hl : vs.length = 5 := hl
          obtain ⟨v0, vs0, rfl, hl0⟩ := len_succ hl
          obtain ⟨v1, vs1, rfl, hl1⟩ := len_succ hl0
          obtain ⟨v2, vs2, rfl, hl2⟩ := len_succ hl1
          obtain ⟨v3, vs3, rfl, hl3⟩ := len_succ hl2
          obtain ⟨v4, vs4, rfl, hl4⟩ := len_succ hl3
          obtain rfl := len_zero hl4
          have e := (show v3 = .bool false from hf _ (List.mem_of_getElem? (i := 5) rfl) (by kernel_rfl))
          subst e
          show Option.isSome _ = true
          kernel_rfl
        · intro vs gq stq hl hf
          replace hl : vs.length = 5 := hl
          obtain ⟨v0, vs0, rfl, hl0⟩ := len_succ hl
          obtain ⟨v1, vs1, rfl, hl1⟩ := len_succ hl0
          obtain ⟨v2, vs2, rfl, hl2⟩ := len_succ hl1
          obtain ⟨v3, vs3, rfl, hl3⟩ := len_succ hl2
          obtain ⟨v4, vs4, rfl, hl4⟩ := len_succ hl3
          obtain rfl := len_zero hl4
          have e := (show v3 = .bool false from hf _ (List.mem_of_getElem? (i := 5) rfl) (by kernel_rfl))
          subst e
          show Option.isSome _ = true
          kernel_rfl
        · intro vs gq stq hl hf
          replace hl : vs.length = 5 := hl
          obtain ⟨v0, vs0, rfl, hl0⟩ := len_succ hl
          obtain ⟨v1, vs1, rfl, hl1⟩ := len_succ hl0
          obtain ⟨v2, vs2, rfl, hl2⟩ := len_succ hl1
          obtain ⟨v3, vs3, rfl, hl3⟩ := len_succ hl2
          obtain ⟨v4, vs4, rfl, hl4⟩ := len_succ hl3
          obtain rfl := len_zero hl4
          have e := (show v4 = .bool true from hf _ (List.mem_of_getElem? (i := 6) rfl) (by kernel_rfl))
          subst e
          show Option.isSome _ = true
          kernel_rfl
        · intro vs gq stq hl hf
          replace hl : vs.length = 5 := hl
          obtain ⟨v0, vs0, rfl, hl0⟩ := len_succ hl
          obtain ⟨v1, vs1, rfl, hl1⟩ := len_succ hl0
          obtain ⟨v2, vs2, rfl, hl2⟩ := len_succ hl1
          obtain ⟨v3, vs3, rfl, hl3⟩ := len_succ hl2
          obtain ⟨v4, vs4, rfl, hl4⟩ := len_succ hl3
          obtain rfl := len_zero hl4
          have e := (show v4 = .bool true from hf _ (List.mem_of_getElem? (i := 6) rfl) (by kernel_rfl))
          subst e
          show Option.isSome _ = true
          kernel_rfl
        · intro vs gq stq hl hf
          replace hl : vs.length = 5 := hl
          obtain ⟨v0, vs0, rfl, hl0⟩ := len_succ hl
          obtain ⟨v1, vs1, rfl, hl1⟩ := len_succ hl0
          obtain ⟨v2, vs2, rfl, hl2⟩ := len_succ hl1
          obtain ⟨v3, vs3, rfl, hl3⟩ := len_succ hl2
          obtain ⟨v4, vs4, rfl, hl4⟩ := len_succ hl3
          obtain rfl := len_zero hl4
          have e := (show v4 = .bool true from hf _ (List.mem_of_getElem? (i := 6) rfl) (by kernel_rfl))
          subst e
          show Option.isSome _ = true
          kernel_rfl
        · intro vs gq stq hl hf
          replace hl : vs.length = 5 := hl
          obtain ⟨v0, vs0, rfl, hl0⟩ := len_succ hl
          obtain ⟨v1, vs1, rfl, hl1⟩ := len_succ hl0
          obtain ⟨v2, vs2, rfl, hl2⟩ := len_succ hl1
          obtain ⟨v3, vs3, rfl, hl3⟩ := len_succ hl2
          obtain ⟨v4, vs4, rfl, hl4⟩ := len_succ hl3
          obtain rfl := len_zero hl4
          have e := (show v4 = .bool true from hf _ (List.mem_of_getElem? (i := 6) rfl) (by kernel_rfl))
          subst e
          show Option.isSome _ = true
          kernel_rfl
        · intro vs gq stq hl hf
          replace hl : vs.length = 5 := hl
          obtain ⟨v0, vs0, rfl, hl0⟩ := len_succ hl
          obtain ⟨v1, vs1, rfl, hl1⟩ := len_succ hl0
          obtain ⟨v2, vs2, rfl, hl2⟩ := len_succ hl1
          obtain ⟨v3, vs3, rfl, hl3⟩ := len_succ hl2
          obtain ⟨v4, vs4, rfl, hl4⟩ := len_succ hl3
          obtain rfl := len_zero hl4
          have e := (show v4 = .bool true from hf _ (List.mem_of_getElem? (i := 6) rfl) (by kernel_rfl))
          subst e
          show Option.isSome _ = true
          kernel_rfl
        · intro vs gq stq hl hf
          replace hl : vs.length = 5 := hl
          obtain ⟨v0, vs0, rfl, hl0⟩ := len_succ hl
          obtain ⟨v1, vs1, rfl, hl1⟩ := len_succ hl0
          obtain ⟨v2, vs2, rfl, hl2⟩ := len_succ hl1
          obtain ⟨v3, vs3, rfl, hl3⟩ := len_succ hl2
          obtain ⟨v4, vs4, rfl, hl4⟩ := len_succ hl3
          obtain rfl := len_zero hl4
          have e := (show v4 = .bool true from hf _ (List.mem_of_getElem? (i := 6) rfl) (by kernel_rfl))
          subst e
          show Option.isSome _ = true
          kernel_rfl
        · intro vs gq stq hl hf
          replace hl : vs.length = 5 := hl
          obtain ⟨v0, vs0, rfl, hl0⟩ := len_succ hl
          obtain ⟨v1, vs1, rfl, hl1⟩ := len_succ hl0
          obtain ⟨v2, vs2, rfl, hl2⟩ := len_succ hl1
          obtain ⟨v3, vs3, rfl, hl3⟩ := len_succ hl2
          obtain ⟨v4, vs4, rfl, hl4⟩ := len_succ hl3
          obtain rfl := len_zero hl4
          have e := (show v4 = .bool true from hf _ (List.mem_of_getElem? (i := 6) rfl) (by kernel_rfl))
          subst e
          show Option.isSome _ = true
          kernel_rfl
        · intro vs gq stq hl hf
          replace hl : vs.length = 5 := hl
          obtain ⟨v0, vs0, rfl, hl0⟩ := len_succ hl
          obtain ⟨v1, vs1, rfl, hl1⟩ := len_succ hl0
          obtain ⟨v2, vs2, rfl, hl2⟩ := len_succ hl1
          obtain ⟨v3, vs3, rfl, hl3⟩ := len_succ hl2
          obtain ⟨v4, vs4, rfl, hl4⟩ := len_succ hl3
          obtain rfl := len_zero hl4
          have e := (show v4 = .bool true from hf _ (List.mem_of_getElem? (i := 6) rfl) (by kernel_rfl))
          subst e
          show Option.isSome _ = true
          kernel_rfl
        · intro vs gq stq hl hf
          replace hl : vs.length = 5 := hl
          obtain ⟨v0, vs0, rfl, hl0⟩ := len_succ hl
          obtain ⟨v1, vs1, rfl, hl1⟩ := len_succ hl0
          obtain ⟨v2, vs2, rfl, hl2⟩ := len_succ hl1
          obtain ⟨v3, vs3, rfl, hl3⟩ := len_succ hl2
          obtain ⟨v4, vs4, rfl, hl4⟩ := len_succ hl3
          obtain rfl := len_zero hl4
          have e := (show v4 = .bool true from hf _ (List.mem_of_getElem? (i := 6) rfl) (by kernel_rfl))
          subst e
          show Option.isSome _ = true
          kernel_rfl
        · intro vs gq stq hl hf
          replace hl : vs.length = 5 := hl
          obtain ⟨v0, vs0, rfl, hl0⟩ := len_succ hl
          obtain ⟨v1, vs1, rfl, hl1⟩ := len_succ hl0
          obtain ⟨v2, vs2, rfl, hl2⟩ := len_succ hl1
          obtain ⟨v3, vs3, rfl, hl3⟩ := len_succ hl2
          obtain ⟨v4, vs4, rfl, hl4⟩ := len_succ hl3
          obtain rfl := len_zero hl4
          have e := (show v4 = .bool true from hf _ (List.mem_of_getElem? (i := 6) rfl) (by kernel_rfl))
          subst e
          show Option.isSome _ = true
          kernel_rfl
        · intro vs gq stq hl hf
          replace hl : vs.length = 5 := hl
          obtain ⟨v0, vs0, rfl, hl0⟩ := len_succ hl
          obtain ⟨v1, vs1, rfl, hl1⟩ := len_succ hl0
          obtain ⟨v2, vs2, rfl, hl2⟩ := len_succ hl1
          obtain ⟨v3, vs3, rfl, hl3⟩ := len_succ hl2
          obtain ⟨v4, vs4, rfl, hl4⟩ := len_succ hl3
          obtain rfl := len_zero hl4
          have e := (show v4 = .bool true from hf _ (List.mem_of_getElem? (i := 6) rfl) (by kernel_rfl))
          subst e
          show Option.isSome _ = true
          kernel_rfl
        · intro vs gq stq hl hf
          replace hl : vs.length = 5 := hl
          obtain ⟨v0, vs0, rfl, hl0⟩ := len_succ hl
          obtain ⟨v1, vs1, rfl, hl1⟩ := len_succ hl0
          obtain ⟨v2, vs2, rfl, hl2⟩ := len_succ hl1
          obtain ⟨v3, vs3, rfl, hl3⟩ := len_succ hl2
          obtain ⟨v4, vs4, rfl, hl4⟩ := len_succ hl3
          obtain rfl := len_zero hl4
          have e := (show v4 = .bool true from hf _ (List.mem_of_getElem? (i := 6) rfl) (by kernel_rfl))
          subst e
          show Option.isSome _ = true
          kernel_rfl
        · intro vs gq stq hl hf
          replace hl : vs.length = 5 := hl
          obtain ⟨v0, vs0, rfl, hl0⟩ := len_succ hl
          obtain ⟨v1, vs1, rfl, hl1⟩ := len_succ hl0
          obtain ⟨v2, vs2, rfl, hl2⟩ := len_succ hl1
          obtain ⟨v3, vs3, rfl, hl3⟩ := len_succ hl2
          obtain ⟨v4, vs4, rfl, hl4⟩ := len_succ hl3
          obtain rfl := len_zero hl4
          have e := (show v4 = .bool true from hf _ (List.mem_of_getElem? (i := 6) rfl) (by kernel_rfl))
          subst e
          show Option.isSome _ = true
          kernel_rfl
        · intro vs gq stq hl hf
          replace hl : vs.length = 5 := hl
          obtain ⟨v0, vs0, rfl, hl0⟩ := len_succ hl
          obtain ⟨v1, vs1, rfl, hl1⟩ := len_succ hl0
          obtain ⟨v2, vs2, rfl, hl2⟩ := len_succ hl1
          obtain ⟨v3, vs3, rfl, hl3⟩ := len_succ hl2
          obtain ⟨v4, vs4, rfl, hl4⟩ := len_succ hl3
          obtain rfl := len_zero hl4
          have e := (show v4 = .bool true from hf _ (List.mem_of_getElem? (i := 6) rfl) (by kernel_rfl))
          subst e
          show Option.isSome _ = true
          kernel_rfl
      · intro j hj
        have hq : j = 0 ∨ j = 1 ∨ j = 2 ∨ j = 3 ∨ j = 4 := by have h : j < 5 := hj; omega
        rcases hq with rfl | rfl | rfl | rfl | rfl
        · intro vs gq stq hl hf
          replace hl : vs.length = 5 := hl
          obtain ⟨v0, vs0, rfl, hl0⟩ := len_succ hl
          obtain ⟨v1, vs1, rfl, hl1⟩ := len_succ hl0
          obtain ⟨v2, vs2, rfl, hl2⟩ := len_succ hl1
          obtain ⟨v3, vs3, rfl, hl3⟩ := len_succ hl2
          obtain ⟨v4, vs4, rfl, hl4⟩ := len_succ hl3
          obtain rfl := len_zero hl4
          have hB4 := (show Box gq (t + 3) b3 23 [encA .u8 d4] [8] from hf _ (List.mem_of_getElem? (i := 0) rfl) (by kernel_rfl))
          refine WP.loadB (v := AG [encA .u8 d4]) hB4 (by kernel_rfl) (by kernel_rfl) ?_
          refine WP.done (by kernel_rfl) (Shown.ok (v := AG [encA .u8 d4]) (by kernel_rfl) (Step.refl _ _) ?_)
          exact ⟨trivial, trivial, rfl, trivial, trivial, trivial, trivial, trivial⟩
        · intro vs gq stq hl hf
          replace hl : vs.length = 5 := hl
          obtain ⟨v0, vs0, rfl, hl0⟩ := len_succ hl
          obtain ⟨v1, vs1, rfl, hl1⟩ := len_succ hl0
          obtain ⟨v2, vs2, rfl, hl2⟩ := len_succ hl1
          obtain ⟨v3, vs3, rfl, hl3⟩ := len_succ hl2
          obtain ⟨v4, vs4, rfl, hl4⟩ := len_succ hl3
          obtain rfl := len_zero hl4
          have hB6 := (show Box gq (t + 4) b4 22 [encA .u8 d6] [8] from hf _ (List.mem_of_getElem? (i := 1) rfl) (by kernel_rfl))
          refine WP.loadB (v := AG [encA .u8 d6]) hB6 (by kernel_rfl) (by kernel_rfl) ?_
          refine WP.done (by kernel_rfl) (Shown.ok (v := AG [encA .u8 d6]) (by kernel_rfl) (Step.refl _ _) ?_)
          exact ⟨trivial, trivial, trivial, rfl, trivial, trivial, trivial, trivial⟩
        · intro vs gq stq hl hf
          replace hl : vs.length = 5 := hl
          obtain ⟨v0, vs0, rfl, hl0⟩ := len_succ hl
          obtain ⟨v1, vs1, rfl, hl1⟩ := len_succ hl0
          obtain ⟨v2, vs2, rfl, hl2⟩ := len_succ hl1
          obtain ⟨v3, vs3, rfl, hl3⟩ := len_succ hl2
          obtain ⟨v4, vs4, rfl, hl4⟩ := len_succ hl3
          obtain rfl := len_zero hl4
          have e := (show v0 = AG [encA .u8 d4] from hf _ (List.mem_of_getElem? (i := 2) rfl) (by kernel_rfl))
          subst e
          have e := (show v1 = AG [encA .u8 d6] from hf _ (List.mem_of_getElem? (i := 3) rfl) (by kernel_rfl))
          subst e
          refine WP.neV (by kernel_rfl) (by kernel_rfl) (EqV.arr (d := 9998) (t := 23) (e := 5) (m := 8) (k := .u8) (x := d4) (y := d6) (by kernel_rfl) (by kernel_rfl)) ?_
          refine WP.done (by kernel_rfl) (Shown.ok (v := .bool (!(d4.1 == d6.1))) (by kernel_rfl) (Step.refl _ _) ?_)
          exact ⟨trivial, trivial, trivial, trivial, rfl, trivial, trivial, trivial⟩
        · intro vs gq stq hl hf
          replace hl : vs.length = 5 := hl
          obtain ⟨v0, vs0, rfl, hl0⟩ := len_succ hl
          obtain ⟨v1, vs1, rfl, hl1⟩ := len_succ hl0
          obtain ⟨v2, vs2, rfl, hl2⟩ := len_succ hl1
          obtain ⟨v3, vs3, rfl, hl3⟩ := len_succ hl2
          obtain ⟨v4, vs4, rfl, hl4⟩ := len_succ hl3
          obtain rfl := len_zero hl4
          have e := (show v2 = .bool (!(d4.1 == d6.1)) from hf _ (List.mem_of_getElem? (i := 4) rfl) (by kernel_rfl))
          subst e
          refine WP.still 1 (by kernel_rfl) ?_
          refine WP.done (by kernel_rfl) (Shown.ok (v := .bool (!(d4.1 == d6.1))) (by kernel_rfl) (Step.refl _ _) ?_)
          exact ⟨trivial, trivial, trivial, trivial, trivial, congrArg Value.bool h20, trivial, trivial⟩
        · intro vs gq stq hl hf
          replace hl : vs.length = 5 := hl
          obtain ⟨v0, vs0, rfl, hl0⟩ := len_succ hl
          obtain ⟨v1, vs1, rfl, hl1⟩ := len_succ hl0
          obtain ⟨v2, vs2, rfl, hl2⟩ := len_succ hl1
          obtain ⟨v3, vs3, rfl, hl3⟩ := len_succ hl2
          obtain ⟨v4, vs4, rfl, hl4⟩ := len_succ hl3
          obtain rfl := len_zero hl4
          have e := (show v3 = .bool false from hf _ (List.mem_of_getElem? (i := 5) rfl) (by kernel_rfl))
          subst e
          refine WP.still 1 (by kernel_rfl) ?_
          refine WP.done (by kernel_rfl) (Shown.ok (v := .bool (x8 != x13)) (by kernel_rfl) (Step.refl _ _) ?_)
          exact ⟨trivial, trivial, trivial, trivial, trivial, trivial, congrArg Value.bool h21, trivial⟩
      intro vs g26 st26 hl hf
      replace hl : vs.length = 5 := hl
      obtain ⟨v0, vs0, rfl, hl0⟩ := len_succ hl
      obtain ⟨v1, vs1, rfl, hl1⟩ := len_succ hl0
      obtain ⟨v2, vs2, rfl, hl2⟩ := len_succ hl1
      obtain ⟨v3, vs3, rfl, hl3⟩ := len_succ hl2
      obtain ⟨v4, vs4, rfl, hl4⟩ := len_succ hl3
      obtain rfl := len_zero hl4
      have e := (show v4 = .bool true from hf _ (List.mem_of_getElem? (i := 6) rfl) (by kernel_rfl))
      subst e
      replace hB2 := hB2.mono st26.toNo (fun x => x)
      replace tot := tot.trans st26.toNo.pure
      refine NX.post ?_
      exact ⟨true, ⟨by kernel_rfl, by kernel_rfl⟩, tot, hB2, hs⟩
    replace hs := of_if_f hs h21
    refine bool_split (b := (x9 != x14)) (fun h22 => ?_) (fun h22 => ?_)
    · replace hs := of_if_t hs h22
      refine CP.drawL (by kernel_rfl) [0, 1, 2, 3, 8, 13] N.baizelaw25_TxPays_0 [⟨none, [], [], fun l g => Box g (t + 3) b3 23 [encA .u8 d4] [8]⟩, ⟨none, [], [], fun l g => Box g (t + 4) b4 22 [encA .u8 d6] [8]⟩, ⟨some 0, [], [0], fun l g => l.getD 0 undef = AG [encA .u8 d4]⟩, ⟨some 1, [], [1], fun l g => l.getD 0 undef = AG [encA .u8 d6]⟩, ⟨some 2, [], [2], fun l g => l.getD 0 undef = .bool (!(d4.1 == d6.1))⟩, ⟨some 3, [], [3], fun l g => l.getD 0 undef = .bool false⟩, ⟨some 4, [], [4], fun l g => l.getD 0 undef = .bool false⟩, ⟨some 5, [], [5], fun l g => l.getD 0 undef = .bool true⟩] [[], [], [], [], [], []] [] [] [4, 5, 6, 7, 9, 10, 11, 12, 14, 15, 16, 17, 18, 19, 20, 21, 22] (by kernel_rfl) (by simp) (by simp) ⟨fun _ _ _ _ st h0 hl hj hB4 => (hB4.mono st (fun h => absurd (hl _ h) (by simp))), fun _ _ _ _ st h0 hl hj hB6 => (hB6.mono st (fun h => absurd (hl _ h) (by simp))), fun _ _ _ _ st h0 hl hj e => e, fun _ _ _ _ st h0 hl hj e => e, fun _ _ _ _ st h0 hl hj e => e, fun _ _ _ _ st h0 hl hj e => e, fun _ _ _ _ st h0 hl hj e => e, fun _ _ _ _ st h0 hl hj e => e, trivial⟩ ⟨hB4, hB6, trivial, trivial, trivial, trivial, trivial, trivial, trivial⟩ (by kernel_rfl) (fun vs => by kernel_rfl) ?_ ?_ ?_
      · intro j hj
        have hq : j = 0 ∨ j = 1 ∨ j = 2 ∨ j = 3 ∨ j = 4 ∨ j = 5 ∨ j = 6 ∨ j = 7 ∨ j = 8 ∨ j = 9 ∨ j = 10 ∨ j = 11 ∨ j = 12 ∨ j = 13 ∨ j = 14 ∨ j = 15 ∨ j = 16 := by have h : j < 17 := hj; omega
        rcases hq with rfl | rfl | rfl | rfl | rfl | rfl | rfl | rfl | rfl | rfl | rfl | rfl | rfl | rfl | rfl | rfl | rfl
        · intro vs gq stq hl hf
          replace hl : vs.length = 6 := hl
          obtain ⟨v0, vs0, rfl, hl0⟩ := len_succ hl
          obtain ⟨v1, vs1, rfl, hl1⟩ := len_succ hl0
          obtain ⟨v2, vs2, rfl, hl2⟩ := len_succ hl1
          obtain ⟨v3, vs3, rfl, hl3⟩ := len_succ hl2
          obtain ⟨v4, vs4, rfl, hl4⟩ := len_succ hl3
          obtain ⟨v5, vs5, rfl, hl5⟩ := len_succ hl4
          obtain rfl := len_zero hl5
          have e := (show v3 = .bool false from hf _ (List.mem_of_getElem? (i := 5) rfl) (by kernel_rfl))
          subst e
          show Option.isSome _ = true
          kernel_rfl
        · intro vs gq stq hl hf
          replace hl : vs.length = 6 := hl
          obtain ⟨v0, vs0, rfl, hl0⟩ := len_succ hl
          obtain ⟨v1, vs1, rfl, hl1⟩ := len_succ hl0
          obtain ⟨v2, vs2, rfl, hl2⟩ := len_succ hl1
          obtain ⟨v3, vs3, rfl, hl3⟩ := len_succ hl2
          obtain ⟨v4, vs4, rfl, hl4⟩ := len_succ hl3
          obtain ⟨v5, vs5, rfl, hl5⟩ := len_succ hl4
          obtain rfl := len_zero hl5
          have e := (show v3 = .bool false from hf _ (List.mem_of_getElem? (i := 5) rfl) (by kernel_rfl))
          subst e
          show Option.isSome _ = true
          kernel_rfl
        · intro vs gq stq hl hf
          replace hl : vs.length = 6 := hl
          obtain ⟨v0, vs0, rfl, hl0⟩ := len_succ hl
          obtain ⟨v1, vs1, rfl, hl1⟩ := len_succ hl0
          obtain ⟨v2, vs2, rfl, hl2⟩ := len_succ hl1
          obtain ⟨v3, vs3, rfl, hl3⟩ := len_succ hl2
          obtain ⟨v4, vs4, rfl, hl4⟩ := len_succ hl3
          obtain ⟨v5, vs5, rfl, hl5⟩ := len_succ hl4
          obtain rfl := len_zero hl5
          have e := (show v3 = .bool false from hf _ (List.mem_of_getElem? (i := 5) rfl) (by kernel_rfl))
          subst e
          show Option.isSome _ = true
          kernel_rfl
        · intro vs gq stq hl hf
          replace hl : vs.length = 6 := hl
          obtain ⟨v0, vs0, rfl, hl0⟩ := len_succ hl
          obtain ⟨v1, vs1, rfl, hl1⟩ := len_succ hl0
          obtain ⟨v2, vs2, rfl, hl2⟩ := len_succ hl1
          obtain ⟨v3, vs3, rfl, hl3⟩ := len_succ hl2
          obtain ⟨v4, vs4, rfl, hl4⟩ := len_succ hl3
          obtain ⟨v5, vs5, rfl, hl5⟩ := len_succ hl4
          obtain rfl := len_zero hl5
          have e := (show v3 = .bool false from hf _ (List.mem_of_getElem? (i := 5) rfl) (by kernel_rfl))
          subst e
          show Option.isSome _ = true
          kernel_rfl
        · intro vs gq stq hl hf
          replace hl : vs.length = 6 := hl
          obtain ⟨v0, vs0, rfl, hl0⟩ := len_succ hl
          obtain ⟨v1, vs1, rfl, hl1⟩ := len_succ hl0
          obtain ⟨v2, vs2, rfl, hl2⟩ := len_succ hl1
          obtain ⟨v3, vs3, rfl, hl3⟩ := len_succ hl2
          obtain ⟨v4, vs4, rfl, hl4⟩ := len_succ hl3
          obtain ⟨v5, vs5, rfl, hl5⟩ := len_succ hl4
          obtain rfl := len_zero hl5
          have e := (show v4 = .bool false from hf _ (List.mem_of_getElem? (i := 6) rfl) (by kernel_rfl))
          subst e
          show Option.isSome _ = true
          kernel_rfl
        · intro vs gq stq hl hf
          replace hl : vs.length = 6 := hl
          obtain ⟨v0, vs0, rfl, hl0⟩ := len_succ hl
          obtain ⟨v1, vs1, rfl, hl1⟩ := len_succ hl0
          obtain ⟨v2, vs2, rfl, hl2⟩ := len_succ hl1
          obtain ⟨v3, vs3, rfl, hl3⟩ := len_succ hl2
          obtain ⟨v4, vs4, rfl, hl4⟩ := len_succ hl3
          obtain ⟨v5, vs5, rfl, hl5⟩ := len_succ hl4
          obtain rfl := len_zero hl5
          have e := (show v4 = .bool false from hf _ (List.mem_of_getElem? (i := 6) rfl) (by kernel_rfl))
          subst e
          show Option.isSome _ = true
          kernel_rfl
        · intro vs gq stq hl hf
          replace hl : vs.length = 6 := hl
          obtain ⟨v0, vs0, rfl, hl0⟩ := len_succ hl
          obtain ⟨v1, vs1, rfl, hl1⟩ := len_succ hl0
          obtain ⟨v2, vs2, rfl, hl2⟩ := len_succ hl1
          obtain ⟨v3, vs3, rfl, hl3⟩ := len_succ hl2
          obtain ⟨v4, vs4, rfl, hl4⟩ := len_succ hl3
          obtain ⟨v5, vs5, rfl, hl5⟩ := len_succ hl4
          obtain rfl := len_zero hl5
          have e := (show v4 = .bool false from hf _ (List.mem_of_getElem? (i := 6) rfl) (by kernel_rfl))
          subst e
          show Option.isSome _ = true
          kernel_rfl
        · intro vs gq stq hl hf
          replace hl : vs.length = 6 := hl
          obtain ⟨v0, vs0, rfl, hl0⟩ := len_succ hl
          obtain ⟨v1, vs1, rfl, hl1⟩ := len_succ hl0
          obtain ⟨v2, vs2, rfl, hl2⟩ := len_succ hl1
          obtain ⟨v3, vs3, rfl, hl3⟩ := len_succ hl2
          obtain ⟨v4, vs4, rfl, hl4⟩ := len_succ hl3
          obtain ⟨v5, vs5, rfl, hl5⟩ := len_succ hl4
          obtain rfl := len_zero hl5
          have e := (show v4 = .bool false from hf _ (List.mem_of_getElem? (i := 6) rfl) (by kernel_rfl))
          subst e
          show Option.isSome _ = true
          kernel_rfl
        · intro vs gq stq hl hf
          replace hl : vs.length = 6 := hl
          obtain ⟨v0, vs0, rfl, hl0⟩ := len_succ hl
          obtain ⟨v1, vs1, rfl, hl1⟩ := len_succ hl0
          obtain ⟨v2, vs2, rfl, hl2⟩ := len_succ hl1
          obtain ⟨v3, vs3, rfl, hl3⟩ := len_succ hl2
          obtain ⟨v4, vs4, rfl, hl4⟩ := len_succ hl3
          obtain ⟨v5, vs5, rfl, hl5⟩ := len_succ hl4
          obtain rfl := len_zero hl5
          have e := (show v5 = .bool true from hf _ (List.mem_of_getElem? (i := 7) rfl) (by kernel_rfl))
          subst e
          show Option.isSome _ = true
          kernel_rfl
        · intro vs gq stq hl hf
          replace hl : vs.length = 6 := hl
          obtain ⟨v0, vs0, rfl, hl0⟩ := len_succ hl
          obtain ⟨v1, vs1, rfl, hl1⟩ := len_succ hl0
          obtain ⟨v2, vs2, rfl, hl2⟩ := len_succ hl1
          obtain ⟨v3, vs3, rfl, hl3⟩ := len_succ hl2
          obtain ⟨v4, vs4, rfl, hl4⟩ := len_succ hl3
          obtain ⟨v5, vs5, rfl, hl5⟩ := len_succ hl4
          obtain rfl := len_zero hl5
          have e := (show v5 = .bool true from hf _ (List.mem_of_getElem? (i := 7) rfl) (by kernel_rfl))
          subst e
          show Option.isSome _ = true
          kernel_rfl
        · intro vs gq stq hl hf
          replace hl : vs.length = 6 := hl
          obtain ⟨v0, vs0, rfl, hl0⟩ := len_succ hl
          obtain ⟨v1, vs1, rfl, hl1⟩ := len_succ hl0
          obtain ⟨v2, vs2, rfl, hl2⟩ := len_succ hl1
          obtain ⟨v3, vs3, rfl, hl3⟩ := len_succ hl2
          obtain ⟨v4, vs4, rfl, hl4⟩ := len_succ hl3
          obtain ⟨v5, vs5, rfl, hl5⟩ := len_succ hl4
          obtain rfl := len_zero hl5
          have e := (show v5 = .bool true from hf _ (List.mem_of_getElem? (i := 7) rfl) (by kernel_rfl))
          subst e
          show Option.isSome _ = true
          kernel_rfl
        · intro vs gq stq hl hf
          replace hl : vs.length = 6 := hl
          obtain ⟨v0, vs0, rfl, hl0⟩ := len_succ hl
          obtain ⟨v1, vs1, rfl, hl1⟩ := len_succ hl0
          obtain ⟨v2, vs2, rfl, hl2⟩ := len_succ hl1
          obtain ⟨v3, vs3, rfl, hl3⟩ := len_succ hl2
          obtain ⟨v4, vs4, rfl, hl4⟩ := len_succ hl3
          obtain ⟨v5, vs5, rfl, hl5⟩ := len_succ hl4
          obtain rfl := len_zero hl5
          have e := (show v5 = .bool true from hf _ (List.mem_of_getElem? (i := 7) rfl) (by kernel_rfl))
          subst e
          show Option.isSome _ = true
          kernel_rfl
        · intro vs gq stq hl hf
          replace hl : vs.length = 6 := hl
          obtain ⟨v0, vs0, rfl, hl0⟩ := len_succ hl
          obtain ⟨v1, vs1, rfl, hl1⟩ := len_succ hl0
          obtain ⟨v2, vs2, rfl, hl2⟩ := len_succ hl1
          obtain ⟨v3, vs3, rfl, hl3⟩ := len_succ hl2
          obtain ⟨v4, vs4, rfl, hl4⟩ := len_succ hl3
          obtain ⟨v5, vs5, rfl, hl5⟩ := len_succ hl4
          obtain rfl := len_zero hl5
          have e := (show v5 = .bool true from hf _ (List.mem_of_getElem? (i := 7) rfl) (by kernel_rfl))
          subst e
          show Option.isSome _ = true
          kernel_rfl
        · intro vs gq stq hl hf
          replace hl : vs.length = 6 := hl
          obtain ⟨v0, vs0, rfl, hl0⟩ := len_succ hl
          obtain ⟨v1, vs1, rfl, hl1⟩ := len_succ hl0
          obtain ⟨v2, vs2, rfl, hl2⟩ := len_succ hl1
          obtain ⟨v3, vs3, rfl, hl3⟩ := len_succ hl2
          obtain ⟨v4, vs4, rfl, hl4⟩ := len_succ hl3
          obtain ⟨v5, vs5, rfl, hl5⟩ := len_succ hl4
          obtain rfl := len_zero hl5
          have e := (show v5 = .bool true from hf _ (List.mem_of_getElem? (i := 7) rfl) (by kernel_rfl))
          subst e
          show Option.isSome _ = true
          kernel_rfl
        · intro vs gq stq hl hf
          replace hl : vs.length = 6 := hl
          obtain ⟨v0, vs0, rfl, hl0⟩ := len_succ hl
          obtain ⟨v1, vs1, rfl, hl1⟩ := len_succ hl0
          obtain ⟨v2, vs2, rfl, hl2⟩ := len_succ hl1
          obtain ⟨v3, vs3, rfl, hl3⟩ := len_succ hl2
          obtain ⟨v4, vs4, rfl, hl4⟩ := len_succ hl3
          obtain ⟨v5, vs5, rfl, hl5⟩ := len_succ hl4
          obtain rfl := len_zero hl5
          have e := (show v5 = .bool true from hf _ (List.mem_of_getElem? (i := 7) rfl) (by kernel_rfl))
          subst e
          show Option.isSome _ = true
          kernel_rfl
        · intro vs gq stq hl hf
          replace hl : vs.length = 6 := hl
          obtain ⟨v0, vs0, rfl, hl0⟩ := len_succ hl
          obtain ⟨v1, vs1, rfl, hl1⟩ := len_succ hl0
          obtain ⟨v2, vs2, rfl, hl2⟩ := len_succ hl1
          obtain ⟨v3, vs3, rfl, hl3⟩ := len_succ hl2
          obtain ⟨v4, vs4, rfl, hl4⟩ := len_succ hl3
          obtain ⟨v5, vs5, rfl, hl5⟩ := len_succ hl4
          obtain rfl := len_zero hl5
          have e := (show v5 = .bool true from hf _ (List.mem_of_getElem? (i := 7) rfl) (by kernel_rfl))
          subst e
          show Option.isSome _ = true
          kernel_rfl
        · intro vs gq stq hl hf
          replace hl : vs.length = 6 := hl
          obtain ⟨v0, vs0, rfl, hl0⟩ := len_succ hl
          obtain ⟨v1, vs1, rfl, hl1⟩ := len_succ hl0
          obtain ⟨v2, vs2, rfl, hl2⟩ := len_succ hl1
          obtain ⟨v3, vs3, rfl, hl3⟩ := len_succ hl2
          obtain ⟨v4, vs4, rfl, hl4⟩ := len_succ hl3
          obtain ⟨v5, vs5, rfl, hl5⟩ := len_succ hl4
          obtain rfl := len_zero hl5
          have e := (show v5 = .bool true from hf _ (List.mem_of_getElem? (i := 7) rfl) (by kernel_rfl))
          subst e
          show Option.isSome _ = true
          kernel_rfl
      · intro j hj
        have hq : j = 0 ∨ j = 1 ∨ j = 2 ∨ j = 3 ∨ j = 4 ∨ j = 5 := by have h : j < 6 := hj; omega
        rcases hq with rfl | rfl | rfl | rfl | rfl | rfl
        · intro vs gq stq hl hf
          replace hl : vs.length = 6 := hl
          obtain ⟨v0, vs0, rfl, hl0⟩ := len_succ hl
          obtain ⟨v1, vs1, rfl, hl1⟩ := len_succ hl0
          obtain ⟨v2, vs2, rfl, hl2⟩ := len_succ hl1
          obtain ⟨v3, vs3, rfl, hl3⟩ := len_succ hl2
          obtain ⟨v4, vs4, rfl, hl4⟩ := len_succ hl3
          obtain ⟨v5, vs5, rfl, hl5⟩ := len_succ hl4
          obtain rfl := len_zero hl5
          have hB4 := (show Box gq (t + 3) b3 23 [encA .u8 d4] [8] from hf _ (List.mem_of_getElem? (i := 0) rfl) (by kernel_rfl))
          refine WP.loadB (v := AG [encA .u8 d4]) hB4 (by kernel_rfl) (by kernel_rfl) ?_
          refine WP.done (by kernel_rfl) (Shown.ok (v := AG [encA .u8 d4]) (by kernel_rfl) (Step.refl _ _) ?_)
          exact ⟨trivial, trivial, rfl, trivial, trivial, trivial, trivial, trivial, trivial⟩
        · intro vs gq stq hl hf
          replace hl : vs.length = 6 := hl
          obtain ⟨v0, vs0, rfl, hl0⟩ := len_succ hl
          obtain ⟨v1, vs1, rfl, hl1⟩ := len_succ hl0
          obtain ⟨v2, vs2, rfl, hl2⟩ := len_succ hl1
          obtain ⟨v3, vs3, rfl, hl3⟩ := len_succ hl2
          obtain ⟨v4, vs4, rfl, hl4⟩ := len_succ hl3
          obtain ⟨v5, vs5, rfl, hl5⟩ := len_succ hl4
          obtain rfl := len_zero hl5
          have hB6 := (show Box gq (t + 4) b4 22 [encA .u8 d6] [8] from hf _ (List.mem_of_getElem? (i := 1) rfl) (by kernel_rfl))
          refine WP.loadB (v := AG [encA .u8 d6]) hB6 (by kernel_rfl) (by kernel_rfl) ?_
          refine WP.done (by kernel_rfl) (Shown.ok (v := AG [encA .u8 d6]) (by kernel_rfl) (Step.refl _ _) ?_)
          exact ⟨trivial, trivial, trivial, rfl, trivial, trivial, trivial, trivial, trivial⟩
        · intro vs gq stq hl hf
          replace hl : vs.length = 6 := hl
          obtain ⟨v0, vs0, rfl, hl0⟩ := len_succ hl
          obtain ⟨v1, vs1, rfl, hl1⟩ := len_succ hl0
          obtain ⟨v2, vs2, rfl, hl2⟩ := len_succ hl1
          obtain ⟨v3, vs3, rfl, hl3⟩ := len_succ hl2
          obtain ⟨v4, vs4, rfl, hl4⟩ := len_succ hl3
          obtain ⟨v5, vs5, rfl, hl5⟩ := len_succ hl4
          obtain rfl := len_zero hl5
          have e := (show v0 = AG [encA .u8 d4] from hf _ (List.mem_of_getElem? (i := 2) rfl) (by kernel_rfl))
          subst e
          have e := (show v1 = AG [encA .u8 d6] from hf _ (List.mem_of_getElem? (i := 3) rfl) (by kernel_rfl))
          subst e
          refine WP.neV (by kernel_rfl) (by kernel_rfl) (EqV.arr (d := 9998) (t := 23) (e := 5) (m := 8) (k := .u8) (x := d4) (y := d6) (by kernel_rfl) (by kernel_rfl)) ?_
          refine WP.done (by kernel_rfl) (Shown.ok (v := .bool (!(d4.1 == d6.1))) (by kernel_rfl) (Step.refl _ _) ?_)
          exact ⟨trivial, trivial, trivial, trivial, rfl, trivial, trivial, trivial, trivial⟩
        · intro vs gq stq hl hf
          replace hl : vs.length = 6 := hl
          obtain ⟨v0, vs0, rfl, hl0⟩ := len_succ hl
          obtain ⟨v1, vs1, rfl, hl1⟩ := len_succ hl0
          obtain ⟨v2, vs2, rfl, hl2⟩ := len_succ hl1
          obtain ⟨v3, vs3, rfl, hl3⟩ := len_succ hl2
          obtain ⟨v4, vs4, rfl, hl4⟩ := len_succ hl3
          obtain ⟨v5, vs5, rfl, hl5⟩ := len_succ hl4
          obtain rfl := len_zero hl5
          have e := (show v2 = .bool (!(d4.1 == d6.1)) from hf _ (List.mem_of_getElem? (i := 4) rfl) (by kernel_rfl))
          subst e
          refine WP.still 1 (by kernel_rfl) ?_
          refine WP.done (by kernel_rfl) (Shown.ok (v := .bool (!(d4.1 == d6.1))) (by kernel_rfl) (Step.refl _ _) ?_)
          exact ⟨trivial, trivial, trivial, trivial, trivial, congrArg Value.bool h20, trivial, trivial, trivial⟩
        · intro vs gq stq hl hf
          replace hl : vs.length = 6 := hl
          obtain ⟨v0, vs0, rfl, hl0⟩ := len_succ hl
          obtain ⟨v1, vs1, rfl, hl1⟩ := len_succ hl0
          obtain ⟨v2, vs2, rfl, hl2⟩ := len_succ hl1
          obtain ⟨v3, vs3, rfl, hl3⟩ := len_succ hl2
          obtain ⟨v4, vs4, rfl, hl4⟩ := len_succ hl3
          obtain ⟨v5, vs5, rfl, hl5⟩ := len_succ hl4
          obtain rfl := len_zero hl5
          have e := (show v3 = .bool false from hf _ (List.mem_of_getElem? (i := 5) rfl) (by kernel_rfl))
          subst e
          refine WP.still 1 (by kernel_rfl) ?_
          refine WP.done (by kernel_rfl) (Shown.ok (v := .bool (x8 != x13)) (by kernel_rfl) (Step.refl _ _) ?_)
          exact ⟨trivial, trivial, trivial, trivial, trivial, trivial, congrArg Value.bool h21, trivial, trivial⟩
        · intro vs gq stq hl hf
          replace hl : vs.length = 6 := hl
          obtain ⟨v0, vs0, rfl, hl0⟩ := len_succ hl
          obtain ⟨v1, vs1, rfl, hl1⟩ := len_succ hl0
          obtain ⟨v2, vs2, rfl, hl2⟩ := len_succ hl1
          obtain ⟨v3, vs3, rfl, hl3⟩ := len_succ hl2
          obtain ⟨v4, vs4, rfl, hl4⟩ := len_succ hl3
          obtain ⟨v5, vs5, rfl, hl5⟩ := len_succ hl4
          obtain rfl := len_zero hl5
          have e := (show v4 = .bool false from hf _ (List.mem_of_getElem? (i := 6) rfl) (by kernel_rfl))
          subst e
          refine WP.still 1 (by kernel_rfl) ?_
          refine WP.done (by kernel_rfl) (Shown.ok (v := .bool (x9 != x14)) (by kernel_rfl) (Step.refl _ _) ?_)
          exact ⟨trivial, trivial, trivial, trivial, trivial, trivial, trivial, congrArg Value.bool h22, trivial⟩
      intro vs g27 st27 hl hf
      replace hl : vs.length = 6 := hl
      obtain ⟨v0, vs0, rfl, hl0⟩ := len_succ hl
      obtain ⟨v1, vs1, rfl, hl1⟩ := len_succ hl0
      obtain ⟨v2, vs2, rfl, hl2⟩ := len_succ hl1
      obtain ⟨v3, vs3, rfl, hl3⟩ := len_succ hl2
      obtain ⟨v4, vs4, rfl, hl4⟩ := len_succ hl3
      obtain ⟨v5, vs5, rfl, hl5⟩ := len_succ hl4
      obtain rfl := len_zero hl5
      have e := (show v5 = .bool true from hf _ (List.mem_of_getElem? (i := 7) rfl) (by kernel_rfl))
      subst e
      replace hB2 := hB2.mono st27.toNo (fun x => x)
      replace tot := tot.trans st27.toNo.pure
      refine NX.post ?_
      exact ⟨true, ⟨by kernel_rfl, by kernel_rfl⟩, tot, hB2, hs⟩
    replace hs := of_if_f hs h22
    replace hs := Option.bind_eq_some_iff.1 hs
    obtain ⟨l10, hk14, hs⟩ := hs
    replace hs := Option.bind_eq_some_iff.1 hs
    obtain ⟨l11, hk15, hs⟩ := hs
    replace hs := Option.bind_eq_some_iff.1 hs
    obtain ⟨q10, hk16, hs⟩ := hs
    refine CP.drawL (by kernel_rfl) [0, 1, 2, 3, 8, 13, 14, 16, 17, 19, 20] N.baizelaw25_TxPays_0 [⟨none, [], [], fun l g => Box g (t + 2) b2 22 [encA .u8 d2] [8]⟩, ⟨none, [], [], fun l g => Box g (t + 3) b3 23 [encA .u8 d4] [8]⟩, ⟨none, [], [], fun l g => Box g (t + 4) b4 22 [encA .u8 d6] [8]⟩, ⟨some 0, [], [0], fun l g => l.getD 0 undef = AG [encA .u8 d4]⟩, ⟨some 1, [], [1], fun l g => l.getD 0 undef = AG [encA .u8 d6]⟩, ⟨some 2, [], [2], fun l g => l.getD 0 undef = .bool (!(d4.1 == d6.1))⟩, ⟨some 3, [], [3], fun l g => l.getD 0 undef = .bool false⟩, ⟨some 4, [], [4], fun l g => l.getD 0 undef = .bool false⟩, ⟨some 5, [], [5], fun l g => l.getD 0 undef = .bool false⟩, ⟨some 6, [], [6], fun l g => l.getD 0 undef = AG [encA .u8 d2]⟩, ⟨some 7, [0], [7], fun l g => ∃ (a10 : Option Addr) (c10 : Nat), l.getD 0 undef = .slice a10 l10.length c10 ∧ OwnS (Kd.int .u8) g (t + 9) 5 a10 l10.length c10 l10⟩, ⟨some 8, [], [8], fun l g => l.getD 0 undef = AG [encA .u8 d2]⟩, ⟨some 9, [1], [9], fun l g => ∃ (a11 : Option Addr) (c11 : Nat), l.getD 0 undef = .slice a11 l11.length c11 ∧ OwnS (Kd.int .u8) g (t + 10) 5 a11 l11.length c11 l11⟩, ⟨some 10, [], [10], fun l g => l.getD 0 undef = .bool q10⟩, ⟨some 10, [0], [7], fun l g => ∃ (a10 : Option Addr) (c10 : Nat), l.getD 0 undef = .slice a10 l10.length c10 ∧ OwnS (Kd.int .u8) g (t + 9) 5 a10 l10.length c10 l10⟩, ⟨some 10, [1], [9], fun l g => ∃ (a11 : Option Addr) (c11 : Nat), l.getD 0 undef = .slice a11 l11.length c11 ∧ OwnS (Kd.int .u8) g (t + 10) 5 a11 l11.length c11 l11⟩] [[], [], [], [], [], [], [], [], [], [], [0, 1]] [(t + 9), (t + 10)] [] [4, 5, 6, 7, 9, 10, 11, 12, 15, 18, 21, 22] (by kernel_rfl) (by simp <;> omega) (by simp <;> omega) ⟨fun _ _ _ _ st h0 hl hj hB2 => (hB2.mono st (fun h => absurd (hl _ h) (by simp <;> omega))), fun _ _ _ _ st h0 hl hj hB4 => (hB4.mono st (fun h => absurd (hl _ h) (by simp <;> omega))), fun _ _ _ _ st h0 hl hj hB6 => (hB6.mono st (fun h => absurd (hl _ h) (by simp <;> omega))), fun _ _ _ _ st h0 hl hj e => e, fun _ _ _ _ st h0 hl hj e => e, fun _ _ _ _ st h0 hl hj e => e, fun _ _ _ _ st h0 hl hj e => e, fun _ _ _ _ st h0 hl hj e => e, fun _ _ _ _ st h0 hl hj e => e, fun _ _ _ _ st h0 hl hj e => e, fun _ _ _ _ st h0 hl hj ⟨a10, c10, e, hR10⟩ => ⟨a10, c10, e, (hR10.mono st h0 (hj 0 (by simp) _ rfl))⟩, fun _ _ _ _ st h0 hl hj e => e, fun _ _ _ _ st h0 hl hj ⟨a11, c11, e, hR11⟩ => ⟨a11, c11, e, (hR11.mono st h0 (hj 1 (by simp) _ rfl))⟩, fun _ _ _ _ st h0 hl hj e => e, fun _ _ _ _ st h0 hl hj ⟨a10, c10, e, hR10⟩ => ⟨a10, c10, e, (hR10.mono st h0 (hj 0 (by simp) _ rfl))⟩, fun _ _ _ _ st h0 hl hj ⟨a11, c11, e, hR11⟩ => ⟨a11, c11, e, (hR11.mono st h0 (hj 1 (by simp) _ rfl))⟩, trivial⟩ ⟨hB2, hB4, hB6, trivial, trivial, trivial, trivial, trivial, trivial, trivial, trivial, trivial, trivial, trivial, trivial, trivial, trivial⟩ (by kernel_rfl) (fun vs => by kernel_rfl) ?_ ?_ ?_
    · intro j hj
      have hq : j = 0 ∨ j = 1 ∨ j = 2 ∨ j = 3 ∨ j = 4 ∨ j = 5 ∨ j = 6 ∨ j = 7 ∨ j = 8 ∨ j = 9 ∨ j = 10 ∨ j = 11 := by have h : j < 12 := hj; omega
      rcases hq with rfl | rfl | rfl | rfl | rfl | rfl | rfl | rfl | rfl | rfl | rfl | rfl
      · intro vs gq stq hl hf
        replace hl : vs.length = 11 := hl
        obtain ⟨v0, vs0, rfl, hl0⟩ := len_succ hl
        obtain ⟨v1, vs1, rfl, hl1⟩ := len_succ hl0
        obtain ⟨v2, vs2, rfl, hl2⟩ := len_succ hl1
        obtain ⟨v3, vs3, rfl, hl3⟩ := len_succ hl2
        obtain ⟨v4, vs4, rfl, hl4⟩ := len_succ hl3
        obtain ⟨v5, vs5, rfl, hl5⟩ := len_succ hl4
        obtain ⟨v6, vs6, rfl, hl6⟩ := len_succ hl5
        obtain ⟨v7, vs7, rfl, hl7⟩ := len_succ hl6
        obtain ⟨v8, vs8, rfl, hl8⟩ := len_succ hl7
        obtain ⟨v9, vs9, rfl, hl9⟩ := len_succ hl8
        obtain ⟨v10, vs10, rfl, hl10⟩ := len_succ hl9
        obtain rfl := len_zero hl10
        have e := (show v3 = .bool false from hf _ (List.mem_of_getElem? (i := 6) rfl) (by kernel_rfl))
        subst e
        show Option.isSome _ = true
        kernel_rfl
      · intro vs gq stq hl hf
        replace hl : vs.length = 11 := hl
        obtain ⟨v0, vs0, rfl, hl0⟩ := len_succ hl
        obtain ⟨v1, vs1, rfl, hl1⟩ := len_succ hl0
        obtain ⟨v2, vs2, rfl, hl2⟩ := len_succ hl1
        obtain ⟨v3, vs3, rfl, hl3⟩ := len_succ hl2
        obtain ⟨v4, vs4, rfl, hl4⟩ := len_succ hl3
        obtain ⟨v5, vs5, rfl, hl5⟩ := len_succ hl4
        obtain ⟨v6, vs6, rfl, hl6⟩ := len_succ hl5
        obtain ⟨v7, vs7, rfl, hl7⟩ := len_succ hl6
        obtain ⟨v8, vs8, rfl, hl8⟩ := len_succ hl7
        obtain ⟨v9, vs9, rfl, hl9⟩ := len_succ hl8
        obtain ⟨v10, vs10, rfl, hl10⟩ := len_succ hl9
        obtain rfl := len_zero hl10
        have e := (show v3 = .bool false from hf _ (List.mem_of_getElem? (i := 6) rfl) (by kernel_rfl))
        subst e
        show Option.isSome _ = true
        kernel_rfl
      · intro vs gq stq hl hf
        replace hl : vs.length = 11 := hl
        obtain ⟨v0, vs0, rfl, hl0⟩ := len_succ hl
        obtain ⟨v1, vs1, rfl, hl1⟩ := len_succ hl0
        obtain ⟨v2, vs2, rfl, hl2⟩ := len_succ hl1
        obtain ⟨v3, vs3, rfl, hl3⟩ := len_succ hl2
        obtain ⟨v4, vs4, rfl, hl4⟩ := len_succ hl3
        obtain ⟨v5, vs5, rfl, hl5⟩ := len_succ hl4
        obtain ⟨v6, vs6, rfl, hl6⟩ := len_succ hl5
        obtain ⟨v7, vs7, rfl, hl7⟩ := len_succ hl6
        obtain ⟨v8, vs8, rfl, hl8⟩ := len_succ hl7
        obtain ⟨v9, vs9, rfl, hl9⟩ := len_succ hl8
        obtain ⟨v10, vs10, rfl, hl10⟩ := len_succ hl9
        obtain rfl := len_zero hl10
        have e := (show v3 = .bool false from hf _ (List.mem_of_getElem? (i := 6) rfl) (by kernel_rfl))
        subst e
        show Option.isSome _ = true
        kernel_rfl
      · intro vs gq stq hl hf
        replace hl : vs.length = 11 := hl
        obtain ⟨v0, vs0, rfl, hl0⟩ := len_succ hl
        obtain ⟨v1, vs1, rfl, hl1⟩ := len_succ hl0
        obtain ⟨v2, vs2, rfl, hl2⟩ := len_succ hl1
        obtain ⟨v3, vs3, rfl, hl3⟩ := len_succ hl2
        obtain ⟨v4, vs4, rfl, hl4⟩ := len_succ hl3
        obtain ⟨v5, vs5, rfl, hl5⟩ := len_succ hl4
        obtain ⟨v6, vs6, rfl, hl6⟩ := len_succ hl5
        obtain ⟨v7, vs7, rfl, hl7⟩ := len_succ hl6
        obtain ⟨v8, vs8, rfl, hl8⟩ := len_succ hl7
        obtain ⟨v9, vs9, rfl, hl9⟩ := len_succ hl8
        obtain ⟨v10, vs10, rfl, hl10⟩ := len_succ hl9
        obtain rfl := len_zero hl10
        have e := (show v3 = .bool false from hf _ (List.mem_of_getElem? (i := 6) rfl) (by kernel_rfl))
        subst e
        show Option.isSome _ = true
        kernel_rfl
      · intro vs gq stq hl hf
        replace hl : vs.length = 11 := hl
        obtain ⟨v0, vs0, rfl, hl0⟩ := len_succ hl
        obtain ⟨v1, vs1, rfl, hl1⟩ := len_succ hl0
        obtain ⟨v2, vs2, rfl, hl2⟩ := len_succ hl1
        obtain ⟨v3, vs3, rfl, hl3⟩ := len_succ hl2
        obtain ⟨v4, vs4, rfl, hl4⟩ := len_succ hl3
        obtain ⟨v5, vs5, rfl, hl5⟩ := len_succ hl4
        obtain ⟨v6, vs6, rfl, hl6⟩ := len_succ hl5
        obtain ⟨v7, vs7, rfl, hl7⟩ := len_succ hl6
        obtain ⟨v8, vs8, rfl, hl8⟩ := len_succ hl7
        obtain ⟨v9, vs9, rfl, hl9⟩ := len_succ hl8
        obtain ⟨v10, vs10, rfl, hl10⟩ := len_succ hl9
        obtain rfl := len_zero hl10
        have e := (show v4 = .bool false from hf _ (List.mem_of_getElem? (i := 7) rfl) (by kernel_rfl))
        subst e
        show Option.isSome _ = true
        kernel_rfl
      · intro vs gq stq hl hf
        replace hl : vs.length = 11 := hl
        obtain ⟨v0, vs0, rfl, hl0⟩ := len_succ hl
        obtain ⟨v1, vs1, rfl, hl1⟩ := len_succ hl0
        obtain ⟨v2, vs2, rfl, hl2⟩ := len_succ hl1
        obtain ⟨v3, vs3, rfl, hl3⟩ := len_succ hl2
        obtain ⟨v4, vs4, rfl, hl4⟩ := len_succ hl3
        obtain ⟨v5, vs5, rfl, hl5⟩ := len_succ hl4
        obtain ⟨v6, vs6, rfl, hl6⟩ := len_succ hl5
        obtain ⟨v7, vs7, rfl, hl7⟩ := len_succ hl6
        obtain ⟨v8, vs8, rfl, hl8⟩ := len_succ hl7
        obtain ⟨v9, vs9, rfl, hl9⟩ := len_succ hl8
        obtain ⟨v10, vs10, rfl, hl10⟩ := len_succ hl9
        obtain rfl := len_zero hl10
        have e := (show v4 = .bool false from hf _ (List.mem_of_getElem? (i := 7) rfl) (by kernel_rfl))
        subst e
        show Option.isSome _ = true
        kernel_rfl
      · intro vs gq stq hl hf
        replace hl : vs.length = 11 := hl
        obtain ⟨v0, vs0, rfl, hl0⟩ := len_succ hl
        obtain ⟨v1, vs1, rfl, hl1⟩ := len_succ hl0
        obtain ⟨v2, vs2, rfl, hl2⟩ := len_succ hl1
        obtain ⟨v3, vs3, rfl, hl3⟩ := len_succ hl2
        obtain ⟨v4, vs4, rfl, hl4⟩ := len_succ hl3
        obtain ⟨v5, vs5, rfl, hl5⟩ := len_succ hl4
        obtain ⟨v6, vs6, rfl, hl6⟩ := len_succ hl5
        obtain ⟨v7, vs7, rfl, hl7⟩ := len_succ hl6
        obtain ⟨v8, vs8, rfl, hl8⟩ := len_succ hl7
        obtain ⟨v9, vs9, rfl, hl9⟩ := len_succ hl8
        obtain ⟨v10, vs10, rfl, hl10⟩ := len_succ hl9
        obtain rfl := len_zero hl10
        have e := (show v4 = .bool false from hf _ (List.mem_of_getElem? (i := 7) rfl) (by kernel_rfl))
        subst e
        show Option.isSome _ = true
        kernel_rfl
      · intro vs gq stq hl hf
        replace hl : vs.length = 11 := hl
        obtain ⟨v0, vs0, rfl, hl0⟩ := len_succ hl
        obtain ⟨v1, vs1, rfl, hl1⟩ := len_succ hl0
        obtain ⟨v2, vs2, rfl, hl2⟩ := len_succ hl1
        obtain ⟨v3, vs3, rfl, hl3⟩ := len_succ hl2
        obtain ⟨v4, vs4, rfl, hl4⟩ := len_succ hl3
        obtain ⟨v5, vs5, rfl, hl5⟩ := len_succ hl4
        obtain ⟨v6, vs6, rfl, hl6⟩ := len_succ hl5
        obtain ⟨v7, vs7, rfl, hl7⟩ := len_succ hl6
        obtain ⟨v8, vs8, rfl, hl8⟩ := len_succ hl7
        obtain ⟨v9, vs9, rfl, hl9⟩ := len_succ hl8
        obtain ⟨v10, vs10, rfl, hl10⟩ := len_succ hl9
        obtain rfl := len_zero hl10
        have e := (show v4 = .bool false from hf _ (List.mem_of_getElem? (i := 7) rfl) (by kernel_rfl))
        subst e
        show Option.isSome _ = true
        kernel_rfl
      · intro vs gq stq hl hf
        replace hl : vs.length = 11 := hl
        obtain ⟨v0, vs0, rfl, hl0⟩ := len_succ hl
        obtain ⟨v1, vs1, rfl, hl1⟩ := len_succ hl0
        obtain ⟨v2, vs2, rfl, hl2⟩ := len_succ hl1
        obtain ⟨v3, vs3, rfl, hl3⟩ := len_succ hl2
        obtain ⟨v4, vs4, rfl, hl4⟩ := len_succ hl3
        obtain ⟨v5, vs5, rfl, hl5⟩ := len_succ hl4
        obtain ⟨v6, vs6, rfl, hl6⟩ := len_succ hl5
        obtain ⟨v7, vs7, rfl, hl7⟩ := len_succ hl6
        obtain ⟨v8, vs8, rfl, hl8⟩ := len_succ hl7
        obtain ⟨v9, vs9, rfl, hl9⟩ := len_succ hl8
        obtain ⟨v10, vs10, rfl, hl10⟩ := len_succ hl9
        obtain rfl := len_zero hl10
        have e := (show v5 = .bool false from hf _ (List.mem_of_getElem? (i := 8) rfl) (by kernel_rfl))
        subst e
        show Option.isSome _ = true
        kernel_rfl
      · intro vs gq stq hl hf
        replace hl : vs.length = 11 := hl
        obtain ⟨v0, vs0, rfl, hl0⟩ := len_succ hl
        obtain ⟨v1, vs1, rfl, hl1⟩ := len_succ hl0
        obtain ⟨v2, vs2, rfl, hl2⟩ := len_succ hl1
        obtain ⟨v3, vs3, rfl, hl3⟩ := len_succ hl2
        obtain ⟨v4, vs4, rfl, hl4⟩ := len_succ hl3
        obtain ⟨v5, vs5, rfl, hl5⟩ := len_succ hl4
        obtain ⟨v6, vs6, rfl, hl6⟩ := len_succ hl5
        obtain ⟨v7, vs7, rfl, hl7⟩ := len_succ hl6
        obtain ⟨v8, vs8, rfl, hl8⟩ := len_succ hl7
        obtain ⟨v9, vs9, rfl, hl9⟩ := len_succ hl8
        obtain ⟨v10, vs10, rfl, hl10⟩ := len_succ hl9
        obtain rfl := len_zero hl10
        have e := (show v5 = .bool false from hf _ (List.mem_of_getElem? (i := 8) rfl) (by kernel_rfl))
        subst e
        show Option.isSome _ = true
        kernel_rfl
      · intro vs gq stq hl hf
        replace hl : vs.length = 11 := hl
        obtain ⟨v0, vs0, rfl, hl0⟩ := len_succ hl
        obtain ⟨v1, vs1, rfl, hl1⟩ := len_succ hl0
        obtain ⟨v2, vs2, rfl, hl2⟩ := len_succ hl1
        obtain ⟨v3, vs3, rfl, hl3⟩ := len_succ hl2
        obtain ⟨v4, vs4, rfl, hl4⟩ := len_succ hl3
        obtain ⟨v5, vs5, rfl, hl5⟩ := len_succ hl4
        obtain ⟨v6, vs6, rfl, hl6⟩ := len_succ hl5
        obtain ⟨v7, vs7, rfl, hl7⟩ := len_succ hl6
        obtain ⟨v8, vs8, rfl, hl8⟩ := len_succ hl7
        obtain ⟨v9, vs9, rfl, hl9⟩ := len_succ hl8
        obtain ⟨v10, vs10, rfl, hl10⟩ := len_succ hl9
        obtain rfl := len_zero hl10
        have e := (show v5 = .bool false from hf _ (List.mem_of_getElem? (i := 8) rfl) (by kernel_rfl))
        subst e
        have e := (show v10 = .bool q10 from hf _ (List.mem_of_getElem? (i := 13) rfl) (by kernel_rfl))
        subst e
        show Option.isSome _ = true
        kernel_rfl
      · intro vs gq stq hl hf
        replace hl : vs.length = 11 := hl
        obtain ⟨v0, vs0, rfl, hl0⟩ := len_succ hl
        obtain ⟨v1, vs1, rfl, hl1⟩ := len_succ hl0
        obtain ⟨v2, vs2, rfl, hl2⟩ := len_succ hl1
        obtain ⟨v3, vs3, rfl, hl3⟩ := len_succ hl2
        obtain ⟨v4, vs4, rfl, hl4⟩ := len_succ hl3
        obtain ⟨v5, vs5, rfl, hl5⟩ := len_succ hl4
        obtain ⟨v6, vs6, rfl, hl6⟩ := len_succ hl5
        obtain ⟨v7, vs7, rfl, hl7⟩ := len_succ hl6
        obtain ⟨v8, vs8, rfl, hl8⟩ := len_succ hl7
        obtain ⟨v9, vs9, rfl, hl9⟩ := len_succ hl8
        obtain ⟨v10, vs10, rfl, hl10⟩ := len_succ hl9
        obtain rfl := len_zero hl10
        have e := (show v5 = .bool false from hf _ (List.mem_of_getElem? (i := 8) rfl) (by kernel_rfl))
        subst e
        have e := (show v10 = .bool q10 from hf _ (List.mem_of_getElem? (i := 13) rfl) (by kernel_rfl))
        subst e
        show Option.isSome _ = true
        kernel_rfl
    · intro j hj
      have hq : j = 0 ∨ j = 1 ∨ j = 2 ∨ j = 3 ∨ j = 4 ∨ j = 5 ∨ j = 6 ∨ j = 7 ∨ j = 8 ∨ j = 9 ∨ j = 10 := by have h : j < 11 := hj; omega
      rcases hq with rfl | rfl | rfl | rfl | rfl | rfl | rfl | rfl | rfl | rfl | rfl
      · intro vs gq stq hl hf
        replace hl : vs.length = 11 := hl
        obtain ⟨v0, vs0, rfl, hl0⟩ := len_succ hl
        obtain ⟨v1, vs1, rfl, hl1⟩ := len_succ hl0
        obtain ⟨v2, vs2, rfl, hl2⟩ := len_succ hl1
        obtain ⟨v3, vs3, rfl, hl3⟩ := len_succ hl2
        obtain ⟨v4, vs4, rfl, hl4⟩ := len_succ hl3
        obtain ⟨v5, vs5, rfl, hl5⟩ := len_succ hl4
        obtain ⟨v6, vs6, rfl, hl6⟩ := len_succ hl5
        obtain ⟨v7, vs7, rfl, hl7⟩ := len_succ hl6
        obtain ⟨v8, vs8, rfl, hl8⟩ := len_succ hl7
        obtain ⟨v9, vs9, rfl, hl9⟩ := len_succ hl8
        obtain ⟨v10, vs10, rfl, hl10⟩ := len_succ hl9
        obtain rfl := len_zero hl10
        have hB4 := (show Box gq (t + 3) b3 23 [encA .u8 d4] [8] from hf _ (List.mem_of_getElem? (i := 1) rfl) (by kernel_rfl))
        refine WP.loadB (v := AG [encA .u8 d4]) hB4 (by kernel_rfl) (by kernel_rfl) ?_
        refine WP.done (by kernel_rfl) (Shown.ok (v := AG [encA .u8 d4]) (by kernel_rfl) (Step.refl _ _) ?_)
        exact ⟨trivial, trivial, trivial, rfl, trivial, trivial, trivial, trivial, trivial, trivial, trivial, trivial, trivial, trivial, trivial, trivial, trivial⟩
      · intro vs gq stq hl hf
        replace hl : vs.length = 11 := hl
        obtain ⟨v0, vs0, rfl, hl0⟩ := len_succ hl
        obtain ⟨v1, vs1, rfl, hl1⟩ := len_succ hl0
        obtain ⟨v2, vs2, rfl, hl2⟩ := len_succ hl1
        obtain ⟨v3, vs3, rfl, hl3⟩ := len_succ hl2
        obtain ⟨v4, vs4, rfl, hl4⟩ := len_succ hl3
        obtain ⟨v5, vs5, rfl, hl5⟩ := len_succ hl4
        obtain ⟨v6, vs6, rfl, hl6⟩ := len_succ hl5
        obtain ⟨v7, vs7, rfl, hl7⟩ := len_succ hl6
        obtain ⟨v8, vs8, rfl, hl8⟩ := len_succ hl7
        obtain ⟨v9, vs9, rfl, hl9⟩ := len_succ hl8
        obtain ⟨v10, vs10, rfl, hl10⟩ := len_succ hl9
        obtain rfl := len_zero hl10
        have hB6 := (show Box gq (t + 4) b4 22 [encA .u8 d6] [8] from hf _ (List.mem_of_getElem? (i := 2) rfl) (by kernel_rfl))
        refine WP.loadB (v := AG [encA .u8 d6]) hB6 (by kernel_rfl) (by kernel_rfl) ?_
        refine WP.done (by kernel_rfl) (Shown.ok (v := AG [encA .u8 d6]) (by kernel_rfl) (Step.refl _ _) ?_)
        exact ⟨trivial, trivial, trivial, trivial, rfl, trivial, trivial, trivial, trivial, trivial, trivial, trivial, trivial, trivial, trivial, trivial, trivial⟩
      · intro vs gq stq hl hf
        replace hl : vs.length = 11 := hl
        obtain ⟨v0, vs0, rfl, hl0⟩ := len_succ hl
        obtain ⟨v1, vs1, rfl, hl1⟩ := len_succ hl0
        obtain ⟨v2, vs2, rfl, hl2⟩ := len_succ hl1
        obtain ⟨v3, vs3, rfl, hl3⟩ := len_succ hl2
        obtain ⟨v4, vs4, rfl, hl4⟩ := len_succ hl3
        obtain ⟨v5, vs5, rfl, hl5⟩ := len_succ hl4
        obtain ⟨v6, vs6, rfl, hl6⟩ := len_succ hl5
        obtain ⟨v7, vs7, rfl, hl7⟩ := len_succ hl6
        obtain ⟨v8, vs8, rfl, hl8⟩ := len_succ hl7
        obtain ⟨v9, vs9, rfl, hl9⟩ := len_succ hl8
        obtain ⟨v10, vs10, rfl, hl10⟩ := len_succ hl9
        obtain rfl := len_zero hl10
        have e := (show v0 = AG [encA .u8 d4] from hf _ (List.mem_of_getElem? (i := 3) rfl) (by kernel_rfl))
        subst e
        have e := (show v1 = AG [encA .u8 d6] from hf _ (List.mem_of_getElem? (i := 4) rfl) (by kernel_rfl))
        subst e
        refine WP.neV (by kernel_rfl) (by kernel_rfl) (EqV.arr (d := 9998) (t := 23) (e := 5) (m := 8) (k := .u8) (x := d4) (y := d6) (by kernel_rfl) (by kernel_rfl)) ?_
        refine WP.done (by kernel_rfl) (Shown.ok (v := .bool (!(d4.1 == d6.1))) (by kernel_rfl) (Step.refl _ _) ?_)
        exact ⟨trivial, trivial, trivial, trivial, trivial, rfl, trivial, trivial, trivial, trivial, trivial, trivial, trivial, trivial, trivial, trivial, trivial⟩
      · intro vs gq stq hl hf
        replace hl : vs.length = 11 := hl
        obtain ⟨v0, vs0, rfl, hl0⟩ := len_succ hl
        obtain ⟨v1, vs1, rfl, hl1⟩ := len_succ hl0
        obtain ⟨v2, vs2, rfl, hl2⟩ := len_succ hl1
        obtain ⟨v3, vs3, rfl, hl3⟩ := len_succ hl2
        obtain ⟨v4, vs4, rfl, hl4⟩ := len_succ hl3
        obtain ⟨v5, vs5, rfl, hl5⟩ := len_succ hl4
        obtain ⟨v6, vs6, rfl, hl6⟩ := len_succ hl5
        obtain ⟨v7, vs7, rfl, hl7⟩ := len_succ hl6
        obtain ⟨v8, vs8, rfl, hl8⟩ := len_succ hl7
        obtain ⟨v9, vs9, rfl, hl9⟩ := len_succ hl8
        obtain ⟨v10, vs10, rfl, hl10⟩ := len_succ hl9
        obtain rfl := len_zero hl10
        have e := (show v2 = .bool (!(d4.1 == d6.1)) from hf _ (List.mem_of_getElem? (i := 5) rfl) (by kernel_rfl))
        subst e
        refine WP.still 1 (by kernel_rfl) ?_
        refine WP.done (by kernel_rfl) (Shown.ok (v := .bool (!(d4.1 == d6.1))) (by kernel_rfl) (Step.refl _ _) ?_)
        exact ⟨trivial, trivial, trivial, trivial, trivial, trivial, congrArg Value.bool h20, trivial, trivial, trivial, trivial, trivial, trivial, trivial, trivial, trivial, trivial⟩
      · intro vs gq stq hl hf
        replace hl : vs.length = 11 := hl
        obtain ⟨v0, vs0, rfl, hl0⟩ := len_succ hl
        obtain ⟨v1, vs1, rfl, hl1⟩ := len_succ hl0
        obtain ⟨v2, vs2, rfl, hl2⟩ := len_succ hl1
        obtain ⟨v3, vs3, rfl, hl3⟩ := len_succ hl2
        obtain ⟨v4, vs4, rfl, hl4⟩ := len_succ hl3
        obtain ⟨v5, vs5, rfl, hl5⟩ := len_succ hl4
        obtain ⟨v6, vs6, rfl, hl6⟩ := len_succ hl5
        obtain ⟨v7, vs7, rfl, hl7⟩ := len_succ hl6
        obtain ⟨v8, vs8, rfl, hl8⟩ := len_succ hl7
        obtain ⟨v9, vs9, rfl, hl9⟩ := len_succ hl8
        obtain ⟨v10, vs10, rfl, hl10⟩ := len_succ hl9
        obtain rfl := len_zero hl10
        have e := (show v3 = .bool false from hf _ (List.mem_of_getElem? (i := 6) rfl) (by kernel_rfl))
        subst e
        refine WP.still 1 (by kernel_rfl) ?_
        refine WP.done (by kernel_rfl) (Shown.ok (v := .bool (x8 != x13)) (by kernel_rfl) (Step.refl _ _) ?_)
        exact ⟨trivial, trivial, trivial, trivial, trivial, trivial, trivial, congrArg Value.bool h21, trivial, trivial, trivial, trivial, trivial, trivial, trivial, trivial, trivial⟩
      · intro vs gq stq hl hf
        replace hl : vs.length = 11 := hl
        obtain ⟨v0, vs0, rfl, hl0⟩ := len_succ hl
        obtain ⟨v1, vs1, rfl, hl1⟩ := len_succ hl0
        obtain ⟨v2, vs2, rfl, hl2⟩ := len_succ hl1
        obtain ⟨v3, vs3, rfl, hl3⟩ := len_succ hl2
        obtain ⟨v4, vs4, rfl, hl4⟩ := len_succ hl3
        obtain ⟨v5, vs5, rfl, hl5⟩ := len_succ hl4
        obtain ⟨v6, vs6, rfl, hl6⟩ := len_succ hl5
        obtain ⟨v7, vs7, rfl, hl7⟩ := len_succ hl6
        obtain ⟨v8, vs8, rfl, hl8⟩ := len_succ hl7
        obtain ⟨v9, vs9, rfl, hl9⟩ := len_succ hl8
        obtain ⟨v10, vs10, rfl, hl10⟩ := len_succ hl9
        obtain rfl := len_zero hl10
        have e := (show v4 = .bool false from hf _ (List.mem_of_getElem? (i := 7) rfl) (by kernel_rfl))
        subst e
        refine WP.still 1 (by kernel_rfl) ?_
        refine WP.done (by kernel_rfl) (Shown.ok (v := .bool (x9 != x14)) (by kernel_rfl) (Step.refl _ _) ?_)
        exact ⟨trivial, trivial, trivial, trivial, trivial, trivial, trivial, trivial, congrArg Value.bool h22, trivial, trivial, trivial, trivial, trivial, trivial, trivial, trivial⟩
      · intro vs gq stq hl hf
        replace hl : vs.length = 11 := hl
        obtain ⟨v0, vs0, rfl, hl0⟩ := len_succ hl
        obtain ⟨v1, vs1, rfl, hl1⟩ := len_succ hl0
        obtain ⟨v2, vs2, rfl, hl2⟩ := len_succ hl1
        obtain ⟨v3, vs3, rfl, hl3⟩ := len_succ hl2
        obtain ⟨v4, vs4, rfl, hl4⟩ := len_succ hl3
        obtain ⟨v5, vs5, rfl, hl5⟩ := len_succ hl4
        obtain ⟨v6, vs6, rfl, hl6⟩ := len_succ hl5
        obtain ⟨v7, vs7, rfl, hl7⟩ := len_succ hl6
        obtain ⟨v8, vs8, rfl, hl8⟩ := len_succ hl7
        obtain ⟨v9, vs9, rfl, hl9⟩ := len_succ hl8
        obtain ⟨v10, vs10, rfl, hl10⟩ := len_succ hl9
        obtain rfl := len_zero hl10
        have hB2 := (show Box gq (t + 2) b2 22 [encA .u8 d2] [8] from hf _ (List.mem_of_getElem? (i := 0) rfl) (by kernel_rfl))
        have e := (show v5 = .bool false from hf _ (List.mem_of_getElem? (i := 8) rfl) (by kernel_rfl))
        subst e
        refine WP.loadB (v := AG [encA .u8 d2]) hB2 (by kernel_rfl) (by kernel_rfl) ?_
        refine WP.done (by kernel_rfl) (Shown.ok (v := AG [encA .u8 d2]) (by kernel_rfl) (Step.refl _ _) ?_)
        exact ⟨trivial, trivial, trivial, trivial, trivial, trivial, trivial, trivial, trivial, rfl, trivial, trivial, trivial, trivial, trivial, trivial, trivial⟩
      · intro vs gq stq hl hf
        replace hl : vs.length = 11 := hl
        obtain ⟨v0, vs0, rfl, hl0⟩ := len_succ hl
        obtain ⟨v1, vs1, rfl, hl1⟩ := len_succ hl0
        obtain ⟨v2, vs2, rfl, hl2⟩ := len_succ hl1
        obtain ⟨v3, vs3, rfl, hl3⟩ := len_succ hl2
        obtain ⟨v4, vs4, rfl, hl4⟩ := len_succ hl3
        obtain ⟨v5, vs5, rfl, hl5⟩ := len_succ hl4
        obtain ⟨v6, vs6, rfl, hl6⟩ := len_succ hl5
        obtain ⟨v7, vs7, rfl, hl7⟩ := len_succ hl6
        obtain ⟨v8, vs8, rfl, hl8⟩ := len_succ hl7
        obtain ⟨v9, vs9, rfl, hl9⟩ := len_succ hl8
        obtain ⟨v10, vs10, rfl, hl10⟩ := len_succ hl9
        obtain rfl := len_zero hl10
        have e := (show v5 = .bool false from hf _ (List.mem_of_getElem? (i := 8) rfl) (by kernel_rfl))
        subst e
        have e := (show v6 = AG [encA .u8 d2] from hf _ (List.mem_of_getElem? (i := 9) rfl) (by kernel_rfl))
        subst e
        have hcal14 := P.tx_PayTo gq (t + 9) d2 x4 l10 hk14
        refine WP.callC hcal14 (by kernel_rfl) ?_
        rintro _ g28 st28 ⟨a10, n10, c10, rfl, hR10⟩
        obtain rfl := hR10.len
        refine WP.done (by kernel_rfl) (Shown.ok (v := .slice a10 l10.length c10) (by kernel_rfl) st28.pure ?_)
        exact ⟨trivial, trivial, trivial, trivial, trivial, trivial, trivial, trivial, trivial, trivial, ⟨a10, c10, rfl, hR10⟩, trivial, trivial, trivial, trivial, trivial, trivial⟩
      · intro vs gq stq hl hf
        replace hl : vs.length = 11 := hl
        obtain ⟨v0, vs0, rfl, hl0⟩ := len_succ hl
        obtain ⟨v1, vs1, rfl, hl1⟩ := len_succ hl0
        obtain ⟨v2, vs2, rfl, hl2⟩ := len_succ hl1
        obtain ⟨v3, vs3, rfl, hl3⟩ := len_succ hl2
        obtain ⟨v4, vs4, rfl, hl4⟩ := len_succ hl3
        obtain ⟨v5, vs5, rfl, hl5⟩ := len_succ hl4
        obtain ⟨v6, vs6, rfl, hl6⟩ := len_succ hl5
        obtain ⟨v7, vs7, rfl, hl7⟩ := len_succ hl6
        obtain ⟨v8, vs8, rfl, hl8⟩ := len_succ hl7
        obtain ⟨v9, vs9, rfl, hl9⟩ := len_succ hl8
        obtain ⟨v10, vs10, rfl, hl10⟩ := len_succ hl9
        obtain rfl := len_zero hl10
        have hB2 := (show Box gq (t + 2) b2 22 [encA .u8 d2] [8] from hf _ (List.mem_of_getElem? (i := 0) rfl) (by kernel_rfl))
        have e := (show v5 = .bool false from hf _ (List.mem_of_getElem? (i := 8) rfl) (by kernel_rfl))
        subst e
        refine WP.loadB (v := AG [encA .u8 d2]) hB2 (by kernel_rfl) (by kernel_rfl) ?_
        refine WP.done (by kernel_rfl) (Shown.ok (v := AG [encA .u8 d2]) (by kernel_rfl) (Step.refl _ _) ?_)
        exact ⟨trivial, trivial, trivial, trivial, trivial, trivial, trivial, trivial, trivial, trivial, trivial, rfl, trivial, trivial, trivial, trivial, trivial⟩
      · intro vs gq stq hl hf
        replace hl : vs.length = 11 := hl
        obtain ⟨v0, vs0, rfl, hl0⟩ := len_succ hl
        obtain ⟨v1, vs1, rfl, hl1⟩ := len_succ hl0
        obtain ⟨v2, vs2, rfl, hl2⟩ := len_succ hl1
        obtain ⟨v3, vs3, rfl, hl3⟩ := len_succ hl2
        obtain ⟨v4, vs4, rfl, hl4⟩ := len_succ hl3
        obtain ⟨v5, vs5, rfl, hl5⟩ := len_succ hl4
        obtain ⟨v6, vs6, rfl, hl6⟩ := len_succ hl5
        obtain ⟨v7, vs7, rfl, hl7⟩ := len_succ hl6
        obtain ⟨v8, vs8, rfl, hl8⟩ := len_succ hl7
        obtain ⟨v9, vs9, rfl, hl9⟩ := len_succ hl8
        obtain ⟨v10, vs10, rfl, hl10⟩ := len_succ hl9
        obtain rfl := len_zero hl10
        have e := (show v5 = .bool false from hf _ (List.mem_of_getElem? (i := 8) rfl) (by kernel_rfl))
        subst e
        have e := (show v8 = AG [encA .u8 d2] from hf _ (List.mem_of_getElem? (i := 11) rfl) (by kernel_rfl))
        subst e
        have hcal15 := P.baizeref25_PayTo gq (t + 10) d2 x4 l11 hk15
        refine WP.callC hcal15 (by kernel_rfl) ?_
        rintro _ g29 st29 ⟨a11, n11, c11, rfl, hR11⟩
        obtain rfl := hR11.len
        refine WP.done (by kernel_rfl) (Shown.ok (v := .slice a11 l11.length c11) (by kernel_rfl) st29.pure ?_)
        exact ⟨trivial, trivial, trivial, trivial, trivial, trivial, trivial, trivial, trivial, trivial, trivial, trivial, ⟨a11, c11, rfl, hR11⟩, trivial, trivial, trivial, trivial⟩
      · intro vs gq stq hl hf
        replace hl : vs.length = 11 := hl
        obtain ⟨v0, vs0, rfl, hl0⟩ := len_succ hl
        obtain ⟨v1, vs1, rfl, hl1⟩ := len_succ hl0
        obtain ⟨v2, vs2, rfl, hl2⟩ := len_succ hl1
        obtain ⟨v3, vs3, rfl, hl3⟩ := len_succ hl2
        obtain ⟨v4, vs4, rfl, hl4⟩ := len_succ hl3
        obtain ⟨v5, vs5, rfl, hl5⟩ := len_succ hl4
        obtain ⟨v6, vs6, rfl, hl6⟩ := len_succ hl5
        obtain ⟨v7, vs7, rfl, hl7⟩ := len_succ hl6
        obtain ⟨v8, vs8, rfl, hl8⟩ := len_succ hl7
        obtain ⟨v9, vs9, rfl, hl9⟩ := len_succ hl8
        obtain ⟨v10, vs10, rfl, hl10⟩ := len_succ hl9
        obtain rfl := len_zero hl10
        have e := (show v5 = .bool false from hf _ (List.mem_of_getElem? (i := 8) rfl) (by kernel_rfl))
        subst e
        obtain ⟨a10, c10, e, hR10⟩ := (show ∃ (a10 : Option Addr) (c10 : Nat), v7 = .slice a10 l10.length c10 ∧ OwnS (Kd.int .u8) gq (t + 9) 5 a10 l10.length c10 l10 from hf _ (List.mem_of_getElem? (i := 10) rfl) (by kernel_rfl))
        subst e
        obtain ⟨a11, c11, e, hR11⟩ := (show ∃ (a11 : Option Addr) (c11 : Nat), v9 = .slice a11 l11.length c11 ∧ OwnS (Kd.int .u8) gq (t + 10) 5 a11 l11.length c11 l11 from hf _ (List.mem_of_getElem? (i := 12) rfl) (by kernel_rfl))
        subst e
        have hS3 : 0 ∉ ([(t + 9), (t + 10)] : List Nat) := by simp <;> omega
        have stl3 := GW.lend_step gq [(t + 9), (t + 10)]
        have hRl4 := hR10.lendTo hS3 (by simp)
        have hRl5 := hR11.lendTo hS3 (by simp)
        refine WP.regw (g' := GW.lend gq [(t + 9), (t + 10)]) rfl ?_
        have hcal16 := P.baizeref01_Same (GW.lend gq [(t + 9), (t + 10)]) l10 l11 a10 l10.length c10 a11 l11.length c11 hRl4 hRl5 q10 hk16
        refine WP.callC hcal16 (by kernel_rfl) ?_
        rintro _ g30 st30 rfl
        have st31 := (GW.back_step st30).lentS
        have hO4 := hR10.backTo hS3 (by simp) st30 (fun x => x)
        have hO5 := hR11.backTo hS3 (by simp) st30 (fun x => x)
        refine WP.regw (g' := GW.back gq g30 [(t + 9), (t + 10)]) rfl ?_
        generalize GW.back gq g30 [(t + 9), (t + 10)] = g31 at *
        refine WP.done (by kernel_rfl) (Shown.ok (v := .bool q10) (by kernel_rfl) st31 ?_)
        exact ⟨trivial, trivial, trivial, trivial, trivial, trivial, trivial, trivial, trivial, trivial, trivial, trivial, trivial, rfl, ⟨a10, c10, rfl, hO4⟩, ⟨a11, c11, rfl, hO5⟩, trivial⟩
    intro vs g32 st32 hl hf
    replace hl : vs.length = 11 := hl
    obtain ⟨v0, vs0, rfl, hl0⟩ := len_succ hl
    obtain ⟨v1, vs1, rfl, hl1⟩ := len_succ hl0
    obtain ⟨v2, vs2, rfl, hl2⟩ := len_succ hl1
    obtain ⟨v3, vs3, rfl, hl3⟩ := len_succ hl2
    obtain ⟨v4, vs4, rfl, hl4⟩ := len_succ hl3
    obtain ⟨v5, vs5, rfl, hl5⟩ := len_succ hl4
    obtain ⟨v6, vs6, rfl, hl6⟩ := len_succ hl5
    obtain ⟨v7, vs7, rfl, hl7⟩ := len_succ hl6
    obtain ⟨v8, vs8, rfl, hl8⟩ := len_succ hl7
    obtain ⟨v9, vs9, rfl, hl9⟩ := len_succ hl8
    obtain ⟨v10, vs10, rfl, hl10⟩ := len_succ hl9
    obtain rfl := len_zero hl10
    have e := (show v5 = .bool false from hf _ (List.mem_of_getElem? (i := 8) rfl) (by kernel_rfl))
    subst e
    have e := (show v10 = .bool q10 from hf _ (List.mem_of_getElem? (i := 13) rfl) (by kernel_rfl))
    subst e
    replace hB2 := hB2.mono st32 (WL.no2 (by omega) (by omega))
    replace tot := tot.trans (st32.up2 (.inr (by omega)) (.inr (by omega)))
    refine NX.post ?_
    exact ⟨(!q10), ⟨by kernel_rfl, by kernel_rfl⟩, tot, hB2, hs⟩
  clear tot hs hB2 hB4 hB6
  rintro tm g ⟨q2, hF, tot, hB2, hs⟩
  clear ds
  obtain ⟨ds, rfl⟩ := hF.open
  clear hF
  unfold F.baizelaw25_TxPays.c1 at hs
  refine CP.cond (b := q2) (by kernel_rfl) (fun h4 => ?_) (fun h4 => ?_)
  · replace hs := of_if_t hs h4
    refine CP.seqR ?_
    refine WP.still 1 (by kernel_rfl) ?_
    refine WP.done (by kernel_rfl) ?_
    refine NX.then_n ?_
    refine CP.ret ?_
    refine NX.then_r ?_
    replace hs := Option.some.inj hs
    obtain rfl := hs
    exact NX.fin (v := .bool false) (Res.still (by kernel_rfl)) tot htL rfl
  replace hs := of_if_f hs h4
  refine CP.skip ?_
  refine NX.then_n ?_
  refine CP.seqR ?_
  refine WP.loadB (v := AG [encA .u8 d2]) hB2 (by kernel_rfl) (by kernel_rfl) ?_
  refine WP.still 1 (by kernel_rfl) ?_
  replace hs := Option.bind_eq_some_iff.1 hs
  obtain ⟨l9, hk8, hs⟩ := hs
  have hcal8 := P.tx_PayTo g (t + 7) d2 x4 l9 hk8
  refine WP.callC hcal8 (by kernel_rfl) ?_
  rintro _ g16 st16 ⟨a9, n9, c9, rfl, hR9⟩
  replace hB2 := hB2.mono st16 (fun x => x)
  replace tot := tot.trans st16.pure
  refine WP.buildS (places := #[(0, 8), (8, 1), (9, 1), (10, 1), (11, 1), (12, 1)]) (t := 26) [encA .u8 (zA 8), [.int .i64 0], [.int .i64 0], [.int .i64 0], [.slice none 0 0], [.slice none 0 0]] [8, 1, 1, 1, 1, 1] (by kernel_rfl) (by kernel_rfl) (by simp [len_encA]) (by kernel_rfl) ((.cons (i := 3) (off := 10) (v := .int .i64 0) (mid := [encA .u8 (zA 8), [.int .i64 0], [.int .i64 0], [.int .i64 0], [.slice none 0 0], [.slice none 0 0]]) [[.int .i64 0]] [1] (by kernel_rfl) (by kernel_rfl) rfl (by kernel_rfl) (.cons (i := 4) (off := 11) (v := .slice a9 n9 c9) (mid := [encA .u8 (zA 8), [.int .i64 0], [.int .i64 0], [.int .i64 0], [.slice a9 n9 c9], [.slice none 0 0]]) [[.slice a9 n9 c9]] [1] (by kernel_rfl) (by kernel_rfl) rfl (by kernel_rfl) .nil))) ?_
  replace hs := Option.bind_eq_some_iff.1 hs
  obtain ⟨⟨d7, x15, x16⟩, hk9, hs⟩ := hs
  dsimp only at hs
  have hS2 : 0 ∉ ([(t + 7)] : List Nat) := by simp <;> omega
  have stl2 := GW.lend_step g16 [(t + 7)]
  have hRl3 := hR9.lendTo hS2 (by simp)
  refine WP.regw (g' := GW.lend g16 [(t + 7)]) rfl ?_
  have hcal9 := P.tx_Tx_Paid (GW.lend g16 [(t + 7)]) (zA 8) 0 0 0 l9 ([]) a9 n9 c9 none 0 0 hRl3 (RdS.nil _ _ _) d7 x15 x16 hk9
  refine WP.callC hcal9 (by kernel_rfl) ?_
  rintro _ g17 st17 rfl
  have st18 := (GW.back_step st17).lentS
  have hO3 := hR9.backTo hS2 (by simp) st17 (fun x => x)
  refine WP.regw (g' := GW.back g16 g17 [(t + 7)]) rfl ?_
  generalize GW.back g16 g17 [(t + 7)] = g18 at *
  replace hB2 := hB2.mono st18 (WL.no1 (by omega))
  replace tot := tot.trans (st18.up1 (.inr (by omega)))
  clear hR9
  have hR9 : OwnS (Kd.int .u8) g18 (t + 7) 5 a9 n9 c9 l9 := hO3
  clear hO3
  refine WP.still 4 (by kernel_rfl) ?_
  refine WP.alloc (T := 23) (t + 8) [encA .u8 (zA 8)] [8] (by kernel_rfl) (by simp [len_encA]) ?_
  intro g19 b5 st19 hB8
  replace hB2 := hB2.mono st19 (fun x => x)
  replace hR9 := hR9.mono st19 (fun x => x) (fun x => x)
  replace tot := tot.trans st19.pure
  refine WP.storeB (ty := 23) (off := 0) (v := AG [encA .u8 d7]) hB8 [encA .u8 d7] [8] (by kernel_rfl) (by kernel_rfl) (by simp [len_encA]) (by kernel_rfl) [encA .u8 d7] (by kernel_rfl) (.arr .nil) ?_
  intro g20 st20 hB9
  replace hB2 := hB2.mono st20 (WL.no1 (by omega))
  replace hR9 := hR9.mono st20 (WL.no1 (by omega)) (WL.no1 (by omega))
  replace tot := tot.trans (st20.up1 (.inr (by omega)))
  clear hB8
  have hB8 := hB9
  clear hB9
  refine WP.still 2 (by kernel_rfl) ?_
  refine WP.done (by kernel_rfl) ?_
  refine NX.then_n ?_
  refine CP.refr 98 [(2, .int .i64 x4), (4, .pointer (some ⟨b2, 0, none⟩)), (13, .pointer (some ⟨b5, 0, none⟩)), (14, .int .i64 x15), (15, .int .i64 x16)] (by kernel_rfl) (by kernel_rfl) ?_
  clear ds
  intro ds
  refine CP.seq ?_
  refine CP.cut (fun tm g => ∃ (q3 : Bool), Fr 98 [(2, .int .i64 x4), (4, .pointer (some ⟨b2, 0, none⟩)), (13, .pointer (some ⟨b5, 0, none⟩)), (14, .int .i64 x15), (15, .int .i64 x16), (68, .bool q3)] tm ∧ Step (fun l => NoM l ∨ t ≤ l) g0 g ∧ Box g (t + 2) b2 22 [encA .u8 d2] [8] ∧ Box g (t + 8) b5 23 [encA .u8 d7] [8] ∧ (F.baizelaw25_TxPays.c2 d2 x4 d7 x15 x16 q3) = some o1) ?_ ?_
  · refine CP.region ?_
    refine WP.still 3 (by kernel_rfl) ?_
    refine WP.guard 65 (b := decide (x4 < 0)) (by kernel_rfl) (fun h19 => ?_) (fun h19 => ?_)
    · replace hs := of_if_t hs h19
      refine WP.still 3 (by kernel_rfl) ?_
      refine WP.done (by kernel_rfl) ?_
      refine NX.post ?_
      exact ⟨true, ⟨by kernel_rfl, by kernel_rfl⟩, tot, hB2, hB8, hs⟩
    replace hs := of_if_f hs h19
    refine WP.still 3 (by kernel_rfl) ?_
    refine WP.done (by kernel_rfl) ?_
    refine NX.post ?_
    exact ⟨decide (x4 > 1125899906842624), ⟨by kernel_rfl, by kernel_rfl⟩, tot, hB2, hB8, hs⟩
  clear tot hs hB2 hB8
  rintro tm g ⟨q3, hF, tot, hB2, hB8, hs⟩
  clear ds
  obtain ⟨ds, rfl⟩ := hF.open
  clear hF
  unfold F.baizelaw25_TxPays.c2 at hs
  refine CP.cond (b := q3) (by kernel_rfl) (fun h6 => ?_) (fun h6 => ?_)
  · replace hs := of_if_t hs h6
    refine CP.cut (fun tm g => ∃ (q5 : Bool), Fr 98 [(6, .bool q5)] tm ∧ Step (fun l => NoM l ∨ t ≤ l) g0 g ∧ (F.baizelaw25_TxPays.c3 q5) = some o1) ?_ ?_
    · refine CP.region ?_
      replace hs := Option.bind_eq_some_iff.1 hs
      obtain ⟨q6, hk11, hs⟩ := hs
      have hcal11 := P.baizelaw25_known g q6 hk11
      refine WP.callC hcal11 (by kernel_rfl) ?_
      rintro _ g22 st22 rfl
      replace hB2 := hB2.mono st22 (fun x => x)
      replace hB8 := hB8.mono st22 (fun x => x)
      replace tot := tot.trans st22.pure
      refine WP.still 1 (by kernel_rfl) ?_
      refine WP.guard 70 (b := q6) (by kernel_rfl) (fun h10 => ?_) (fun h10 => ?_)
      · replace hs := of_if_t hs h10
        refine WP.still 4 (by kernel_rfl) ?_
        refine WP.guard 74 (b := (x16 == 2)) (by kernel_rfl) (fun h11 => ?_) (fun h11 => ?_)
        · replace hs := of_if_t hs h11
          refine WP.loadB (v := AG [encA .u8 d7]) hB8 (by kernel_rfl) (by kernel_rfl) ?_
          refine WP.still 1 (by kernel_rfl) ?_
          refine WP.eqV (by kernel_rfl) (by kernel_rfl) (EqV.arr (d := 9998) (t := 23) (e := 5) (m := 8) (k := .u8) (x := d7) (y := (zA 8)) (by kernel_rfl) (by kernel_rfl)) ?_
          refine WP.still 2 (by kernel_rfl) ?_
          refine WP.guard 79 (b := (d7.1 == (zA 8).1)) (by kernel_rfl) (fun h12 => ?_) (fun h12 => ?_)
          · replace hs := of_if_t hs h12
            refine WP.still 4 (by kernel_rfl) ?_
            refine WP.done (by kernel_rfl) ?_
            refine NX.post ?_
            exact ⟨(x15 == 0), ⟨by kernel_rfl, by kernel_rfl⟩, tot, hs⟩
          replace hs := of_if_f hs h12
          refine WP.still 4 (by kernel_rfl) ?_
          refine WP.done (by kernel_rfl) ?_
          refine NX.post ?_
          exact ⟨false, ⟨by kernel_rfl, by kernel_rfl⟩, tot, hs⟩
        replace hs := of_if_f hs h11
        refine WP.still 9 (by kernel_rfl) ?_
        refine WP.done (by kernel_rfl) ?_
        refine NX.post ?_
        exact ⟨false, ⟨by kernel_rfl, by kernel_rfl⟩, tot, hs⟩
      replace hs := of_if_f hs h10
      refine WP.still 13 (by kernel_rfl) ?_
      refine WP.done (by kernel_rfl) ?_
      refine NX.post ?_
      exact ⟨false, ⟨by kernel_rfl, by kernel_rfl⟩, tot, hs⟩
    clear tot hs hB2 hB8
    rintro tm g ⟨q5, hF, tot, hs⟩
    clear ds
    obtain ⟨ds, rfl⟩ := hF.open
    clear hF
    unfold F.baizelaw25_TxPays.c3 at hs
    refine CP.ret ?_
    refine NX.then_r ?_
    replace hs := Option.some.inj hs
    obtain rfl := hs
    exact NX.fin (v := .bool q5) (Res.still (by kernel_rfl)) tot htL rfl
  replace hs := of_if_f hs h6
  refine CP.skip ?_
  refine NX.then_n ?_
  refine CP.cut (fun tm g => ∃ (q8 : Bool), Fr 98 [(6, .bool q8)] tm ∧ Step (fun l => NoM l ∨ t ≤ l) g0 g ∧ (F.baizelaw25_TxPays.c4 q8) = some o1) ?_ ?_
  · refine CP.region ?_
    replace hs := Option.bind_eq_some_iff.1 hs
    obtain ⟨q9, hk13, hs⟩ := hs
    have hcal13 := P.baizelaw25_known g q9 hk13
    refine WP.callC hcal13 (by kernel_rfl) ?_
    rintro _ g24 st24 rfl
    replace hB2 := hB2.mono st24 (fun x => x)
    replace hB8 := hB8.mono st24 (fun x => x)
    replace tot := tot.trans st24.pure
    refine WP.still 1 (by kernel_rfl) ?_
    refine WP.guard 84 (b := q9) (by kernel_rfl) (fun h16 => ?_) (fun h16 => ?_)
    · replace hs := of_if_t hs h16
      refine WP.still 4 (by kernel_rfl) ?_
      refine WP.guard 88 (b := (x16 == 0)) (by kernel_rfl) (fun h17 => ?_) (fun h17 => ?_)
      · replace hs := of_if_t hs h17
        refine WP.loadB (v := AG [encA .u8 d7]) hB8 (by kernel_rfl) (by kernel_rfl) ?_
        refine WP.loadB (v := AG [encA .u8 d2]) hB2 (by kernel_rfl) (by kernel_rfl) ?_
        refine WP.eqV (by kernel_rfl) (by kernel_rfl) (EqV.arr (d := 9998) (t := 23) (e := 5) (m := 8) (k := .u8) (x := d7) (y := d2) (by kernel_rfl) (by kernel_rfl)) ?_
        refine WP.still 2 (by kernel_rfl) ?_
        refine WP.guard 93 (b := (d7.1 == d2.1)) (by kernel_rfl) (fun h18 => ?_) (fun h18 => ?_)
        · replace hs := of_if_t hs h18
          refine WP.still 5 (by kernel_rfl) ?_
          refine WP.done (by kernel_rfl) ?_
          refine NX.post ?_
          exact ⟨(x15 == x4), ⟨by kernel_rfl, by kernel_rfl⟩, tot, hs⟩
        replace hs := of_if_f hs h18
        refine WP.still 5 (by kernel_rfl) ?_
        refine WP.done (by kernel_rfl) ?_
        refine NX.post ?_
        exact ⟨false, ⟨by kernel_rfl, by kernel_rfl⟩, tot, hs⟩
      replace hs := of_if_f hs h17
      refine WP.still 10 (by kernel_rfl) ?_
      refine WP.done (by kernel_rfl) ?_
      refine NX.post ?_
      exact ⟨false, ⟨by kernel_rfl, by kernel_rfl⟩, tot, hs⟩
    replace hs := of_if_f hs h16
    refine WP.still 14 (by kernel_rfl) ?_
    refine WP.done (by kernel_rfl) ?_
    refine NX.post ?_
    exact ⟨false, ⟨by kernel_rfl, by kernel_rfl⟩, tot, hs⟩
  clear tot hs hB2 hB8
  rintro tm g ⟨q8, hF, tot, hs⟩
  clear ds
  obtain ⟨ds, rfl⟩ := hF.open
  clear hF
  unfold F.baizelaw25_TxPays.c4 at hs
  refine CP.ret ?_
  replace hs := Option.some.inj hs
  obtain rfl := hs
  exact NX.fin (v := .bool q8) (Res.still (by kernel_rfl)) tot htL rfl
def F.baizelaw25_TxBounds.c2 (q3 : Bool) : Option (Bool) := (some q3)
def F.baizelaw25_TxBounds.c3 (q6 : Bool) : Option (Bool) := (some q6)
def F.baizelaw25_TxBounds.c1 (x3 : Int) (x4 : Int) (x5 : Int) (l1 : List Int) (l2 : List Int) (q1 : Bool) : Option (Bool) := (if q1 = true then ((F.baizelaw25_known).bind fun q4 => (if q4 = true then ((F.tx_Tx_Check (zA 8) x3 x4 x5 l1 l2).bind fun x7 => (F.baizelaw25_TxBounds.c2 (x7 == 0))) else (F.baizelaw25_TxBounds.c2 false))) else ((F.baizelaw25_known).bind fun q7 => (if q7 = true then ((F.tx_Tx_Check (zA 8) x3 x4 x5 l1 l2).bind fun x9 => (F.baizelaw25_TxBounds.c3 (x9 == 2))) else (F.baizelaw25_TxBounds.c3 false))))
def F.baizelaw25_TxBounds (x1 : Int) (x2 : Int) : Option (Bool) := (if ((x2.tmod 5) == 0) = true then (if decide (x1 ≥ 0) = true then (F.baizelaw25_TxBounds.c1 x1 0 2 ([]) ([]) (decide (x1 ≤ 1099511627776))) else (F.baizelaw25_TxBounds.c1 x1 0 2 ([]) ([]) false)) else (if ((x2.tmod 5) == 1) = true then (if decide (x1 ≥ 0) = true then (F.baizelaw25_TxBounds.c1 0 x1 2 ([]) ([]) (decide (x1 ≤ 1125899906842624))) else (F.baizelaw25_TxBounds.c1 0 x1 2 ([]) ([]) false)) else (if ((x2.tmod 5) == 2) = true then (F.baizelaw25_TxBounds.c1 0 0 (IntKind.i64.wrap (1 + (IntKind.i64.wrap ((IntKind.u64.wrap x1).tmod 9)))) ([]) ([]) (decide ((IntKind.i64.wrap (1 + (IntKind.i64.wrap ((IntKind.u64.wrap x1).tmod 9)))) ≤ 2))) else (if ((x2.tmod 5) == 3) = true then (if (0 : Int) ≤ (IntKind.i64.wrap (32760 + (IntKind.i64.wrap ((IntKind.u64.wrap x1).tmod 20)))) ∧ (IntKind.i64.wrap (32760 + (IntKind.i64.wrap ((IntKind.u64.wrap x1).tmod 20)))) ≤ 140737488355328 then (F.baizelaw25_TxBounds.c1 0 0 2 (List.replicate (IntKind.i64.wrap (32760 + (IntKind.i64.wrap ((IntKind.u64.wrap x1).tmod 20)))).toNat (0 : Int)) ([]) (decide ((IntKind.i64.wrap (32760 + (IntKind.i64.wrap ((IntKind.u64.wrap x1).tmod 20)))) ≤ 32768))) else none) else (if ((x2.tmod 5) == 4) = true then (if (0 : Int) ≤ (IntKind.i64.wrap (1000 + (IntKind.i64.wrap ((IntKind.u64.wrap x1).tmod 50)))) ∧ (IntKind.i64.wrap (1000 + (IntKind.i64.wrap ((IntKind.u64.wrap x1).tmod 50)))) ≤ 140737488355328 then (F.baizelaw25_TxBounds.c1 0 0 2 ([]) (List.replicate (IntKind.i64.wrap (1000 + (IntKind.i64.wrap ((IntKind.u64.wrap x1).tmod 50)))).toNat (0 : Int)) (decide ((IntKind.i64.wrap (1000 + (IntKind.i64.wrap ((IntKind.u64.wrap x1).tmod 50)))) ≤ 1024))) else none) else (F.baizelaw25_TxBounds.c1 0 0 2 ([]) ([]) true))))))
theorem P.baizelaw25_TxBounds (g0 : GW) (x1 : Int) (x2 : Int) (o1 : Bool) (hs : F.baizelaw25_TxBounds x1 x2 = some o1) :
    Calls Try.prog 4 #[.int .i64 x1, .int .u8 x2] g0.w (Ret NoM g0 fun v g => v = .bool o1) := by
  refine calls_of (args := [.int .i64 x1, .int .u8 x2]) Try.func4 rfl (0) ?_
  intro t ht htL
  refine ⟨_, rfl, ?_⟩
  refine CP.refr 78 [(0, .int .i64 x1), (1, .int .u8 x2)] (by kernel_rfl) (by kernel_rfl) ?_
  intro ds
  have tot : Step (fun l => NoM l ∨ t ≤ l) g0 g0 := Step.refl _ _
  unfold F.baizelaw25_TxBounds at hs
  refine CP.seqR ?_
  refine WP.still 1 (by kernel_rfl) ?_
  refine WP.done (by kernel_rfl) ?_
  refine NX.then_n ?_
  refine CP.seqR ?_
  refine WP.buildS (places := #[(0, 8), (8, 1), (9, 1), (10, 1), (11, 1), (12, 1)]) (t := 26) [encA .u8 (zA 8), [.int .i64 0], [.int .i64 0], [.int .i64 0], [.slice none 0 0], [.slice none 0 0]] [8, 1, 1, 1, 1, 1] (by kernel_rfl) (by kernel_rfl) (by simp [len_encA]) (by kernel_rfl) ((.cons (i := 3) (off := 10) (v := .int .i64 2) (mid := [encA .u8 (zA 8), [.int .i64 0], [.int .i64 0], [.int .i64 2], [.slice none 0 0], [.slice none 0 0]]) [[.int .i64 2]] [1] (by kernel_rfl) (by kernel_rfl) rfl (by kernel_rfl) .nil)) ?_
  refine WP.alloc (T := 26) (t + 1) [encA .u8 (zA 8), [.int .i64 0], [.int .i64 0], [.int .i64 0], [.slice none 0 0], [.slice none 0 0]] [8, 1, 1, 1, 1, 1] (by kernel_rfl) (by simp [len_encA]) ?_
  intro g1 b1 st1 hB1
  replace tot := tot.trans st1.pure
  refine WP.storeB (ty := 26) (off := 0) (v := AG [encA .u8 (zA 8), [.int .i64 0], [.int .i64 0], [.int .i64 2], [.slice none 0 0], [.slice none 0 0]]) hB1 [encA .u8 (zA 8), [.int .i64 0], [.int .i64 0], [.int .i64 2], [.slice none 0 0], [.slice none 0 0]] [8, 1, 1, 1, 1, 1] (by kernel_rfl) (by kernel_rfl) (by simp [len_encA]) (by kernel_rfl) [encA .u8 (zA 8), [.int .i64 0], [.int .i64 0], [.int .i64 2], [.slice none 0 0], [.slice none 0 0]] (by kernel_rfl) (.arr (.one rfl (.one rfl (.one rfl (.one rfl (.one rfl .nil)))))) ?_
  intro g2 st2 hB2
  replace tot := tot.trans (st2.up1 (.inr (by omega)))
  clear hB1
  have hB1 := hB2
  clear hB2
  refine WP.done (by kernel_rfl) ?_
  refine NX.then_n ?_
  refine CP.seqR ?_
  refine WP.still 1 (by kernel_rfl) ?_
  refine WP.done (by kernel_rfl) ?_
  refine NX.then_n ?_
  refine CP.cut (fun tm g => ∃ (x3 : Int) (x4 : Int) (x5 : Int) (l1 : List Int) (a3 : Option Addr) (n1 : Nat) (c1 : Nat) (l2 : List Int) (a4 : Option Addr) (n2 : Nat) (c2 : Nat) (q1 : Bool), Fr 78 [(5, .pointer (some ⟨b1, 0, none⟩)), (6, .bool q1)] tm ∧ Step (fun l => NoM l ∨ t ≤ l) g0 g ∧ Box g (t + 1) b1 26 [encA .u8 (zA 8), [.int .i64 x3], [.int .i64 x4], [.int .i64 x5], [.slice a3 n1 c1], [.slice a4 n2 c2]] [8, 1, 1, 1, 1, 1] ∧ OwnS (Kd.int .u8) g (t + 2) 5 a3 n1 c1 l1 ∧ OwnS (Kd.int .u8) g (t + 3) 5 a4 n2 c2 l2 ∧ (F.baizelaw25_TxBounds.c1 x3 x4 x5 l1 l2 q1) = some o1) ?_ ?_
  · refine CP.seqR ?_
    refine WP.still 2 (by kernel_rfl) ?_
    refine WP.done (by kernel_rfl) ?_
    refine NX.then_n ?_
    refine CP.block ?_
    refine CP.seqR ?_
    refine WP.still 2 (by kernel_rfl) ?_
    refine WP.done (by kernel_rfl) ?_
    refine NX.then_n ?_
    refine CP.cond (b := ((x2.tmod 5) == 0)) (by kernel_rfl) (fun h13 => ?_) (fun h13 => ?_)
    · replace hs := of_if_t hs h13
      refine CP.region ?_
      refine WP.still 4 (by kernel_rfl) ?_
      refine WP.guard 15 (b := decide (x1 ≥ 0)) (by kernel_rfl) (fun h14 => ?_) (fun h14 => ?_)
      · replace hs := of_if_t hs h14
        refine WP.still 4 (by kernel_rfl) ?_
        refine WP.storeB (ty := 3) (off := 8) (v := .int .i64 x1) hB1 [[.int .i64 x1]] [1] (by kernel_rfl) (by kernel_rfl) rfl (by kernel_rfl) [encA .u8 (zA 8), [.int .i64 x1], [.int .i64 0], [.int .i64 2], [.slice none 0 0], [.slice none 0 0]] (by kernel_rfl) (.one rfl .nil) ?_
        intro g24 st24 hB10
        replace tot := tot.trans (st24.up1 (.inr (by omega)))
        clear hB1
        have hB1 := hB10
        clear hB10
        refine WP.still 1 (by kernel_rfl) ?_
        refine WP.done (by kernel_rfl) ?_
        refine NX.block_n ?_
        refine NX.post ?_
        exact ⟨x1, 0, 2, [], none, 0, 0, [], none, 0, 0, decide (x1 ≤ 1099511627776), ⟨by kernel_rfl, by kernel_rfl⟩, tot, hB1, (OwnS.nil _ _ _ _), (OwnS.nil _ _ _ _), hs⟩
      replace hs := of_if_f hs h14
      refine WP.still 4 (by kernel_rfl) ?_
      refine WP.storeB (ty := 3) (off := 8) (v := .int .i64 x1) hB1 [[.int .i64 x1]] [1] (by kernel_rfl) (by kernel_rfl) rfl (by kernel_rfl) [encA .u8 (zA 8), [.int .i64 x1], [.int .i64 0], [.int .i64 2], [.slice none 0 0], [.slice none 0 0]] (by kernel_rfl) (.one rfl .nil) ?_
      intro g25 st25 hB11
      replace tot := tot.trans (st25.up1 (.inr (by omega)))
      clear hB1
      have hB1 := hB11
      clear hB11
      refine WP.still 1 (by kernel_rfl) ?_
      refine WP.done (by kernel_rfl) ?_
      refine NX.block_n ?_
      refine NX.post ?_
      exact ⟨x1, 0, 2, [], none, 0, 0, [], none, 0, 0, false, ⟨by kernel_rfl, by kernel_rfl⟩, tot, hB1, (OwnS.nil _ _ _ _), (OwnS.nil _ _ _ _), hs⟩
    replace hs := of_if_f hs h13
    refine CP.seqR ?_
    refine WP.still 2 (by kernel_rfl) ?_
    refine WP.done (by kernel_rfl) ?_
    refine NX.then_n ?_
    refine CP.cond (b := ((x2.tmod 5) == 1)) (by kernel_rfl) (fun h15 => ?_) (fun h15 => ?_)
    · replace hs := of_if_t hs h15
      refine CP.region ?_
      refine WP.still 4 (by kernel_rfl) ?_
      refine WP.guard 25 (b := decide (x1 ≥ 0)) (by kernel_rfl) (fun h16 => ?_) (fun h16 => ?_)
      · replace hs := of_if_t hs h16
        refine WP.still 4 (by kernel_rfl) ?_
        refine WP.storeB (ty := 3) (off := 9) (v := .int .i64 x1) hB1 [[.int .i64 x1]] [1] (by kernel_rfl) (by kernel_rfl) rfl (by kernel_rfl) [encA .u8 (zA 8), [.int .i64 0], [.int .i64 x1], [.int .i64 2], [.slice none 0 0], [.slice none 0 0]] (by kernel_rfl) (.one rfl .nil) ?_
        intro g26 st26 hB12
        replace tot := tot.trans (st26.up1 (.inr (by omega)))
        clear hB1
        have hB1 := hB12
        clear hB12
        refine WP.still 1 (by kernel_rfl) ?_
        refine WP.done (by kernel_rfl) ?_
        refine NX.block_n ?_
        refine NX.post ?_
        exact ⟨0, x1, 2, [], none, 0, 0, [], none, 0, 0, decide (x1 ≤ 1125899906842624), ⟨by kernel_rfl, by kernel_rfl⟩, tot, hB1, (OwnS.nil _ _ _ _), (OwnS.nil _ _ _ _), hs⟩
      replace hs := of_if_f hs h16
      refine WP.still 4 (by kernel_rfl) ?_
      refine WP.storeB (ty := 3) (off := 9) (v := .int .i64 x1) hB1 [[.int .i64 x1]] [1] (by kernel_rfl) (by kernel_rfl) rfl (by kernel_rfl) [encA .u8 (zA 8), [.int .i64 0], [.int .i64 x1], [.int .i64 2], [.slice none 0 0], [.slice none 0 0]] (by kernel_rfl) (.one rfl .nil) ?_
      intro g27 st27 hB13
      replace tot := tot.trans (st27.up1 (.inr (by omega)))
      clear hB1
      have hB1 := hB13
      clear hB13
      refine WP.still 1 (by kernel_rfl) ?_
      refine WP.done (by kernel_rfl) ?_
      refine NX.block_n ?_
      refine NX.post ?_
      exact ⟨0, x1, 2, [], none, 0, 0, [], none, 0, 0, false, ⟨by kernel_rfl, by kernel_rfl⟩, tot, hB1, (OwnS.nil _ _ _ _), (OwnS.nil _ _ _ _), hs⟩
    replace hs := of_if_f hs h15
    refine CP.seqR ?_
    refine WP.still 2 (by kernel_rfl) ?_
    refine WP.done (by kernel_rfl) ?_
    refine NX.then_n ?_
    refine CP.refr 78 [(0, .int .i64 x1), (5, .pointer (some ⟨b1, 0, none⟩)), (6, .bool true), (9, .int .u8 (x2.tmod 5)), (30, .bool ((x2.tmod 5) == 2))] (by kernel_rfl) (by kernel_rfl) ?_
    clear ds
    intro ds
    refine CP.cond (b := ((x2.tmod 5) == 2)) (by kernel_rfl) (fun h17 => ?_) (fun h17 => ?_)
    · replace hs := of_if_t hs h17
      refine CP.seqR ?_
      refine WP.still 6 (by kernel_rfl) ?_
      refine WP.done (by kernel_rfl) ?_
      refine NX.then_n ?_
      refine CP.region ?_
      refine WP.still 4 (by kernel_rfl) ?_
      refine WP.storeB (ty := 3) (off := 10) (v := .int .i64 (IntKind.i64.wrap (1 + (IntKind.i64.wrap ((IntKind.u64.wrap x1).tmod 9))))) hB1 [[.int .i64 (IntKind.i64.wrap (1 + (IntKind.i64.wrap ((IntKind.u64.wrap x1).tmod 9))))]] [1] (by kernel_rfl) (by kernel_rfl) rfl (by kernel_rfl) [encA .u8 (zA 8), [.int .i64 0], [.int .i64 0], [.int .i64 (IntKind.i64.wrap (1 + (IntKind.i64.wrap ((IntKind.u64.wrap x1).tmod 9))))], [.slice none 0 0], [.slice none 0 0]] (by kernel_rfl) (.one rfl .nil) ?_
      intro g28 st28 hB14
      replace tot := tot.trans (st28.up1 (.inr (by omega)))
      clear hB1
      have hB1 := hB14
      clear hB14
      refine WP.still 1 (by kernel_rfl) ?_
      refine WP.done (by kernel_rfl) ?_
      refine NX.block_n ?_
      refine NX.post ?_
      exact ⟨0, 0, (IntKind.i64.wrap (1 + (IntKind.i64.wrap ((IntKind.u64.wrap x1).tmod 9)))), [], none, 0, 0, [], none, 0, 0, decide ((IntKind.i64.wrap (1 + (IntKind.i64.wrap ((IntKind.u64.wrap x1).tmod 9)))) ≤ 2), ⟨by kernel_rfl, by kernel_rfl⟩, tot, hB1, (OwnS.nil _ _ _ _), (OwnS.nil _ _ _ _), hs⟩
    replace hs := of_if_f hs h17
    refine CP.seqR ?_
    refine WP.still 2 (by kernel_rfl) ?_
    refine WP.done (by kernel_rfl) ?_
    refine NX.then_n ?_
    refine CP.cond (b := ((x2.tmod 5) == 3)) (by kernel_rfl) (fun h18 => ?_) (fun h18 => ?_)
    · replace hs := of_if_t hs h18
      refine CP.seqR ?_
      refine WP.still 6 (by kernel_rfl) ?_
      refine WP.done (by kernel_rfl) ?_
      refine NX.then_n ?_
      refine CP.region ?_
      refine WP.still 1 (by kernel_rfl) ?_
      by_cases hc3 : (0 : Int) ≤ (IntKind.i64.wrap (32760 + (IntKind.i64.wrap ((IntKind.u64.wrap x1).tmod 20)))) ∧ (IntKind.i64.wrap (32760 + (IntKind.i64.wrap ((IntKind.u64.wrap x1).tmod 20)))) ≤ 140737488355328
      case neg => rw [if_neg hc3] at hs; cases hs
      replace hs := of_if_p hs hc3
      refine WP.make (kd := (Kd.int .u8)) (t + 4) (t := 24) (e := 5) (bytes := 1) (kl := .i64) (kc := .i64) (i := (IntKind.i64.wrap (32760 + (IntKind.i64.wrap ((IntKind.u64.wrap x1).tmod 20))))) (by kernel_rfl) (by kernel_rfl) (by omega) (by omega) (by omega) (z := 0) (by intro zv hz; cases hz; exact (by exact rfl)) ?_
      intro g29 a5 st29 hR5
      replace hB1 := hB1.mono st29 (fun x => x)
      replace tot := tot.trans st29.pure
      refine WP.still 3 (by kernel_rfl) ?_
      refine WP.storeB (ty := 24) (off := 11) (v := .slice a5 ((IntKind.i64.wrap (32760 + (IntKind.i64.wrap ((IntKind.u64.wrap x1).tmod 20)))).toNat) ((IntKind.i64.wrap (32760 + (IntKind.i64.wrap ((IntKind.u64.wrap x1).tmod 20)))).toNat)) hB1 [[.slice a5 ((IntKind.i64.wrap (32760 + (IntKind.i64.wrap ((IntKind.u64.wrap x1).tmod 20)))).toNat) ((IntKind.i64.wrap (32760 + (IntKind.i64.wrap ((IntKind.u64.wrap x1).tmod 20)))).toNat)]] [1] (by kernel_rfl) (by kernel_rfl) rfl (by kernel_rfl) [encA .u8 (zA 8), [.int .i64 0], [.int .i64 0], [.int .i64 2], [.slice a5 ((IntKind.i64.wrap (32760 + (IntKind.i64.wrap ((IntKind.u64.wrap x1).tmod 20)))).toNat) ((IntKind.i64.wrap (32760 + (IntKind.i64.wrap ((IntKind.u64.wrap x1).tmod 20)))).toNat)], [.slice none 0 0]] (by kernel_rfl) (.one rfl .nil) ?_
      intro g30 st30 hB15
      replace hR5 := hR5.mono st30 (WL.no1 (by omega)) (WL.no1 (by omega))
      replace tot := tot.trans (st30.up1 (.inr (by omega)))
      clear hB1
      have hB1 := hB15
      clear hB15
      refine WP.still 1 (by kernel_rfl) ?_
      refine WP.done (by kernel_rfl) ?_
      refine NX.block_n ?_
      obtain ⟨g31, hw1, st31, hnew⟩ := hR5.relab (by omega) (t + 2)
      refine NX.regw hw1 ?_
      replace hB1 := hB1.mono st31 (WL.no1 (by omega))
      replace tot := tot.trans (st31.up1 (.inr (by omega)))
      clear hR5
      have hR5 := hnew
      clear hnew
      refine NX.post ?_
      exact ⟨0, 0, 2, (List.replicate (IntKind.i64.wrap (32760 + (IntKind.i64.wrap ((IntKind.u64.wrap x1).tmod 20)))).toNat (0 : Int)), a5, (IntKind.i64.wrap (32760 + (IntKind.i64.wrap ((IntKind.u64.wrap x1).tmod 20)))).toNat, (IntKind.i64.wrap (32760 + (IntKind.i64.wrap ((IntKind.u64.wrap x1).tmod 20)))).toNat, [], none, 0, 0, decide ((IntKind.i64.wrap (32760 + (IntKind.i64.wrap ((IntKind.u64.wrap x1).tmod 20)))) ≤ 32768), ⟨by kernel_rfl, by kernel_rfl⟩, tot, hB1, hR5, (OwnS.nil _ _ _ _), hs⟩
    replace hs := of_if_f hs h18
    refine CP.seqR ?_
    refine WP.still 2 (by kernel_rfl) ?_
    refine WP.done (by kernel_rfl) ?_
    refine NX.then_n ?_
    refine CP.cond (b := ((x2.tmod 5) == 4)) (by kernel_rfl) (fun h19 => ?_) (fun h19 => ?_)
    · replace hs := of_if_t hs h19
      refine CP.seqR ?_
      refine WP.still 6 (by kernel_rfl) ?_
      refine WP.done (by kernel_rfl) ?_
      refine NX.then_n ?_
      refine CP.region ?_
      refine WP.still 1 (by kernel_rfl) ?_
      by_cases hc4 : (0 : Int) ≤ (IntKind.i64.wrap (1000 + (IntKind.i64.wrap ((IntKind.u64.wrap x1).tmod 50)))) ∧ (IntKind.i64.wrap (1000 + (IntKind.i64.wrap ((IntKind.u64.wrap x1).tmod 50)))) ≤ 140737488355328
      case neg => rw [if_neg hc4] at hs; cases hs
      replace hs := of_if_p hs hc4
      refine WP.make (kd := (Kd.int .u8)) (t + 5) (t := 24) (e := 5) (bytes := 1) (kl := .i64) (kc := .i64) (i := (IntKind.i64.wrap (1000 + (IntKind.i64.wrap ((IntKind.u64.wrap x1).tmod 50))))) (by kernel_rfl) (by kernel_rfl) (by omega) (by omega) (by omega) (z := 0) (by intro zv hz; cases hz; exact (by exact rfl)) ?_
      intro g32 a6 st32 hR6
      replace hB1 := hB1.mono st32 (fun x => x)
      replace tot := tot.trans st32.pure
      refine WP.still 3 (by kernel_rfl) ?_
      refine WP.storeB (ty := 24) (off := 12) (v := .slice a6 ((IntKind.i64.wrap (1000 + (IntKind.i64.wrap ((IntKind.u64.wrap x1).tmod 50)))).toNat) ((IntKind.i64.wrap (1000 + (IntKind.i64.wrap ((IntKind.u64.wrap x1).tmod 50)))).toNat)) hB1 [[.slice a6 ((IntKind.i64.wrap (1000 + (IntKind.i64.wrap ((IntKind.u64.wrap x1).tmod 50)))).toNat) ((IntKind.i64.wrap (1000 + (IntKind.i64.wrap ((IntKind.u64.wrap x1).tmod 50)))).toNat)]] [1] (by kernel_rfl) (by kernel_rfl) rfl (by kernel_rfl) [encA .u8 (zA 8), [.int .i64 0], [.int .i64 0], [.int .i64 2], [.slice none 0 0], [.slice a6 ((IntKind.i64.wrap (1000 + (IntKind.i64.wrap ((IntKind.u64.wrap x1).tmod 50)))).toNat) ((IntKind.i64.wrap (1000 + (IntKind.i64.wrap ((IntKind.u64.wrap x1).tmod 50)))).toNat)]] (by kernel_rfl) (.one rfl .nil) ?_
      intro g33 st33 hB16
      replace hR6 := hR6.mono st33 (WL.no1 (by omega)) (WL.no1 (by omega))
      replace tot := tot.trans (st33.up1 (.inr (by omega)))
      clear hB1
      have hB1 := hB16
      clear hB16
      refine WP.still 1 (by kernel_rfl) ?_
      refine WP.done (by kernel_rfl) ?_
      refine NX.block_n ?_
      obtain ⟨g34, hw2, st34, hnew⟩ := hR6.relab (by omega) (t + 3)
      refine NX.regw hw2 ?_
      replace hB1 := hB1.mono st34 (WL.no1 (by omega))
      replace tot := tot.trans (st34.up1 (.inr (by omega)))
      clear hR6
      have hR6 := hnew
      clear hnew
      refine NX.post ?_
      exact ⟨0, 0, 2, [], none, 0, 0, (List.replicate (IntKind.i64.wrap (1000 + (IntKind.i64.wrap ((IntKind.u64.wrap x1).tmod 50)))).toNat (0 : Int)), a6, (IntKind.i64.wrap (1000 + (IntKind.i64.wrap ((IntKind.u64.wrap x1).tmod 50)))).toNat, (IntKind.i64.wrap (1000 + (IntKind.i64.wrap ((IntKind.u64.wrap x1).tmod 50)))).toNat, decide ((IntKind.i64.wrap (1000 + (IntKind.i64.wrap ((IntKind.u64.wrap x1).tmod 50)))) ≤ 1024), ⟨by kernel_rfl, by kernel_rfl⟩, tot, hB1, (OwnS.nil _ _ _ _), hR6, hs⟩
    replace hs := of_if_f hs h19
    refine CP.skip ?_
    refine NX.block_n ?_
    refine NX.post ?_
    exact ⟨0, 0, 2, [], none, 0, 0, [], none, 0, 0, true, ⟨by kernel_rfl, by kernel_rfl⟩, tot, hB1, (OwnS.nil _ _ _ _), (OwnS.nil _ _ _ _), hs⟩
  clear tot hs hB1
  rintro tm g ⟨x3, x4, x5, l1, a3, n1, c1, l2, a4, n2, c2, q1, hF, tot, hB1, hR3, hR4, hs⟩
  clear ds
  obtain ⟨ds, rfl⟩ := hF.open
  clear hF
  unfold F.baizelaw25_TxBounds.c1 at hs
  refine CP.seq ?_
  refine CP.seqR ?_
  refine WP.still 1 (by kernel_rfl) ?_
  refine WP.done (by kernel_rfl) ?_
  refine NX.then_n ?_
  refine CP.cond (b := q1) (by kernel_rfl) (fun h8 => ?_) (fun h8 => ?_)
  · replace hs := of_if_t hs h8
    refine CP.cut (fun tm g => ∃ (q3 : Bool), Fr 78 [(4, .bool q3)] tm ∧ Step (fun l => NoM l ∨ t ≤ l) g0 g ∧ (F.baizelaw25_TxBounds.c2 q3) = some o1) ?_ ?_
    · refine CP.region ?_
      replace hs := Option.bind_eq_some_iff.1 hs
      obtain ⟨q4, hk3, hs⟩ := hs
      have hcal3 := P.baizelaw25_known g q4 hk3
      refine WP.callC hcal3 (by kernel_rfl) ?_
      rintro _ g15 st15 rfl
      replace hB1 := hB1.mono st15 (fun x => x)
      replace hR3 := hR3.mono st15 (fun x => x) (fun x => x)
      replace hR4 := hR4.mono st15 (fun x => x) (fun x => x)
      replace tot := tot.trans st15.pure
      refine WP.still 1 (by kernel_rfl) ?_
      refine WP.guard 67 (b := q4) (by kernel_rfl) (fun h10 => ?_) (fun h10 => ?_)
      · replace hs := of_if_t hs h10
        refine WP.loadB (v := AG [encA .u8 (zA 8), [.int .i64 x3], [.int .i64 x4], [.int .i64 x5], [.slice a3 n1 c1], [.slice a4 n2 c2]]) hB1 (by kernel_rfl) (by kernel_rfl) ?_
        replace hs := Option.bind_eq_some_iff.1 hs
        obtain ⟨x7, hk4, hs⟩ := hs
        have hS2 : 0 ∉ ([(t + 2), (t + 3)] : List Nat) := by simp <;> omega
        have stl2 := GW.lend_step g15 [(t + 2), (t + 3)]
        have hRl3 := hR3.lendTo hS2 (by simp)
        have hRl4 := hR4.lendTo hS2 (by simp)
        refine WP.regw (g' := GW.lend g15 [(t + 2), (t + 3)]) rfl ?_
        have hcal4 := P.tx_Tx_Check (GW.lend g15 [(t + 2), (t + 3)]) (zA 8) x3 x4 x5 l1 l2 a3 n1 c1 a4 n2 c2 hRl3 hRl4 x7 hk4
        refine WP.callC hcal4 (by kernel_rfl) ?_
        rintro _ g16 st16 rfl
        have st17 := (GW.back_step st16).lentS
        have hO3 := hR3.backTo hS2 (by simp) st16 (fun x => x)
        have hO4 := hR4.backTo hS2 (by simp) st16 (fun x => x)
        refine WP.regw (g' := GW.back g15 g16 [(t + 2), (t + 3)]) rfl ?_
        generalize GW.back g15 g16 [(t + 2), (t + 3)] = g17 at *
        replace hB1 := hB1.mono st17 (WL.no2 (by omega) (by omega))
        replace tot := tot.trans (st17.up2 (.inr (by omega)) (.inr (by omega)))
        clear hR3
        have hR3 : OwnS (Kd.int .u8) g17 (t + 2) 5 a3 n1 c1 l1 := hO3
        clear hO3
        clear hR4
        have hR4 : OwnS (Kd.int .u8) g17 (t + 3) 5 a4 n2 c2 l2 := hO4
        clear hO4
        refine WP.still 3 (by kernel_rfl) ?_
        refine WP.done (by kernel_rfl) ?_
        refine NX.post ?_
        exact ⟨(x7 == 0), ⟨by kernel_rfl, by kernel_rfl⟩, tot, hs⟩
      replace hs := of_if_f hs h10
      refine WP.still 5 (by kernel_rfl) ?_
      refine WP.done (by kernel_rfl) ?_
      refine NX.post ?_
      exact ⟨false, ⟨by kernel_rfl, by kernel_rfl⟩, tot, hs⟩
    clear tot hs hB1 hR3 hR4
    rintro tm g ⟨q3, hF, tot, hs⟩
    clear ds
    obtain ⟨ds, rfl⟩ := hF.open
    clear hF
    unfold F.baizelaw25_TxBounds.c2 at hs
    refine CP.ret ?_
    refine NX.then_r ?_
    replace hs := Option.some.inj hs
    obtain rfl := hs
    exact NX.fin (v := .bool q3) (Res.still (by kernel_rfl)) tot htL rfl
  replace hs := of_if_f hs h8
  refine CP.skip ?_
  refine NX.then_n ?_
  refine CP.cut (fun tm g => ∃ (q6 : Bool), Fr 78 [(4, .bool q6)] tm ∧ Step (fun l => NoM l ∨ t ≤ l) g0 g ∧ (F.baizelaw25_TxBounds.c3 q6) = some o1) ?_ ?_
  · refine CP.region ?_
    replace hs := Option.bind_eq_some_iff.1 hs
    obtain ⟨q7, hk7, hs⟩ := hs
    have hcal7 := P.baizelaw25_known g q7 hk7
    refine WP.callC hcal7 (by kernel_rfl) ?_
    rintro _ g21 st21 rfl
    replace hB1 := hB1.mono st21 (fun x => x)
    replace hR3 := hR3.mono st21 (fun x => x) (fun x => x)
    replace hR4 := hR4.mono st21 (fun x => x) (fun x => x)
    replace tot := tot.trans st21.pure
    refine WP.still 1 (by kernel_rfl) ?_
    refine WP.guard 73 (b := q7) (by kernel_rfl) (fun h12 => ?_) (fun h12 => ?_)
    · replace hs := of_if_t hs h12
      refine WP.loadB (v := AG [encA .u8 (zA 8), [.int .i64 x3], [.int .i64 x4], [.int .i64 x5], [.slice a3 n1 c1], [.slice a4 n2 c2]]) hB1 (by kernel_rfl) (by kernel_rfl) ?_
      replace hs := Option.bind_eq_some_iff.1 hs
      obtain ⟨x9, hk8, hs⟩ := hs
      have hS4 : 0 ∉ ([(t + 2), (t + 3)] : List Nat) := by simp <;> omega
      have stl4 := GW.lend_step g21 [(t + 2), (t + 3)]
      have hRl7 := hR3.lendTo hS4 (by simp)
      have hRl8 := hR4.lendTo hS4 (by simp)
      refine WP.regw (g' := GW.lend g21 [(t + 2), (t + 3)]) rfl ?_
      have hcal8 := P.tx_Tx_Check (GW.lend g21 [(t + 2), (t + 3)]) (zA 8) x3 x4 x5 l1 l2 a3 n1 c1 a4 n2 c2 hRl7 hRl8 x9 hk8
      refine WP.callC hcal8 (by kernel_rfl) ?_
      rintro _ g22 st22 rfl
      have st23 := (GW.back_step st22).lentS
      have hO7 := hR3.backTo hS4 (by simp) st22 (fun x => x)
      have hO8 := hR4.backTo hS4 (by simp) st22 (fun x => x)
      refine WP.regw (g' := GW.back g21 g22 [(t + 2), (t + 3)]) rfl ?_
      generalize GW.back g21 g22 [(t + 2), (t + 3)] = g23 at *
      replace hB1 := hB1.mono st23 (WL.no2 (by omega) (by omega))
      replace tot := tot.trans (st23.up2 (.inr (by omega)) (.inr (by omega)))
      clear hR3
      have hR3 : OwnS (Kd.int .u8) g23 (t + 2) 5 a3 n1 c1 l1 := hO7
      clear hO7
      clear hR4
      have hR4 : OwnS (Kd.int .u8) g23 (t + 3) 5 a4 n2 c2 l2 := hO8
      clear hO8
      refine WP.still 3 (by kernel_rfl) ?_
      refine WP.done (by kernel_rfl) ?_
      refine NX.post ?_
      exact ⟨(x9 == 2), ⟨by kernel_rfl, by kernel_rfl⟩, tot, hs⟩
    replace hs := of_if_f hs h12
    refine WP.still 5 (by kernel_rfl) ?_
    refine WP.done (by kernel_rfl) ?_
    refine NX.post ?_
    exact ⟨false, ⟨by kernel_rfl, by kernel_rfl⟩, tot, hs⟩
  clear tot hs hB1 hR3 hR4
  rintro tm g ⟨q6, hF, tot, hs⟩
  clear ds
  obtain ⟨ds, rfl⟩ := hF.open
  clear hF
  unfold F.baizelaw25_TxBounds.c3 at hs
  refine CP.ret ?_
  replace hs := Option.some.inj hs
  obtain rfl := hs
  exact NX.fin (v := .bool q6) (Res.still (by kernel_rfl)) tot htL rfl
def F.baizeref25_Same.c1 (q3 : Bool) : Option (Bool) := (some q3)
def F.baizeref25_Same (d1 : Arr Int 8) (x1 : Int) (x2 : Int) (x3 : Int) (l1 : List Int) (l2 : List Int) (d2 : Arr Int 8) (x4 : Int) (x5 : Int) (x6 : Int) (l3 : List Int) (l4 : List Int) : Option (Bool) := (if (d1.1 == d2.1) = true then (if (x1 == x4) = true then (if (x2 == x5) = true then (if (x3 == x6) = true then ((F.baizeref01_Same l1 l3).bind fun q4 => (if q4 = true then ((F.baizeref01_Same l2 l4).bind fun q5 => (F.baizeref25_Same.c1 q5)) else (F.baizeref25_Same.c1 false))) else (F.baizeref25_Same.c1 false)) else (F.baizeref25_Same.c1 false)) else (F.baizeref25_Same.c1 false)) else (F.baizeref25_Same.c1 false))
theorem P.baizeref25_Same (g0 : GW) (d1 : Arr Int 8) (x1 : Int) (x2 : Int) (x3 : Int) (l1 : List Int) (l2 : List Int) (d2 : Arr Int 8) (x4 : Int) (x5 : Int) (x6 : Int) (l3 : List Int) (l4 : List Int) (a1 : Option Addr) (n1 : Nat) (c1 : Nat) (a2 : Option Addr) (n2 : Nat) (c2 : Nat) (a3 : Option Addr) (n3 : Nat) (c3 : Nat) (a4 : Option Addr) (n4 : Nat) (c4 : Nat) (hR1 : RdS (Kd.int .u8) g0 5 a1 n1 c1 l1) (hR2 : RdS (Kd.int .u8) g0 5 a2 n2 c2 l2) (hR3 : RdS (Kd.int .u8) g0 5 a3 n3 c3 l3) (hR4 : RdS (Kd.int .u8) g0 5 a4 n4 c4 l4) (o1 : Bool) (hs : F.baizeref25_Same d1 x1 x2 x3 l1 l2 d2 x4 x5 x6 l3 l4 = some o1) :
    Calls Try.prog 19 #[AG [encA .u8 d1, [.int .i64 x1], [.int .i64 x2], [.int .i64 x3], [.slice a1 n1 c1], [.slice a2 n2 c2]], AG [encA .u8 d2, [.int .i64 x4], [.int .i64 x5], [.int .i64 x6], [.slice a3 n3 c3], [.slice a4 n4 c4]]] g0.w (Ret NoM g0 fun v g => v = .bool o1) := by
  refine calls_of (args := [AG [encA .u8 d1, [.int .i64 x1], [.int .i64 x2], [.int .i64 x3], [.slice a1 n1 c1], [.slice a2 n2 c2]], AG [encA .u8 d2, [.int .i64 x4], [.int .i64 x5], [.int .i64 x6], [.slice a3 n3 c3], [.slice a4 n4 c4]]]) Try.func19 rfl (0) ?_
  intro t ht htL
  refine ⟨_, rfl, ?_⟩
  refine CP.refr 45 [(0, AG [encA .u8 d1, [.int .i64 x1], [.int .i64 x2], [.int .i64 x3], [.slice a1 n1 c1], [.slice a2 n2 c2]]), (1, AG [encA .u8 d2, [.int .i64 x4], [.int .i64 x5], [.int .i64 x6], [.slice a3 n3 c3], [.slice a4 n4 c4]])] (by kernel_rfl) (by kernel_rfl) ?_
  intro ds
  have tot : Step (fun l => NoM l ∨ t ≤ l) g0 g0 := Step.refl _ _
  unfold F.baizeref25_Same at hs
  refine CP.seqR ?_
  refine WP.alloc (T := 34) (t + 1) [encA .u8 d1, [.int .i64 x1], [.int .i64 x2], [.int .i64 x3], [.slice a1 n1 c1], [.slice a2 n2 c2]] [8, 1, 1, 1, 1, 1] (by kernel_rfl) (by simp [len_encA]) ?_
  intro g1 b1 st1 hB1
  replace hR1 := hR1.mono st1 (fun x => x)
  replace hR2 := hR2.mono st1 (fun x => x)
  replace hR3 := hR3.mono st1 (fun x => x)
  replace hR4 := hR4.mono st1 (fun x => x)
  replace tot := tot.trans st1.pure
  refine WP.alloc (T := 34) (t + 2) [encA .u8 d2, [.int .i64 x4], [.int .i64 x5], [.int .i64 x6], [.slice a3 n3 c3], [.slice a4 n4 c4]] [8, 1, 1, 1, 1, 1] (by kernel_rfl) (by simp [len_encA]) ?_
  intro g2 b2 st2 hB2
  replace hR1 := hR1.mono st2 (fun x => x)
  replace hR2 := hR2.mono st2 (fun x => x)
  replace hR3 := hR3.mono st2 (fun x => x)
  replace hR4 := hR4.mono st2 (fun x => x)
  replace hB1 := hB1.mono st2 (fun x => x)
  replace tot := tot.trans st2.pure
  refine WP.still 1 (by kernel_rfl) ?_
  refine WP.done (by kernel_rfl) ?_
  refine NX.then_n ?_
  refine CP.cut (fun tm g => ∃ (q3 : Bool), Fr 45 [(4, .bool q3)] tm ∧ Step (fun l => NoM l ∨ t ≤ l) g0 g ∧ (F.baizeref25_Same.c1 q3) = some o1) ?_ ?_
  · refine CP.region ?_
    refine WP.still 1 (by kernel_rfl) ?_
    refine WP.loadB (v := AG [encA .u8 d1]) hB1 (by kernel_rfl) (by kernel_rfl) ?_
    refine WP.still 1 (by kernel_rfl) ?_
    refine WP.loadB (v := AG [encA .u8 d2]) hB2 (by kernel_rfl) (by kernel_rfl) ?_
    refine WP.eqV (by kernel_rfl) (by kernel_rfl) (EqV.arr (d := 9998) (t := 22) (e := 5) (m := 8) (k := .u8) (x := d1) (y := d2) (by kernel_rfl) (by kernel_rfl)) ?_
    refine WP.still 1 (by kernel_rfl) ?_
    refine WP.guard 10 (b := (d1.1 == d2.1)) (by kernel_rfl) (fun h6 => ?_) (fun h6 => ?_)
    · replace hs := of_if_t hs h6
      refine WP.still 1 (by kernel_rfl) ?_
      refine WP.loadB (v := .int .i64 x1) hB1 (by kernel_rfl) (by kernel_rfl) ?_
      refine WP.still 1 (by kernel_rfl) ?_
      refine WP.loadB (v := .int .i64 x4) hB2 (by kernel_rfl) (by kernel_rfl) ?_
      refine WP.still 3 (by kernel_rfl) ?_
      refine WP.guard 17 (b := (x1 == x4)) (by kernel_rfl) (fun h7 => ?_) (fun h7 => ?_)
      · replace hs := of_if_t hs h7
        refine WP.still 1 (by kernel_rfl) ?_
        refine WP.loadB (v := .int .i64 x2) hB1 (by kernel_rfl) (by kernel_rfl) ?_
        refine WP.still 1 (by kernel_rfl) ?_
        refine WP.loadB (v := .int .i64 x5) hB2 (by kernel_rfl) (by kernel_rfl) ?_
        refine WP.still 3 (by kernel_rfl) ?_
        refine WP.guard 24 (b := (x2 == x5)) (by kernel_rfl) (fun h8 => ?_) (fun h8 => ?_)
        · replace hs := of_if_t hs h8
          refine WP.still 1 (by kernel_rfl) ?_
          refine WP.loadB (v := .int .i64 x3) hB1 (by kernel_rfl) (by kernel_rfl) ?_
          refine WP.still 1 (by kernel_rfl) ?_
          refine WP.loadB (v := .int .i64 x6) hB2 (by kernel_rfl) (by kernel_rfl) ?_
          refine WP.still 3 (by kernel_rfl) ?_
          refine WP.guard 31 (b := (x3 == x6)) (by kernel_rfl) (fun h9 => ?_) (fun h9 => ?_)
          · replace hs := of_if_t hs h9
            refine WP.still 1 (by kernel_rfl) ?_
            refine WP.loadB (v := .slice a1 n1 c1) hB1 (by kernel_rfl) (by kernel_rfl) ?_
            refine WP.still 1 (by kernel_rfl) ?_
            refine WP.loadB (v := .slice a3 n3 c3) hB2 (by kernel_rfl) (by kernel_rfl) ?_
            replace hs := Option.bind_eq_some_iff.1 hs
            obtain ⟨q4, hk3, hs⟩ := hs
            have hcal3 := P.baizeref01_Same g2 l1 l3 a1 n1 c1 a3 n3 c3 hR1 hR3 q4 hk3
            refine WP.callC hcal3 (by kernel_rfl) ?_
            rintro _ g5 st5 rfl
            replace hB1 := hB1.mono st5 (fun x => x)
            replace hR1 := hR1.mono st5 (fun x => x)
            replace hR2 := hR2.mono st5 (fun x => x)
            replace hB2 := hB2.mono st5 (fun x => x)
            replace hR3 := hR3.mono st5 (fun x => x)
            replace hR4 := hR4.mono st5 (fun x => x)
            replace tot := tot.trans st5.pure
            refine WP.still 2 (by kernel_rfl) ?_
            refine WP.guard 38 (b := q4) (by kernel_rfl) (fun h10 => ?_) (fun h10 => ?_)
            · replace hs := of_if_t hs h10
              refine WP.still 1 (by kernel_rfl) ?_
              refine WP.loadB (v := .slice a2 n2 c2) hB1 (by kernel_rfl) (by kernel_rfl) ?_
              refine WP.still 1 (by kernel_rfl) ?_
              refine WP.loadB (v := .slice a4 n4 c4) hB2 (by kernel_rfl) (by kernel_rfl) ?_
              replace hs := Option.bind_eq_some_iff.1 hs
              obtain ⟨q5, hk4, hs⟩ := hs
              have hcal4 := P.baizeref01_Same g5 l2 l4 a2 n2 c2 a4 n4 c4 hR2 hR4 q5 hk4
              refine WP.callC hcal4 (by kernel_rfl) ?_
              rintro _ g6 st6 rfl
              replace hB1 := hB1.mono st6 (fun x => x)
              replace hR1 := hR1.mono st6 (fun x => x)
              replace hR2 := hR2.mono st6 (fun x => x)
              replace hB2 := hB2.mono st6 (fun x => x)
              replace hR3 := hR3.mono st6 (fun x => x)
              replace hR4 := hR4.mono st6 (fun x => x)
              replace tot := tot.trans st6.pure
              refine WP.still 2 (by kernel_rfl) ?_
              refine WP.done (by kernel_rfl) ?_
              refine NX.post ?_
              exact ⟨q5, ⟨by kernel_rfl, by kernel_rfl⟩, tot, hs⟩
            replace hs := of_if_f hs h10
            refine WP.still 7 (by kernel_rfl) ?_
            refine WP.done (by kernel_rfl) ?_
            refine NX.post ?_
            exact ⟨false, ⟨by kernel_rfl, by kernel_rfl⟩, tot, hs⟩
          replace hs := of_if_f hs h9
          refine WP.still 14 (by kernel_rfl) ?_
          refine WP.done (by kernel_rfl) ?_
          refine NX.post ?_
          exact ⟨false, ⟨by kernel_rfl, by kernel_rfl⟩, tot, hs⟩
        replace hs := of_if_f hs h8
        refine WP.still 21 (by kernel_rfl) ?_
        refine WP.done (by kernel_rfl) ?_
        refine NX.post ?_
        exact ⟨false, ⟨by kernel_rfl, by kernel_rfl⟩, tot, hs⟩
      replace hs := of_if_f hs h7
      refine WP.still 28 (by kernel_rfl) ?_
      refine WP.done (by kernel_rfl) ?_
      refine NX.post ?_
      exact ⟨false, ⟨by kernel_rfl, by kernel_rfl⟩, tot, hs⟩
    replace hs := of_if_f hs h6
    refine WP.still 35 (by kernel_rfl) ?_
    refine WP.done (by kernel_rfl) ?_
    refine NX.post ?_
    exact ⟨false, ⟨by kernel_rfl, by kernel_rfl⟩, tot, hs⟩
  clear tot hs hB1 hR1 hR2 hB2 hR3 hR4
  rintro tm g ⟨q3, hF, tot, hs⟩
  clear ds
  obtain ⟨ds, rfl⟩ := hF.open
  clear hF
  unfold F.baizeref25_Same.c1 at hs
  refine CP.ret ?_
  replace hs := Option.some.inj hs
  obtain rfl := hs
  exact NX.fin (v := .bool q3) (Res.still (by kernel_rfl)) tot htL rfl
def F.bytes_Equal (l1 : List Int) (l2 : List Int) : Option (Bool) := (some ((bytesStr l1).toList == (bytesStr l2).toList))
theorem P.bytes_Equal (g0 : GW) (l1 : List Int) (l2 : List Int) (a1 : Option Addr) (n1 : Nat) (c1 : Nat) (a2 : Option Addr) (n2 : Nat) (c2 : Nat) (hR1 : RdS (Kd.int .u8) g0 5 a1 n1 c1 l1) (hR2 : RdS (Kd.int .u8) g0 5 a2 n2 c2 l2) (o1 : Bool) (hs : F.bytes_Equal l1 l2 = some o1) :
    Calls Try.prog 45 #[.slice a1 n1 c1, .slice a2 n2 c2] g0.w (Ret NoM g0 fun v g => v = .bool o1) := by
  refine calls_of (args := [.slice a1 n1 c1, .slice a2 n2 c2]) Try.func45 rfl (0) ?_
  intro t ht htL
  refine ⟨_, rfl, ?_⟩
  refine CP.refr 10 [(0, .slice a1 n1 c1), (1, .slice a2 n2 c2)] (by kernel_rfl) (by kernel_rfl) ?_
  intro ds
  have tot : Step (fun l => NoM l ∨ t ≤ l) g0 g0 := Step.refl _ _
  unfold F.bytes_Equal at hs
  refine CP.seqR ?_
  refine WP.still 1 (by kernel_rfl) ?_
  refine WP.done (by kernel_rfl) ?_
  refine NX.then_n ?_
  refine CP.seqR ?_
  refine WP.still 1 (by kernel_rfl) ?_
  refine WP.toStr (a := a1) (cp := c1) hR1.src hR1.len (by kernel_rfl) ?_
  refine WP.still 1 (by kernel_rfl) ?_
  refine WP.toStr (a := a2) (cp := c2) hR2.src hR2.len (by kernel_rfl) ?_
  refine WP.still 2 (by kernel_rfl) ?_
  refine WP.done (by kernel_rfl) ?_
  refine NX.then_n ?_
  refine CP.ret ?_
  replace hs := Option.some.inj hs
  obtain rfl := hs
  exact NX.fin (v := .bool ((bytesStr l1).toList == (bytesStr l2).toList)) (Res.still (by kernel_rfl)) tot htL rfl
def F.tx_Tx_Same.c2 (q4 : Bool) : Option (Bool) := (some q4)
def F.tx_Tx_Same.c1 (l1 : List Int) (l2 : List Int) (l3 : List Int) (l4 : List Int) (q1 : Bool) : Option (Bool) := (if q1 = true then ((F.bytes_Equal l1 l3).bind fun q5 => (if q5 = true then ((F.bytes_Equal l2 l4).bind fun q6 => (F.tx_Tx_Same.c2 q6)) else (F.tx_Tx_Same.c2 false))) else (F.tx_Tx_Same.c2 false))
def F.tx_Tx_Same (d1 : Arr Int 8) (x1 : Int) (x2 : Int) (x3 : Int) (l1 : List Int) (l2 : List Int) (d2 : Arr Int 8) (x4 : Int) (x5 : Int) (x6 : Int) (l3 : List Int) (l4 : List Int) : Option (Bool) := (if (d1.1 == d2.1) = true then (if (x1 == x4) = true then (if (x2 == x5) = true then (F.tx_Tx_Same.c1 l1 l2 l3 l4 (x3 == x6)) else (F.tx_Tx_Same.c1 l1 l2 l3 l4 false)) else (F.tx_Tx_Same.c1 l1 l2 l3 l4 false)) else (F.tx_Tx_Same.c1 l1 l2 l3 l4 false))
theorem P.tx_Tx_Same (g0 : GW) (d1 : Arr Int 8) (x1 : Int) (x2 : Int) (x3 : Int) (l1 : List Int) (l2 : List Int) (d2 : Arr Int 8) (x4 : Int) (x5 : Int) (x6 : Int) (l3 : List Int) (l4 : List Int) (a1 : Option Addr) (n1 : Nat) (c1 : Nat) (a2 : Option Addr) (n2 : Nat) (c2 : Nat) (a3 : Option Addr) (n3 : Nat) (c3 : Nat) (a4 : Option Addr) (n4 : Nat) (c4 : Nat) (hR1 : RdS (Kd.int .u8) g0 5 a1 n1 c1 l1) (hR2 : RdS (Kd.int .u8) g0 5 a2 n2 c2 l2) (hR3 : RdS (Kd.int .u8) g0 5 a3 n3 c3 l3) (hR4 : RdS (Kd.int .u8) g0 5 a4 n4 c4 l4) (o1 : Bool) (hs : F.tx_Tx_Same d1 x1 x2 x3 l1 l2 d2 x4 x5 x6 l3 l4 = some o1) :
    Calls Try.prog 21 #[AG [encA .u8 d1, [.int .i64 x1], [.int .i64 x2], [.int .i64 x3], [.slice a1 n1 c1], [.slice a2 n2 c2]], AG [encA .u8 d2, [.int .i64 x4], [.int .i64 x5], [.int .i64 x6], [.slice a3 n3 c3], [.slice a4 n4 c4]]] g0.w (Ret NoM g0 fun v g => v = .bool o1) := by
  refine calls_of (args := [AG [encA .u8 d1, [.int .i64 x1], [.int .i64 x2], [.int .i64 x3], [.slice a1 n1 c1], [.slice a2 n2 c2]], AG [encA .u8 d2, [.int .i64 x4], [.int .i64 x5], [.int .i64 x6], [.slice a3 n3 c3], [.slice a4 n4 c4]]]) Try.func21 rfl (0) ?_
  intro t ht htL
  refine ⟨_, rfl, ?_⟩
  refine CP.refr 47 [(0, AG [encA .u8 d1, [.int .i64 x1], [.int .i64 x2], [.int .i64 x3], [.slice a1 n1 c1], [.slice a2 n2 c2]]), (1, AG [encA .u8 d2, [.int .i64 x4], [.int .i64 x5], [.int .i64 x6], [.slice a3 n3 c3], [.slice a4 n4 c4]])] (by kernel_rfl) (by kernel_rfl) ?_
  intro ds
  have tot : Step (fun l => NoM l ∨ t ≤ l) g0 g0 := Step.refl _ _
  unfold F.tx_Tx_Same at hs
  refine CP.seqR ?_
  refine WP.alloc (T := 26) (t + 1) [encA .u8 d1, [.int .i64 x1], [.int .i64 x2], [.int .i64 x3], [.slice a1 n1 c1], [.slice a2 n2 c2]] [8, 1, 1, 1, 1, 1] (by kernel_rfl) (by simp [len_encA]) ?_
  intro g1 b1 st1 hB1
  replace hR1 := hR1.mono st1 (fun x => x)
  replace hR2 := hR2.mono st1 (fun x => x)
  replace hR3 := hR3.mono st1 (fun x => x)
  replace hR4 := hR4.mono st1 (fun x => x)
  replace tot := tot.trans st1.pure
  refine WP.alloc (T := 26) (t + 2) [encA .u8 d2, [.int .i64 x4], [.int .i64 x5], [.int .i64 x6], [.slice a3 n3 c3], [.slice a4 n4 c4]] [8, 1, 1, 1, 1, 1] (by kernel_rfl) (by simp [len_encA]) ?_
  intro g2 b2 st2 hB2
  replace hR1 := hR1.mono st2 (fun x => x)
  replace hR2 := hR2.mono st2 (fun x => x)
  replace hR3 := hR3.mono st2 (fun x => x)
  replace hR4 := hR4.mono st2 (fun x => x)
  replace hB1 := hB1.mono st2 (fun x => x)
  replace tot := tot.trans st2.pure
  refine WP.still 1 (by kernel_rfl) ?_
  refine WP.done (by kernel_rfl) ?_
  refine NX.then_n ?_
  refine CP.cut (fun tm g => ∃ (q1 : Bool), Fr 47 [(2, .pointer (some ⟨b1, 0, none⟩)), (3, .pointer (some ⟨b2, 0, none⟩)), (5, .bool q1)] tm ∧ Step (fun l => NoM l ∨ t ≤ l) g0 g ∧ Box g (t + 1) b1 26 [encA .u8 d1, [.int .i64 x1], [.int .i64 x2], [.int .i64 x3], [.slice a1 n1 c1], [.slice a2 n2 c2]] [8, 1, 1, 1, 1, 1] ∧ RdS (Kd.int .u8) g 5 a1 n1 c1 l1 ∧ RdS (Kd.int .u8) g 5 a2 n2 c2 l2 ∧ Box g (t + 2) b2 26 [encA .u8 d2, [.int .i64 x4], [.int .i64 x5], [.int .i64 x6], [.slice a3 n3 c3], [.slice a4 n4 c4]] [8, 1, 1, 1, 1, 1] ∧ RdS (Kd.int .u8) g 5 a3 n3 c3 l3 ∧ RdS (Kd.int .u8) g 5 a4 n4 c4 l4 ∧ (F.tx_Tx_Same.c1 l1 l2 l3 l4 q1) = some o1) ?_ ?_
  · refine CP.region ?_
    refine WP.still 1 (by kernel_rfl) ?_
    refine WP.loadB (v := AG [encA .u8 d1]) hB1 (by kernel_rfl) (by kernel_rfl) ?_
    refine WP.still 1 (by kernel_rfl) ?_
    refine WP.loadB (v := AG [encA .u8 d2]) hB2 (by kernel_rfl) (by kernel_rfl) ?_
    refine WP.eqV (by kernel_rfl) (by kernel_rfl) (EqV.arr (d := 9998) (t := 23) (e := 5) (m := 8) (k := .u8) (x := d1) (y := d2) (by kernel_rfl) (by kernel_rfl)) ?_
    refine WP.still 1 (by kernel_rfl) ?_
    refine WP.guard 11 (b := (d1.1 == d2.1)) (by kernel_rfl) (fun h8 => ?_) (fun h8 => ?_)
    · replace hs := of_if_t hs h8
      refine WP.still 1 (by kernel_rfl) ?_
      refine WP.loadB (v := .int .i64 x1) hB1 (by kernel_rfl) (by kernel_rfl) ?_
      refine WP.still 1 (by kernel_rfl) ?_
      refine WP.loadB (v := .int .i64 x4) hB2 (by kernel_rfl) (by kernel_rfl) ?_
      refine WP.still 3 (by kernel_rfl) ?_
      refine WP.guard 18 (b := (x1 == x4)) (by kernel_rfl) (fun h9 => ?_) (fun h9 => ?_)
      · replace hs := of_if_t hs h9
        refine WP.still 1 (by kernel_rfl) ?_
        refine WP.loadB (v := .int .i64 x2) hB1 (by kernel_rfl) (by kernel_rfl) ?_
        refine WP.still 1 (by kernel_rfl) ?_
        refine WP.loadB (v := .int .i64 x5) hB2 (by kernel_rfl) (by kernel_rfl) ?_
        refine WP.still 3 (by kernel_rfl) ?_
        refine WP.guard 25 (b := (x2 == x5)) (by kernel_rfl) (fun h10 => ?_) (fun h10 => ?_)
        · replace hs := of_if_t hs h10
          refine WP.still 1 (by kernel_rfl) ?_
          refine WP.loadB (v := .int .i64 x3) hB1 (by kernel_rfl) (by kernel_rfl) ?_
          refine WP.still 1 (by kernel_rfl) ?_
          refine WP.loadB (v := .int .i64 x6) hB2 (by kernel_rfl) (by kernel_rfl) ?_
          refine WP.still 3 (by kernel_rfl) ?_
          refine WP.done (by kernel_rfl) ?_
          refine NX.post ?_
          exact ⟨(x3 == x6), ⟨by kernel_rfl, by kernel_rfl⟩, tot, hB1, hR1, hR2, hB2, hR3, hR4, hs⟩
        replace hs := of_if_f hs h10
        refine WP.still 7 (by kernel_rfl) ?_
        refine WP.done (by kernel_rfl) ?_
        refine NX.post ?_
        exact ⟨false, ⟨by kernel_rfl, by kernel_rfl⟩, tot, hB1, hR1, hR2, hB2, hR3, hR4, hs⟩
      replace hs := of_if_f hs h9
      refine WP.still 14 (by kernel_rfl) ?_
      refine WP.done (by kernel_rfl) ?_
      refine NX.post ?_
      exact ⟨false, ⟨by kernel_rfl, by kernel_rfl⟩, tot, hB1, hR1, hR2, hB2, hR3, hR4, hs⟩
    replace hs := of_if_f hs h8
    refine WP.still 21 (by kernel_rfl) ?_
    refine WP.done (by kernel_rfl) ?_
    refine NX.post ?_
    exact ⟨false, ⟨by kernel_rfl, by kernel_rfl⟩, tot, hB1, hR1, hR2, hB2, hR3, hR4, hs⟩
  clear tot hs hB1 hR1 hR2 hB2 hR3 hR4
  rintro tm g ⟨q1, hF, tot, hB1, hR1, hR2, hB2, hR3, hR4, hs⟩
  clear ds
  obtain ⟨ds, rfl⟩ := hF.open
  clear hF
  unfold F.tx_Tx_Same.c1 at hs
  refine CP.cut (fun tm g => ∃ (q4 : Bool), Fr 47 [(4, .bool q4)] tm ∧ Step (fun l => NoM l ∨ t ≤ l) g0 g ∧ (F.tx_Tx_Same.c2 q4) = some o1) ?_ ?_
  · refine CP.region ?_
    refine WP.still 2 (by kernel_rfl) ?_
    refine WP.guard 33 (b := q1) (by kernel_rfl) (fun h6 => ?_) (fun h6 => ?_)
    · replace hs := of_if_t hs h6
      refine WP.still 1 (by kernel_rfl) ?_
      refine WP.loadB (v := .slice a1 n1 c1) hB1 (by kernel_rfl) (by kernel_rfl) ?_
      refine WP.still 1 (by kernel_rfl) ?_
      refine WP.loadB (v := .slice a3 n3 c3) hB2 (by kernel_rfl) (by kernel_rfl) ?_
      replace hs := Option.bind_eq_some_iff.1 hs
      obtain ⟨q5, hk3, hs⟩ := hs
      have hcal3 := P.bytes_Equal g l1 l3 a1 n1 c1 a3 n3 c3 hR1 hR3 q5 hk3
      refine WP.callC hcal3 (by kernel_rfl) ?_
      rintro _ g5 st5 rfl
      replace hB1 := hB1.mono st5 (fun x => x)
      replace hR1 := hR1.mono st5 (fun x => x)
      replace hR2 := hR2.mono st5 (fun x => x)
      replace hB2 := hB2.mono st5 (fun x => x)
      replace hR3 := hR3.mono st5 (fun x => x)
      replace hR4 := hR4.mono st5 (fun x => x)
      replace tot := tot.trans st5.pure
      refine WP.still 2 (by kernel_rfl) ?_
      refine WP.guard 40 (b := q5) (by kernel_rfl) (fun h7 => ?_) (fun h7 => ?_)
      · replace hs := of_if_t hs h7
        refine WP.still 1 (by kernel_rfl) ?_
        refine WP.loadB (v := .slice a2 n2 c2) hB1 (by kernel_rfl) (by kernel_rfl) ?_
        refine WP.still 1 (by kernel_rfl) ?_
        refine WP.loadB (v := .slice a4 n4 c4) hB2 (by kernel_rfl) (by kernel_rfl) ?_
        replace hs := Option.bind_eq_some_iff.1 hs
        obtain ⟨q6, hk4, hs⟩ := hs
        have hcal4 := P.bytes_Equal g5 l2 l4 a2 n2 c2 a4 n4 c4 hR2 hR4 q6 hk4
        refine WP.callC hcal4 (by kernel_rfl) ?_
        rintro _ g6 st6 rfl
        replace hB1 := hB1.mono st6 (fun x => x)
        replace hR1 := hR1.mono st6 (fun x => x)
        replace hR2 := hR2.mono st6 (fun x => x)
        replace hB2 := hB2.mono st6 (fun x => x)
        replace hR3 := hR3.mono st6 (fun x => x)
        replace hR4 := hR4.mono st6 (fun x => x)
        replace tot := tot.trans st6.pure
        refine WP.still 2 (by kernel_rfl) ?_
        refine WP.done (by kernel_rfl) ?_
        refine NX.post ?_
        exact ⟨q6, ⟨by kernel_rfl, by kernel_rfl⟩, tot, hs⟩
      replace hs := of_if_f hs h7
      refine WP.still 7 (by kernel_rfl) ?_
      refine WP.done (by kernel_rfl) ?_
      refine NX.post ?_
      exact ⟨false, ⟨by kernel_rfl, by kernel_rfl⟩, tot, hs⟩
    replace hs := of_if_f hs h6
    refine WP.still 14 (by kernel_rfl) ?_
    refine WP.done (by kernel_rfl) ?_
    refine NX.post ?_
    exact ⟨false, ⟨by kernel_rfl, by kernel_rfl⟩, tot, hs⟩
  clear tot hs hB1 hR1 hR2 hB2 hR3 hR4
  rintro tm g ⟨q4, hF, tot, hs⟩
  clear ds
  obtain ⟨ds, rfl⟩ := hF.open
  clear hF
  unfold F.tx_Tx_Same.c2 at hs
  refine CP.ret ?_
  replace hs := Option.some.inj hs
  obtain rfl := hs
  exact NX.fin (v := .bool q4) (Res.still (by kernel_rfl)) tot htL rfl
def N.tx_Tx_Clone_0 : List (List Nat) := [[], [0], [0, 1], [], [3], [0, 1, 2, 3, 4], [0, 1, 2, 3, 4], [0, 1, 2, 3, 4, 5, 6], [0, 1, 2, 3, 4, 5, 6, 7], [0, 1, 2, 3, 4, 5, 6, 7, 8]]
def F.tx_Tx_Clone (d1 : Arr Int 8) (x1 : Int) (x2 : Int) (x3 : Int) (l1 : List Int) (l2 : List Int) : Option ((Arr Int 8) × Int × Int × Int × (List Int) × (List Int)) := ((F.slices_Clone_byte_byte l1).bind fun l3 => ((F.slices_Clone_byte_byte l2).bind fun l4 => (some (d1, x1, x2, x3, l3, l4))))
theorem P.tx_Tx_Clone (g0 : GW) (r0 : Nat) (r1 : Nat) (d1 : Arr Int 8) (x1 : Int) (x2 : Int) (x3 : Int) (l1 : List Int) (l2 : List Int) (a1 : Option Addr) (n1 : Nat) (c1 : Nat) (a2 : Option Addr) (n2 : Nat) (c2 : Nat) (hR1 : RdS (Kd.int .u8) g0 5 a1 n1 c1 l1) (hR2 : RdS (Kd.int .u8) g0 5 a2 n2 c2 l2) (o1 : Arr Int 8) (o2 : Int) (o3 : Int) (o4 : Int) (o5 : List Int) (o6 : List Int) (hs : F.tx_Tx_Clone d1 x1 x2 x3 l1 l2 = some (o1, o2, o3, o4, o5, o6)) :
    Calls Try.prog 22 #[AG [encA .u8 d1, [.int .i64 x1], [.int .i64 x2], [.int .i64 x3], [.slice a1 n1 c1], [.slice a2 n2 c2]]] g0.w (Ret NoM g0 fun v g => ∃ (a_1 : Option Addr) (n_1 : Nat) (c_1 : Nat) (a_4 : Option Addr) (n_4 : Nat) (c_4 : Nat), v = AG [encA .u8 o1, [.int .i64 o2], [.int .i64 o3], [.int .i64 o4], [.slice a_1 n_1 c_1], [.slice a_4 n_4 c_4]] ∧ OwnS (Kd.int .u8) g r0 5 a_1 n_1 c_1 o5 ∧ OwnS (Kd.int .u8) g r1 5 a_4 n_4 c_4 o6) := by
  refine calls_of (args := [AG [encA .u8 d1, [.int .i64 x1], [.int .i64 x2], [.int .i64 x3], [.slice a1 n1 c1], [.slice a2 n2 c2]]]) Try.func22 rfl (r0 + r1 + 0) ?_
  intro t ht htL
  refine ⟨_, rfl, ?_⟩
  refine CP.refr 12 [(0, AG [encA .u8 d1, [.int .i64 x1], [.int .i64 x2], [.int .i64 x3], [.slice a1 n1 c1], [.slice a2 n2 c2]])] (by kernel_rfl) (by kernel_rfl) ?_
  intro ds
  have tot : Step (fun l => NoM l ∨ t ≤ l) g0 g0 := Step.refl _ _
  unfold F.tx_Tx_Clone at hs
  refine CP.seqR ?_
  refine WP.alloc (T := 26) (t + 1) [encA .u8 d1, [.int .i64 x1], [.int .i64 x2], [.int .i64 x3], [.slice a1 n1 c1], [.slice a2 n2 c2]] [8, 1, 1, 1, 1, 1] (by kernel_rfl) (by simp [len_encA]) ?_
  intro g1 b1 st1 hB1
  replace hR1 := hR1.mono st1 (fun x => x)
  replace hR2 := hR2.mono st1 (fun x => x)
  replace tot := tot.trans st1.pure
  refine WP.alloc (T := 26) (t + 2) [encA .u8 (zA 8), [.int .i64 0], [.int .i64 0], [.int .i64 0], [.slice none 0 0], [.slice none 0 0]] [8, 1, 1, 1, 1, 1] (by kernel_rfl) (by simp [len_encA]) ?_
  intro g2 b2 st2 hB2
  replace hR1 := hR1.mono st2 (fun x => x)
  replace hR2 := hR2.mono st2 (fun x => x)
  replace hB1 := hB1.mono st2 (fun x => x)
  replace tot := tot.trans st2.pure
  refine WP.done (by kernel_rfl) ?_
  refine NX.then_n ?_
  refine CP.seq ?_
  replace hs := Option.bind_eq_some_iff.1 hs
  obtain ⟨l3, hk1, hs⟩ := hs
  replace hs := Option.bind_eq_some_iff.1 hs
  obtain ⟨l4, hk2, hs⟩ := hs
  refine CP.drawL (by kernel_rfl) [1, 2, 4, 5, 7, 9] N.tx_Tx_Clone_0 [⟨none, [0], [], fun l g => Box g (t + 1) b1 26 [encA .u8 d1, [.int .i64 x1], [.int .i64 x2], [.int .i64 x3], [.slice a1 n1 c1], [.slice a2 n2 c2]] [8, 1, 1, 1, 1, 1]⟩, ⟨none, [], [], fun l g => RdS (Kd.int .u8) g 5 a1 n1 c1 l1⟩, ⟨none, [], [], fun l g => RdS (Kd.int .u8) g 5 a2 n2 c2 l2⟩, ⟨some 0, [], [0], fun l g => l.getD 0 undef = .slice a1 n1 c1⟩, ⟨some 1, [], [1], fun l g => ∃ (a3 : Option Addr) (c3 : Nat), l.getD 0 undef = .slice a3 l3.length c3 ∧ OwnS (Kd.int .u8) g (t + 3) 5 a3 l3.length c3 l3⟩, ⟨some 2, [], [2], fun l g => l.getD 0 undef = .slice a2 n2 c2⟩, ⟨some 3, [], [3], fun l g => ∃ (a4 : Option Addr) (c4 : Nat), l.getD 0 undef = .slice a4 l4.length c4 ∧ OwnS (Kd.int .u8) g (t + 4) 5 a4 l4.length c4 l4⟩, ⟨some 4, [0], [1], fun l g => ∃ (a3 : Option Addr) (c3 : Nat), l.getD 0 undef = .slice a3 l3.length c3 ∧ OwnS (Kd.int .u8) g (t + 3) 5 a3 l3.length c3 l3 ∧ Box g (t + 1) b1 26 [encA .u8 d1, [.int .i64 x1], [.int .i64 x2], [.int .i64 x3], [.slice a3 l3.length c3], [.slice a2 n2 c2]] [8, 1, 1, 1, 1, 1]⟩, ⟨some 5, [0], [1, 3], fun l g => Box g (t + 1) b1 26 [encA .u8 d1, [.int .i64 x1], [.int .i64 x2], [.int .i64 x3], [.slice (slA (l.getD 0 undef)) l3.length (slC (l.getD 0 undef))], [.slice (slA (l.getD 1 undef)) l4.length (slC (l.getD 1 undef))]] [8, 1, 1, 1, 1, 1]⟩, ⟨some 5, [], [1], fun l g => ∃ (a3 : Option Addr) (c3 : Nat), l.getD 0 undef = .slice a3 l3.length c3 ∧ OwnS (Kd.int .u8) g (t + 3) 5 a3 l3.length c3 l3⟩] [[], [], [], [], [0], [0]] [(t + 1)] [0, 3, 6, 8] [] (by kernel_rfl) (by simp <;> omega) (by simp) ⟨fun _ _ _ _ st h0 hl hj hB1 => (hB1.mono st (hj 0 (by simp) _ rfl)), fun _ _ _ _ st h0 hl hj hR1 => (RdS.mono (e := 5) hR1 st h0), fun _ _ _ _ st h0 hl hj hR2 => (RdS.mono (e := 5) hR2 st h0), fun _ _ _ _ st h0 hl hj e => e, fun _ _ _ _ st h0 hl hj ⟨a3, c3, e, hR3⟩ => ⟨a3, c3, e, (hR3.mono st h0 (fun h => absurd (hl _ h) (by simp <;> omega)))⟩, fun _ _ _ _ st h0 hl hj e => e, fun _ _ _ _ st h0 hl hj ⟨a4, c4, e, hR4⟩ => ⟨a4, c4, e, (hR4.mono st h0 (fun h => absurd (hl _ h) (by simp <;> omega)))⟩, fun _ _ _ _ st h0 hl hj ⟨a3, c3, e, hR3, hB1⟩ => ⟨a3, c3, e, (hR3.mono st h0 (fun h => absurd (hl _ h) (by simp <;> omega))), (hB1.mono st (hj 0 (by simp) _ rfl))⟩, fun _ _ _ _ st h0 hl hj hB1 => (hB1.mono st (hj 0 (by simp) _ rfl)), fun _ _ _ _ st h0 hl hj ⟨a3, c3, e, hR3⟩ => ⟨a3, c3, e, (hR3.mono st h0 (fun h => absurd (hl _ h) (by simp <;> omega)))⟩, trivial⟩ ⟨hB1, hR1, hR2, trivial, trivial, trivial, trivial, trivial, trivial, trivial, trivial⟩ (by kernel_rfl) (fun vs => by kernel_rfl) ?_ ?_ ?_
  · intro j hj; exact absurd hj (by simp)
  · intro j hj
    have hq : j = 0 ∨ j = 1 ∨ j = 2 ∨ j = 3 ∨ j = 4 ∨ j = 5 := by have h : j < 6 := hj; omega
    rcases hq with rfl | rfl | rfl | rfl | rfl | rfl
    · intro vs gq stq hl hf
      replace hl : vs.length = 6 := hl
      obtain ⟨v0, vs0, rfl, hl0⟩ := len_succ hl
      obtain ⟨v1, vs1, rfl, hl1⟩ := len_succ hl0
      obtain ⟨v2, vs2, rfl, hl2⟩ := len_succ hl1
      obtain ⟨v3, vs3, rfl, hl3⟩ := len_succ hl2
      obtain ⟨v4, vs4, rfl, hl4⟩ := len_succ hl3
      obtain ⟨v5, vs5, rfl, hl5⟩ := len_succ hl4
      obtain rfl := len_zero hl5
      have hB1 := (show Box gq (t + 1) b1 26 [encA .u8 d1, [.int .i64 x1], [.int .i64 x2], [.int .i64 x3], [.slice a1 n1 c1], [.slice a2 n2 c2]] [8, 1, 1, 1, 1, 1] from hf _ (List.mem_of_getElem? (i := 0) rfl) (by kernel_rfl))
      have hR1 := (show RdS (Kd.int .u8) gq 5 a1 n1 c1 l1 from hf _ (List.mem_of_getElem? (i := 1) rfl) (by kernel_rfl))
      have hR2 := (show RdS (Kd.int .u8) gq 5 a2 n2 c2 l2 from hf _ (List.mem_of_getElem? (i := 2) rfl) (by kernel_rfl))
      refine WP.loadB (v := .slice a1 n1 c1) hB1 (by kernel_rfl) (by kernel_rfl) ?_
      refine WP.done (by kernel_rfl) (Shown.ok (v := .slice a1 n1 c1) (by kernel_rfl) (Step.refl _ _) ?_)
      exact ⟨trivial, trivial, trivial, rfl, trivial, trivial, trivial, trivial, trivial, trivial, trivial⟩
    · intro vs gq stq hl hf
      replace hl : vs.length = 6 := hl
      obtain ⟨v0, vs0, rfl, hl0⟩ := len_succ hl
      obtain ⟨v1, vs1, rfl, hl1⟩ := len_succ hl0
      obtain ⟨v2, vs2, rfl, hl2⟩ := len_succ hl1
      obtain ⟨v3, vs3, rfl, hl3⟩ := len_succ hl2
      obtain ⟨v4, vs4, rfl, hl4⟩ := len_succ hl3
      obtain ⟨v5, vs5, rfl, hl5⟩ := len_succ hl4
      obtain rfl := len_zero hl5
      have hR1 := (show RdS (Kd.int .u8) gq 5 a1 n1 c1 l1 from hf _ (List.mem_of_getElem? (i := 1) rfl) (by kernel_rfl))
      have e := (show v0 = .slice a1 n1 c1 from hf _ (List.mem_of_getElem? (i := 3) rfl) (by kernel_rfl))
      subst e
      have hcal1 := P.slices_Clone_byte_byte gq (t + 3) l1 a1 n1 c1 hR1 l3 hk1
      refine WP.callC hcal1 (by kernel_rfl) ?_
      rintro _ g3 st3 ⟨a3, n3, c3, rfl, hR3⟩
      obtain rfl := hR3.len
      refine WP.done (by kernel_rfl) (Shown.ok (v := .slice a3 l3.length c3) (by kernel_rfl) st3.pure ?_)
      exact ⟨trivial, trivial, trivial, trivial, ⟨a3, c3, rfl, hR3⟩, trivial, trivial, trivial, trivial, trivial, trivial⟩
    · intro vs gq stq hl hf
      replace hl : vs.length = 6 := hl
      obtain ⟨v0, vs0, rfl, hl0⟩ := len_succ hl
      obtain ⟨v1, vs1, rfl, hl1⟩ := len_succ hl0
      obtain ⟨v2, vs2, rfl, hl2⟩ := len_succ hl1
      obtain ⟨v3, vs3, rfl, hl3⟩ := len_succ hl2
      obtain ⟨v4, vs4, rfl, hl4⟩ := len_succ hl3
      obtain ⟨v5, vs5, rfl, hl5⟩ := len_succ hl4
      obtain rfl := len_zero hl5
      have hB1 := (show Box gq (t + 1) b1 26 [encA .u8 d1, [.int .i64 x1], [.int .i64 x2], [.int .i64 x3], [.slice a1 n1 c1], [.slice a2 n2 c2]] [8, 1, 1, 1, 1, 1] from hf _ (List.mem_of_getElem? (i := 0) rfl) (by kernel_rfl))
      have hR1 := (show RdS (Kd.int .u8) gq 5 a1 n1 c1 l1 from hf _ (List.mem_of_getElem? (i := 1) rfl) (by kernel_rfl))
      have hR2 := (show RdS (Kd.int .u8) gq 5 a2 n2 c2 l2 from hf _ (List.mem_of_getElem? (i := 2) rfl) (by kernel_rfl))
      refine WP.loadB (v := .slice a2 n2 c2) hB1 (by kernel_rfl) (by kernel_rfl) ?_
      refine WP.done (by kernel_rfl) (Shown.ok (v := .slice a2 n2 c2) (by kernel_rfl) (Step.refl _ _) ?_)
      exact ⟨trivial, trivial, trivial, trivial, trivial, rfl, trivial, trivial, trivial, trivial, trivial⟩
    · intro vs gq stq hl hf
      replace hl : vs.length = 6 := hl
      obtain ⟨v0, vs0, rfl, hl0⟩ := len_succ hl
      obtain ⟨v1, vs1, rfl, hl1⟩ := len_succ hl0
      obtain ⟨v2, vs2, rfl, hl2⟩ := len_succ hl1
      obtain ⟨v3, vs3, rfl, hl3⟩ := len_succ hl2
      obtain ⟨v4, vs4, rfl, hl4⟩ := len_succ hl3
      obtain ⟨v5, vs5, rfl, hl5⟩ := len_succ hl4
      obtain rfl := len_zero hl5
      have hR2 := (show RdS (Kd.int .u8) gq 5 a2 n2 c2 l2 from hf _ (List.mem_of_getElem? (i := 2) rfl) (by kernel_rfl))
      have e := (show v2 = .slice a2 n2 c2 from hf _ (List.mem_of_getElem? (i := 5) rfl) (by kernel_rfl))
      subst e
      have hcal2 := P.slices_Clone_byte_byte gq (t + 4) l2 a2 n2 c2 hR2 l4 hk2
      refine WP.callC hcal2 (by kernel_rfl) ?_
      rintro _ g4 st4 ⟨a4, n4, c4, rfl, hR4⟩
      obtain rfl := hR4.len
      refine WP.done (by kernel_rfl) (Shown.ok (v := .slice a4 l4.length c4) (by kernel_rfl) st4.pure ?_)
      exact ⟨trivial, trivial, trivial, trivial, trivial, trivial, ⟨a4, c4, rfl, hR4⟩, trivial, trivial, trivial, trivial⟩
    · intro vs gq stq hl hf
      replace hl : vs.length = 6 := hl
      obtain ⟨v0, vs0, rfl, hl0⟩ := len_succ hl
      obtain ⟨v1, vs1, rfl, hl1⟩ := len_succ hl0
      obtain ⟨v2, vs2, rfl, hl2⟩ := len_succ hl1
      obtain ⟨v3, vs3, rfl, hl3⟩ := len_succ hl2
      obtain ⟨v4, vs4, rfl, hl4⟩ := len_succ hl3
      obtain ⟨v5, vs5, rfl, hl5⟩ := len_succ hl4
      obtain rfl := len_zero hl5
      have hB1 := (show Box gq (t + 1) b1 26 [encA .u8 d1, [.int .i64 x1], [.int .i64 x2], [.int .i64 x3], [.slice a1 n1 c1], [.slice a2 n2 c2]] [8, 1, 1, 1, 1, 1] from hf _ (List.mem_of_getElem? (i := 0) rfl) (by kernel_rfl))
      have hR1 := (show RdS (Kd.int .u8) gq 5 a1 n1 c1 l1 from hf _ (List.mem_of_getElem? (i := 1) rfl) (by kernel_rfl))
      have hR2 := (show RdS (Kd.int .u8) gq 5 a2 n2 c2 l2 from hf _ (List.mem_of_getElem? (i := 2) rfl) (by kernel_rfl))
      obtain ⟨a3, c3, e, hR3⟩ := (show ∃ (a3 : Option Addr) (c3 : Nat), v1 = .slice a3 l3.length c3 ∧ OwnS (Kd.int .u8) gq (t + 3) 5 a3 l3.length c3 l3 from hf _ (List.mem_of_getElem? (i := 4) rfl) (by kernel_rfl))
      subst e
      refine WP.storeB (ty := 24) (off := 11) (v := .slice a3 l3.length c3) hB1 [[.slice a3 l3.length c3]] [1] (by kernel_rfl) (by kernel_rfl) rfl (by kernel_rfl) [encA .u8 d1, [.int .i64 x1], [.int .i64 x2], [.int .i64 x3], [.slice a3 l3.length c3], [.slice a2 n2 c2]] (by kernel_rfl) (.one rfl .nil) ?_
      intro g5 st5 hB3
      refine WP.done (by kernel_rfl) (Shown.ok (v := undef) (by kernel_rfl) st5 ?_)
      exact ⟨trivial, trivial, trivial, trivial, trivial, trivial, trivial, ⟨a3, c3, rfl, (hR3.mono st5 (WL.no (by simp <;> omega)) (WL.no (by simp <;> omega))), hB3⟩, trivial, trivial, trivial⟩
    · intro vs gq stq hl hf
      replace hl : vs.length = 6 := hl
      obtain ⟨v0, vs0, rfl, hl0⟩ := len_succ hl
      obtain ⟨v1, vs1, rfl, hl1⟩ := len_succ hl0
      obtain ⟨v2, vs2, rfl, hl2⟩ := len_succ hl1
      obtain ⟨v3, vs3, rfl, hl3⟩ := len_succ hl2
      obtain ⟨v4, vs4, rfl, hl4⟩ := len_succ hl3
      obtain ⟨v5, vs5, rfl, hl5⟩ := len_succ hl4
      obtain rfl := len_zero hl5
      have hR2 := (show RdS (Kd.int .u8) gq 5 a2 n2 c2 l2 from hf _ (List.mem_of_getElem? (i := 2) rfl) (by kernel_rfl))
      obtain ⟨a4, c4, e, hR4⟩ := (show ∃ (a4 : Option Addr) (c4 : Nat), v3 = .slice a4 l4.length c4 ∧ OwnS (Kd.int .u8) gq (t + 4) 5 a4 l4.length c4 l4 from hf _ (List.mem_of_getElem? (i := 6) rfl) (by kernel_rfl))
      subst e
      obtain ⟨a3, c3, e, hR3, hB1⟩ := (show ∃ (a3 : Option Addr) (c3 : Nat), v1 = .slice a3 l3.length c3 ∧ OwnS (Kd.int .u8) gq (t + 3) 5 a3 l3.length c3 l3 ∧ Box gq (t + 1) b1 26 [encA .u8 d1, [.int .i64 x1], [.int .i64 x2], [.int .i64 x3], [.slice a3 l3.length c3], [.slice a2 n2 c2]] [8, 1, 1, 1, 1, 1] from hf _ (List.mem_of_getElem? (i := 7) rfl) (by kernel_rfl))
      subst e
      refine WP.storeB (ty := 24) (off := 12) (v := .slice a4 l4.length c4) hB1 [[.slice a4 l4.length c4]] [1] (by kernel_rfl) (by kernel_rfl) rfl (by kernel_rfl) [encA .u8 d1, [.int .i64 x1], [.int .i64 x2], [.int .i64 x3], [.slice a3 l3.length c3], [.slice a4 l4.length c4]] (by kernel_rfl) (.one rfl .nil) ?_
      intro g6 st6 hB4
      refine WP.done (by kernel_rfl) (Shown.ok (v := undef) (by kernel_rfl) st6 ?_)
      exact ⟨trivial, trivial, trivial, trivial, trivial, trivial, trivial, trivial, hB4, ⟨a3, c3, rfl, (hR3.mono st6 (WL.no (by simp <;> omega)) (WL.no (by simp <;> omega)))⟩, trivial⟩
  intro vs g7 st7 hl hf
  replace hl : vs.length = 6 := hl
  obtain ⟨v0, vs0, rfl, hl0⟩ := len_succ hl
  obtain ⟨v1, vs1, rfl, hl1⟩ := len_succ hl0
  obtain ⟨v2, vs2, rfl, hl2⟩ := len_succ hl1
  obtain ⟨v3, vs3, rfl, hl3⟩ := len_succ hl2
  obtain ⟨v4, vs4, rfl, hl4⟩ := len_succ hl3
  obtain ⟨v5, vs5, rfl, hl5⟩ := len_succ hl4
  obtain rfl := len_zero hl5
  obtain ⟨a4, c4, e, hR4⟩ := (show ∃ (a4 : Option Addr) (c4 : Nat), v3 = .slice a4 l4.length c4 ∧ OwnS (Kd.int .u8) g7 (t + 4) 5 a4 l4.length c4 l4 from hf _ (List.mem_of_getElem? (i := 6) rfl) (by kernel_rfl))
  subst e
  obtain ⟨a3, c3, e, hR3⟩ := (show ∃ (a3 : Option Addr) (c3 : Nat), v1 = .slice a3 l3.length c3 ∧ OwnS (Kd.int .u8) g7 (t + 3) 5 a3 l3.length c3 l3 from hf _ (List.mem_of_getElem? (i := 9) rfl) (by kernel_rfl))
  subst e
  have hB1 := (show Box g7 (t + 1) b1 26 [encA .u8 d1, [.int .i64 x1], [.int .i64 x2], [.int .i64 x3], [.slice a3 l3.length c3], [.slice a4 l4.length c4]] [8, 1, 1, 1, 1, 1] from hf _ (List.mem_of_getElem? (i := 8) rfl) (by kernel_rfl))
  replace hB2 := hB2.mono st7 (WL.no1 (by omega))
  replace tot := tot.trans (st7.up1 (.inr (by omega)))
  refine NX.then_n ?_
  refine CP.refr 12 [(1, .pointer (some ⟨b1, 0, none⟩)), (2, .pointer (some ⟨b2, 0, none⟩))] (by kernel_rfl) (by kernel_rfl) ?_
  clear ds
  intro ds
  refine CP.seqR ?_
  refine WP.loadB (v := AG [encA .u8 d1, [.int .i64 x1], [.int .i64 x2], [.int .i64 x3], [.slice a3 l3.length c3], [.slice a4 l4.length c4]]) hB1 (by kernel_rfl) (by kernel_rfl) ?_
  refine WP.storeB (ty := 26) (off := 0) (v := AG [encA .u8 d1, [.int .i64 x1], [.int .i64 x2], [.int .i64 x3], [.slice a3 l3.length c3], [.slice a4 l4.length c4]]) hB2 [encA .u8 d1, [.int .i64 x1], [.int .i64 x2], [.int .i64 x3], [.slice a3 l3.length c3], [.slice a4 l4.length c4]] [8, 1, 1, 1, 1, 1] (by kernel_rfl) (by kernel_rfl) (by simp [len_encA]) (by kernel_rfl) [encA .u8 d1, [.int .i64 x1], [.int .i64 x2], [.int .i64 x3], [.slice a3 l3.length c3], [.slice a4 l4.length c4]] (by kernel_rfl) (.arr (.one rfl (.one rfl (.one rfl (.one rfl (.one rfl .nil)))))) ?_
  intro g8 st8 hB5
  replace hB1 := hB1.mono st8 (WL.no1 (by omega))
  replace hR3 := hR3.mono st8 (WL.no1 (by omega)) (WL.no1 (by omega))
  replace hR4 := hR4.mono st8 (WL.no1 (by omega)) (WL.no1 (by omega))
  replace tot := tot.trans (st8.up1 (.inr (by omega)))
  clear hB2
  have hB2 := hB5
  clear hB5
  refine WP.done (by kernel_rfl) ?_
  refine NX.then_n ?_
  refine CP.ret ?_
  obtain ⟨g9, hw1, st9, hnew⟩ := hR3.relab (by omega) r0
  refine NX.regw hw1 ?_
  replace hB2 := hB2.mono st9 (WL.no1 (by omega))
  replace hR4 := hR4.mono st9 (WL.no1 (by omega)) (WL.no1 (by omega))
  replace tot := tot.trans (st9.up1 (.inr (by omega)))
  clear hR3
  have hR3 := hnew
  clear hnew
  obtain ⟨g10, hw2, st10, hnew⟩ := hR4.relab (by omega) r1
  refine NX.regw hw2 ?_
  replace hB2 := hB2.mono st10 (WL.no1 (by omega))
  replace hR3 := hR3.mono st10 (WL.no1 (by omega)) (WL.no1 (by omega))
  replace tot := tot.trans (st10.up1 (.inr (by omega)))
  clear hR4
  have hR4 := hnew
  clear hnew
  replace hs := Option.some.inj hs
  simp only [Prod.mk.injEq] at hs
  obtain ⟨rfl, rfl, rfl, rfl, rfl, rfl⟩ := hs
  exact NX.fin (v := AG [encA .u8 d1, [.int .i64 x1], [.int .i64 x2], [.int .i64 x3], [.slice a3 l3.length c3], [.slice a4 l4.length c4]]) (Res.one rfl (RV.box (agg := true) (size := 13) (rs := [encA .u8 d1, [.int .i64 x1], [.int .i64 x2], [.int .i64 x3], [.slice a3 l3.length c3], [.slice a4 l4.length c4]]) hB2 (by kernel_rfl) (by kernel_rfl) (by kernel_rfl) (by kernel_rfl))) tot htL ⟨a3, l3.length, c3, a4, l4.length, c4, rfl, hR3, hR4⟩
end Go.Proofs.Ytjcmjedphijhjaa
