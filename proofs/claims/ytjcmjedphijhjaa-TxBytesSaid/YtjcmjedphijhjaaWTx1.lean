/-
  Walks, written by program: each Go function computes the plain function of its name, in whatever world its arguments' facts hold.
-/
import Derived.Test.YtjcmjedphijhjaaRows
import Derived.Test.YtjcmjedphijhjaaLabJ
namespace Go.Proofs.Ytjcmjedphijhjaa
open Go.RowKit Go.Lab
attribute [local irreducible] WP CP NX wpList Code.wp Calls
set_option maxRecDepth 100000
set_option maxHeartbeats 4000000
set_option linter.unusedVariables false
def str_0 : ByteArray := ⟨#[0, 1, 2, 2, 3, 3, 3, 3, 4, 4, 4, 4, 4, 4, 4, 4, 5, 5, 5, 5, 5, 5, 5, 5, 5, 5, 5, 5, 5, 5, 5, 5, 6, 6, 6, 6, 6, 6, 6, 6, 6, 6, 6, 6, 6, 6, 6, 6, 6, 6, 6, 6, 6, 6, 6, 6, 6, 6, 6, 6, 6, 6, 6, 6, 7, 7, 7, 7, 7, 7, 7, 7, 7, 7, 7, 7, 7, 7, 7, 7, 7, 7, 7, 7, 7, 7, 7, 7, 7, 7, 7, 7, 7, 7, 7, 7, 7, 7, 7, 7, 7, 7, 7, 7, 7, 7, 7, 7, 7, 7, 7, 7, 7, 7, 7, 7, 7, 7, 7, 7, 7, 7, 7, 7, 7, 7, 7, 7, 8, 8, 8, 8, 8, 8, 8, 8, 8, 8, 8, 8, 8, 8, 8, 8, 8, 8, 8, 8, 8, 8, 8, 8, 8, 8, 8, 8, 8, 8, 8, 8, 8, 8, 8, 8, 8, 8, 8, 8, 8, 8, 8, 8, 8, 8, 8, 8, 8, 8, 8, 8, 8, 8, 8, 8, 8, 8, 8, 8, 8, 8, 8, 8, 8, 8, 8, 8, 8, 8, 8, 8, 8, 8, 8, 8, 8, 8, 8, 8, 8, 8, 8, 8, 8, 8, 8, 8, 8, 8, 8, 8, 8, 8, 8, 8, 8, 8, 8, 8, 8, 8, 8, 8, 8, 8, 8, 8, 8, 8, 8, 8, 8, 8, 8, 8, 8, 8, 8, 8, 8, 8, 8, 8, 8, 8, 8, 8]⟩
structure S_tx_Tx where
  f1 : (Arr Int 8)
  f2 : Int
  f3 : Int
  f4 : Int
  f5 : (List Int)
  f6 : (List Int)
  deriving Inhabited
def k_S_tx_Tx : Kd S_tx_Tx := Kd.pull (Kd.pair (Kd.arrI 8 .u8) (Kd.pair (Kd.int .i64) (Kd.pair (Kd.int .i64) (Kd.pair (Kd.int .i64) (Kd.pair (Kd.slice 5 (Kd.int .u8)) (Kd.slice 5 (Kd.int .u8))))))) (fun x => (x.f1, x.f2, x.f3, x.f4, x.f5, x.f6))
theorem k_S_tx_Tx.opn {g : GW} {cs : List Value} {x : S_tx_Tx} (h : k_S_tx_Tx.R g cs x) : ∃ (a4 : Option Addr) (n4 : Nat) (c4 : Nat) (a5 : Option Addr) (n5 : Nat) (c5 : Nat), cs = [encA .u8 x.f1, [.int .i64 x.f2], [.int .i64 x.f3], [.int .i64 x.f4], [.slice a4 n4 c4], [.slice a5 n5 c5]].flatten ∧ RdS (Kd.int .u8) g 5 a4 n4 c4 x.f5 ∧ RdS (Kd.int .u8) g 5 a5 n5 c5 x.f6 := by
  obtain ⟨q0, d0, rfl, h0, q1, d1, rfl, h1, q2, d2, rfl, h2, q3, d3, rfl, h3, q4, d4, rfl, h4, h5⟩ := h
  replace h0 : q0 = encA .u8 x.f1 := h0
  subst h0
  replace h1 : q1 = [.int .i64 x.f2] := h1
  subst h1
  replace h2 : q2 = [.int .i64 x.f3] := h2
  subst h2
  replace h3 : q3 = [.int .i64 x.f4] := h3
  subst h3
  obtain ⟨a4, n4, c4, h4, hr4⟩ := h4
  subst h4
  obtain ⟨a5, n5, c5, h5, hr5⟩ := h5
  subst h5
  exact ⟨a4, n4, c4, a5, n5, c5, by simp, hr4, hr5⟩
theorem k_S_tx_Tx.mk {g : GW} {s0 s1 s2 s3 s4 s5 : List Value} {f0 : (Arr Int 8)} {f1 : Int} {f2 : Int} {f3 : Int} {f4 : (List Int)} {f5 : (List Int)} (h0 : ((Kd.arrI 8 .u8)).R g s0 f0) (h1 : ((Kd.int .i64)).R g s1 f1) (h2 : ((Kd.int .i64)).R g s2 f2) (h3 : ((Kd.int .i64)).R g s3 f3) (h4 : ((Kd.slice 5 (Kd.int .u8))).R g s4 f4) (h5 : ((Kd.slice 5 (Kd.int .u8))).R g s5 f5) : k_S_tx_Tx.R g [s0, s1, s2, s3, s4, s5].flatten ⟨f0, f1, f2, f3, f4, f5⟩ := by
  refine ⟨_, _, rfl, h0, _, _, rfl, h1, _, _, rfl, h2, _, _, rfl, h3, _, _, rfl, h4, (by simpa using h5)⟩
def wf_S_tx_Tx (x : S_tx_Tx) : Prop := (∀ y ∈ x.f1.1, (Lit.int .u8 y).wf = true) ∧ (Lit.int .i64 x.f2).wf = true ∧ (Lit.int .i64 x.f3).wf = true ∧ (Lit.int .i64 x.f4).wf = true ∧ (x.f5.length ≤ maxLen ∧ ∀ y ∈ x.f5, (Lit.int .u8 y).wf = true) ∧ (x.f6.length ≤ maxLen ∧ ∀ y ∈ x.f6, (Lit.int .u8 y).wf = true)
def N.baizelaw25_Cut_0 : List (List Nat) := [[], [0], [], [2], [2, 3], [2, 3, 4], [0, 1, 2, 3, 4, 5], [], [7], [], [9], [9, 10], [9, 10, 11], [7, 8, 9, 10, 11, 12], [0, 1, 2, 3, 4, 5, 6, 7, 8, 9, 10], [0, 1, 2, 3, 4, 5, 6, 7, 8, 9, 10, 14], [0, 1, 2, 3, 4, 5, 6, 7, 8, 9, 10, 11, 12, 13, 14, 15], [0, 1, 2, 3, 4, 5, 6, 7, 8, 9, 10, 11, 12, 13, 14, 15, 16]]
def F.baizelaw25_Cut (d1 : Arr Int 8) (x1 : Int) (x2 : Int) (x3 : Int) (l1 : List Int) (l2 : List Int) : Option ((Arr Int 8) × Int × Int × Int × (List Int) × (List Int)) := (if (0 : Int) ≤ 0 ∧ 0 ≤ (imin (l1.length : Int) 400) ∧ (imin (l1.length : Int) 400) ≤ (l1.length : Int) then (if (0 : Int) ≤ 0 ∧ 0 ≤ (imin (l2.length : Int) 1100) ∧ (imin (l2.length : Int) 1100) ≤ (l2.length : Int) then (some (d1, x1, x2, x3, (sliceI l1 0 (imin (l1.length : Int) 400)), (sliceI l2 0 (imin (l2.length : Int) 1100)))) else none) else none)
theorem P.baizelaw25_Cut (g0 : GW) (d1 : Arr Int 8) (x1 : Int) (x2 : Int) (x3 : Int) (l1 : List Int) (l2 : List Int) (a1 : Option Addr) (n1 : Nat) (c1 : Nat) (a2 : Option Addr) (n2 : Nat) (c2 : Nat) (hR1 : RdS (Kd.int .u8) g0 5 a1 n1 c1 l1) (hR2 : RdS (Kd.int .u8) g0 5 a2 n2 c2 l2) (o1 : Arr Int 8) (o2 : Int) (o3 : Int) (o4 : Int) (o5 : List Int) (o6 : List Int) (hs : F.baizelaw25_Cut d1 x1 x2 x3 l1 l2 = some (o1, o2, o3, o4, o5, o6)) :
    Calls Try.prog 10 #[AG [encA .u8 d1, [.int .i64 x1], [.int .i64 x2], [.int .i64 x3], [.slice a1 n1 c1], [.slice a2 n2 c2]]] g0.w (Ret NoM g0 fun v g => ∃ (a_1 : Option Addr) (n_1 : Nat) (c_1 : Nat) (a_4 : Option Addr) (n_4 : Nat) (c_4 : Nat), v = AG [encA .u8 o1, [.int .i64 o2], [.int .i64 o3], [.int .i64 o4], [.slice a_1 n_1 c_1], [.slice a_4 n_4 c_4]] ∧ RdS (Kd.int .u8) g 5 a_1 n_1 c_1 o5 ∧ RdS (Kd.int .u8) g 5 a_4 n_4 c_4 o6) := by
  refine calls_of (args := [AG [encA .u8 d1, [.int .i64 x1], [.int .i64 x2], [.int .i64 x3], [.slice a1 n1 c1], [.slice a2 n2 c2]]]) Try.func10 rfl (0) ?_
  intro t ht htL
  refine ⟨_, rfl, ?_⟩
  refine CP.refr 20 [(0, AG [encA .u8 d1, [.int .i64 x1], [.int .i64 x2], [.int .i64 x3], [.slice a1 n1 c1], [.slice a2 n2 c2]])] (by kernel_rfl) (by kernel_rfl) ?_
  intro ds
  have tot : Step (fun l => NoM l ∨ t ≤ l) g0 g0 := Step.refl _ _
  unfold F.baizelaw25_Cut at hs
  refine CP.seqR ?_
  refine WP.alloc (T := 26) (t + 1) [encA .u8 d1, [.int .i64 x1], [.int .i64 x2], [.int .i64 x3], [.slice a1 n1 c1], [.slice a2 n2 c2]] [8, 1, 1, 1, 1, 1] (by kernel_rfl) (by simp [len_encA]) ?_
  intro g1 b1 st1 hB1
  replace hR1 := hR1.mono st1 (fun x => x)
  replace hR2 := hR2.mono st1 (fun x => x)
  replace tot := tot.trans st1.pure
  refine WP.alloc (T := 26) (t + 2) [encA .u8 (zA 8), [.int .i64 0], [.int .i64 0], [.int .i64 0], [.slice none 0 0], [.slice none 0 0]] [8, 1, 1, 1, 1, 1] (by kernel_rfl) (by simp [len_encA]) ?_
  intro g2 b2 st2 hB2
  replace hR1 := hR1.mono st2 (fun x => x)
  replace hR2 := hR2.mono st2 (fun x => x)
  replace hB1 := hB1.mono st2 (fun x => x)
  replace tot := tot.trans st2.pure
  refine WP.done (by kernel_rfl) ?_
  refine NX.then_n ?_
  refine CP.seq ?_
  by_cases hc1 : (0 : Int) ≤ 0 ∧ 0 ≤ (imin (l1.length : Int) 400) ∧ (imin (l1.length : Int) 400) ≤ (l1.length : Int)
  case neg => rw [if_neg hc1] at hs; cases hs
  replace hs := of_if_p hs hc1
  by_cases hc2 : (0 : Int) ≤ 0 ∧ 0 ≤ (imin (l2.length : Int) 1100) ∧ (imin (l2.length : Int) 1100) ≤ (l2.length : Int)
  case neg => rw [if_neg hc2] at hs; cases hs
  replace hs := of_if_p hs hc2
  refine CP.drawL (by kernel_rfl) [1, 3, 4, 6, 8, 10, 11, 13, 15, 17] N.baizelaw25_Cut_0 [⟨none, [0], [], fun l g => Box g (t + 1) b1 26 [encA .u8 d1, [.int .i64 x1], [.int .i64 x2], [.int .i64 x3], [.slice a1 n1 c1], [.slice a2 n2 c2]] [8, 1, 1, 1, 1, 1]⟩, ⟨none, [], [], fun l g => RdS (Kd.int .u8) g 5 a1 n1 c1 l1⟩, ⟨none, [], [], fun l g => RdS (Kd.int .u8) g 5 a2 n2 c2 l2⟩, ⟨some 0, [], [0], fun l g => l.getD 0 undef = .slice a1 n1 c1⟩, ⟨some 1, [], [1], fun l g => l.getD 0 undef = .slice a1 n1 c1⟩, ⟨some 2, [], [2], fun l g => l.getD 0 undef = .int .i64 (l1.length : Int)⟩, ⟨some 3, [], [3], fun l g => ∃ (a3 : Option Addr) (c3 : Nat), l.getD 0 undef = .slice a3 ((imin (l1.length : Int) 400).toNat - (0 : Int).toNat) c3 ∧ RdS (Kd.int .u8) g 5 a3 ((imin (l1.length : Int) 400).toNat - (0 : Int).toNat) c3 (sliceI l1 0 (imin (l1.length : Int) 400))⟩, ⟨some 4, [], [4], fun l g => l.getD 0 undef = .slice a2 n2 c2⟩, ⟨some 5, [], [5], fun l g => l.getD 0 undef = .slice a2 n2 c2⟩, ⟨some 6, [], [6], fun l g => l.getD 0 undef = .int .i64 (l2.length : Int)⟩, ⟨some 7, [], [7], fun l g => ∃ (a4 : Option Addr) (c4 : Nat), l.getD 0 undef = .slice a4 ((imin (l2.length : Int) 1100).toNat - (0 : Int).toNat) c4 ∧ RdS (Kd.int .u8) g 5 a4 ((imin (l2.length : Int) 1100).toNat - (0 : Int).toNat) c4 (sliceI l2 0 (imin (l2.length : Int) 1100))⟩, ⟨some 8, [0], [3], fun l g => ∃ (a3 : Option Addr) (c3 : Nat), l.getD 0 undef = .slice a3 ((imin (l1.length : Int) 400).toNat - (0 : Int).toNat) c3 ∧ RdS (Kd.int .u8) g 5 a3 ((imin (l1.length : Int) 400).toNat - (0 : Int).toNat) c3 (sliceI l1 0 (imin (l1.length : Int) 400)) ∧ Box g (t + 1) b1 26 [encA .u8 d1, [.int .i64 x1], [.int .i64 x2], [.int .i64 x3], [.slice a3 ((imin (l1.length : Int) 400).toNat - (0 : Int).toNat) c3], [.slice a2 n2 c2]] [8, 1, 1, 1, 1, 1]⟩, ⟨some 9, [0], [3, 7], fun l g => Box g (t + 1) b1 26 [encA .u8 d1, [.int .i64 x1], [.int .i64 x2], [.int .i64 x3], [.slice (slA (l.getD 0 undef)) ((imin (l1.length : Int) 400).toNat - (0 : Int).toNat) (slC (l.getD 0 undef))], [.slice (slA (l.getD 1 undef)) ((imin (l2.length : Int) 1100).toNat - (0 : Int).toNat) (slC (l.getD 1 undef))]] [8, 1, 1, 1, 1, 1]⟩, ⟨some 9, [], [3], fun l g => ∃ (a3 : Option Addr) (c3 : Nat), l.getD 0 undef = .slice a3 ((imin (l1.length : Int) 400).toNat - (0 : Int).toNat) c3 ∧ RdS (Kd.int .u8) g 5 a3 ((imin (l1.length : Int) 400).toNat - (0 : Int).toNat) c3 (sliceI l1 0 (imin (l1.length : Int) 400))⟩] [[], [], [], [], [], [], [], [], [0], [0]] [(t + 1)] [0, 2, 7, 9, 14, 16] [5, 12] (by kernel_rfl) (by simp <;> omega) (by simp) ⟨fun _ _ _ _ st h0 hl hj hB1 => (hB1.mono st (hj 0 (by simp) _ rfl)), fun _ _ _ _ st h0 hl hj hR1 => (RdS.mono (e := 5) hR1 st h0), fun _ _ _ _ st h0 hl hj hR2 => (RdS.mono (e := 5) hR2 st h0), fun _ _ _ _ st h0 hl hj e => e, fun _ _ _ _ st h0 hl hj e => e, fun _ _ _ _ st h0 hl hj e => e, fun _ _ _ _ st h0 hl hj ⟨a3, c3, e, hR3⟩ => ⟨a3, c3, e, (RdS.mono (e := 5) hR3 st h0)⟩, fun _ _ _ _ st h0 hl hj e => e, fun _ _ _ _ st h0 hl hj e => e, fun _ _ _ _ st h0 hl hj e => e, fun _ _ _ _ st h0 hl hj ⟨a4, c4, e, hR4⟩ => ⟨a4, c4, e, (RdS.mono (e := 5) hR4 st h0)⟩, fun _ _ _ _ st h0 hl hj ⟨a3, c3, e, hR3, hB1⟩ => ⟨a3, c3, e, (RdS.mono (e := 5) hR3 st h0), (hB1.mono st (hj 0 (by simp) _ rfl))⟩, fun _ _ _ _ st h0 hl hj hB1 => (hB1.mono st (hj 0 (by simp) _ rfl)), fun _ _ _ _ st h0 hl hj ⟨a3, c3, e, hR3⟩ => ⟨a3, c3, e, (RdS.mono (e := 5) hR3 st h0)⟩, trivial⟩ ⟨hB1, hR1, hR2, trivial, trivial, trivial, trivial, trivial, trivial, trivial, trivial, trivial, trivial, trivial, trivial⟩ (by kernel_rfl) (fun vs => by kernel_rfl) ?_ ?_ ?_
  · intro j hj
    have hq : j = 0 ∨ j = 1 := by have h : j < 2 := hj; omega
    rcases hq with rfl | rfl
    · intro vs gq stq hl hf
      replace hl : vs.length = 10 := hl
      obtain ⟨v0, vs0, rfl, hl0⟩ := len_succ hl
      obtain ⟨v1, vs1, rfl, hl1⟩ := len_succ hl0
      obtain ⟨v2, vs2, rfl, hl2⟩ := len_succ hl1
      obtain ⟨v3, vs3, rfl, hl3⟩ := len_succ hl2
      obtain ⟨v4, vs4, rfl, hl4⟩ := len_succ hl3
      obtain ⟨v5, vs5, rfl, hl5⟩ := len_succ hl4
      obtain ⟨v6, vs6, rfl, hl6⟩ := len_succ hl5
      obtain ⟨v7, vs7, rfl, hl7⟩ := len_succ hl6
      obtain ⟨v8, vs8, rfl, hl8⟩ := len_succ hl7
      obtain ⟨v9, vs9, rfl, hl9⟩ := len_succ hl8
      obtain rfl := len_zero hl9
      have e := (show v2 = .int .i64 (l1.length : Int) from hf _ (List.mem_of_getElem? (i := 5) rfl) (by kernel_rfl))
      subst e
      show Option.isSome _ = true
      kernel_rfl
    · intro vs gq stq hl hf
      replace hl : vs.length = 10 := hl
      obtain ⟨v0, vs0, rfl, hl0⟩ := len_succ hl
      obtain ⟨v1, vs1, rfl, hl1⟩ := len_succ hl0
      obtain ⟨v2, vs2, rfl, hl2⟩ := len_succ hl1
      obtain ⟨v3, vs3, rfl, hl3⟩ := len_succ hl2
      obtain ⟨v4, vs4, rfl, hl4⟩ := len_succ hl3
      obtain ⟨v5, vs5, rfl, hl5⟩ := len_succ hl4
      obtain ⟨v6, vs6, rfl, hl6⟩ := len_succ hl5
      obtain ⟨v7, vs7, rfl, hl7⟩ := len_succ hl6
      obtain ⟨v8, vs8, rfl, hl8⟩ := len_succ hl7
      obtain ⟨v9, vs9, rfl, hl9⟩ := len_succ hl8
      obtain rfl := len_zero hl9
      have e := (show v6 = .int .i64 (l2.length : Int) from hf _ (List.mem_of_getElem? (i := 9) rfl) (by kernel_rfl))
      subst e
      show Option.isSome _ = true
      kernel_rfl
  · intro j hj
    have hq : j = 0 ∨ j = 1 ∨ j = 2 ∨ j = 3 ∨ j = 4 ∨ j = 5 ∨ j = 6 ∨ j = 7 ∨ j = 8 ∨ j = 9 := by have h : j < 10 := hj; omega
    rcases hq with rfl | rfl | rfl | rfl | rfl | rfl | rfl | rfl | rfl | rfl
    · intro vs gq stq hl hf
      replace hl : vs.length = 10 := hl
      obtain ⟨v0, vs0, rfl, hl0⟩ := len_succ hl
      obtain ⟨v1, vs1, rfl, hl1⟩ := len_succ hl0
      obtain ⟨v2, vs2, rfl, hl2⟩ := len_succ hl1
      obtain ⟨v3, vs3, rfl, hl3⟩ := len_succ hl2
      obtain ⟨v4, vs4, rfl, hl4⟩ := len_succ hl3
      obtain ⟨v5, vs5, rfl, hl5⟩ := len_succ hl4
      obtain ⟨v6, vs6, rfl, hl6⟩ := len_succ hl5
      obtain ⟨v7, vs7, rfl, hl7⟩ := len_succ hl6
      obtain ⟨v8, vs8, rfl, hl8⟩ := len_succ hl7
      obtain ⟨v9, vs9, rfl, hl9⟩ := len_succ hl8
      obtain rfl := len_zero hl9
      have hB1 := (show Box gq (t + 1) b1 26 [encA .u8 d1, [.int .i64 x1], [.int .i64 x2], [.int .i64 x3], [.slice a1 n1 c1], [.slice a2 n2 c2]] [8, 1, 1, 1, 1, 1] from hf _ (List.mem_of_getElem? (i := 0) rfl) (by kernel_rfl))
      have hR1 := (show RdS (Kd.int .u8) gq 5 a1 n1 c1 l1 from hf _ (List.mem_of_getElem? (i := 1) rfl) (by kernel_rfl))
      have hR2 := (show RdS (Kd.int .u8) gq 5 a2 n2 c2 l2 from hf _ (List.mem_of_getElem? (i := 2) rfl) (by kernel_rfl))
      refine WP.loadB (v := .slice a1 n1 c1) hB1 (by kernel_rfl) (by kernel_rfl) ?_
      refine WP.done (by kernel_rfl) (Shown.ok (v := .slice a1 n1 c1) (by kernel_rfl) (Step.refl _ _) ?_)
      exact ⟨trivial, trivial, trivial, rfl, trivial, trivial, trivial, trivial, trivial, trivial, trivial, trivial, trivial, trivial, trivial⟩
    · intro vs gq stq hl hf
      replace hl : vs.length = 10 := hl
      obtain ⟨v0, vs0, rfl, hl0⟩ := len_succ hl
      obtain ⟨v1, vs1, rfl, hl1⟩ := len_succ hl0
      obtain ⟨v2, vs2, rfl, hl2⟩ := len_succ hl1
      obtain ⟨v3, vs3, rfl, hl3⟩ := len_succ hl2
      obtain ⟨v4, vs4, rfl, hl4⟩ := len_succ hl3
      obtain ⟨v5, vs5, rfl, hl5⟩ := len_succ hl4
      obtain ⟨v6, vs6, rfl, hl6⟩ := len_succ hl5
      obtain ⟨v7, vs7, rfl, hl7⟩ := len_succ hl6
      obtain ⟨v8, vs8, rfl, hl8⟩ := len_succ hl7
      obtain ⟨v9, vs9, rfl, hl9⟩ := len_succ hl8
      obtain rfl := len_zero hl9
      have hB1 := (show Box gq (t + 1) b1 26 [encA .u8 d1, [.int .i64 x1], [.int .i64 x2], [.int .i64 x3], [.slice a1 n1 c1], [.slice a2 n2 c2]] [8, 1, 1, 1, 1, 1] from hf _ (List.mem_of_getElem? (i := 0) rfl) (by kernel_rfl))
      have hR1 := (show RdS (Kd.int .u8) gq 5 a1 n1 c1 l1 from hf _ (List.mem_of_getElem? (i := 1) rfl) (by kernel_rfl))
      have hR2 := (show RdS (Kd.int .u8) gq 5 a2 n2 c2 l2 from hf _ (List.mem_of_getElem? (i := 2) rfl) (by kernel_rfl))
      refine WP.loadB (v := .slice a1 n1 c1) hB1 (by kernel_rfl) (by kernel_rfl) ?_
      refine WP.done (by kernel_rfl) (Shown.ok (v := .slice a1 n1 c1) (by kernel_rfl) (Step.refl _ _) ?_)
      exact ⟨trivial, trivial, trivial, trivial, rfl, trivial, trivial, trivial, trivial, trivial, trivial, trivial, trivial, trivial, trivial⟩
    · intro vs gq stq hl hf
      replace hl : vs.length = 10 := hl
      obtain ⟨v0, vs0, rfl, hl0⟩ := len_succ hl
      obtain ⟨v1, vs1, rfl, hl1⟩ := len_succ hl0
      obtain ⟨v2, vs2, rfl, hl2⟩ := len_succ hl1
      obtain ⟨v3, vs3, rfl, hl3⟩ := len_succ hl2
      obtain ⟨v4, vs4, rfl, hl4⟩ := len_succ hl3
      obtain ⟨v5, vs5, rfl, hl5⟩ := len_succ hl4
      obtain ⟨v6, vs6, rfl, hl6⟩ := len_succ hl5
      obtain ⟨v7, vs7, rfl, hl7⟩ := len_succ hl6
      obtain ⟨v8, vs8, rfl, hl8⟩ := len_succ hl7
      obtain ⟨v9, vs9, rfl, hl9⟩ := len_succ hl8
      obtain rfl := len_zero hl9
      have hR1 := (show RdS (Kd.int .u8) gq 5 a1 n1 c1 l1 from hf _ (List.mem_of_getElem? (i := 1) rfl) (by kernel_rfl))
      have e := (show v1 = .slice a1 n1 c1 from hf _ (List.mem_of_getElem? (i := 4) rfl) (by kernel_rfl))
      subst e
      refine WP.len (a := a1) (cp := c1) hR1.len (by kernel_rfl) ?_
      refine WP.done (by kernel_rfl) (Shown.ok (v := .int .i64 (l1.length : Int)) (by kernel_rfl) (Step.refl _ _) ?_)
      exact ⟨trivial, trivial, trivial, trivial, trivial, rfl, trivial, trivial, trivial, trivial, trivial, trivial, trivial, trivial, trivial⟩
    · intro vs gq stq hl hf
      replace hl : vs.length = 10 := hl
      obtain ⟨v0, vs0, rfl, hl0⟩ := len_succ hl
      obtain ⟨v1, vs1, rfl, hl1⟩ := len_succ hl0
      obtain ⟨v2, vs2, rfl, hl2⟩ := len_succ hl1
      obtain ⟨v3, vs3, rfl, hl3⟩ := len_succ hl2
      obtain ⟨v4, vs4, rfl, hl4⟩ := len_succ hl3
      obtain ⟨v5, vs5, rfl, hl5⟩ := len_succ hl4
      obtain ⟨v6, vs6, rfl, hl6⟩ := len_succ hl5
      obtain ⟨v7, vs7, rfl, hl7⟩ := len_succ hl6
      obtain ⟨v8, vs8, rfl, hl8⟩ := len_succ hl7
      obtain ⟨v9, vs9, rfl, hl9⟩ := len_succ hl8
      obtain rfl := len_zero hl9
      have hR1 := (show RdS (Kd.int .u8) gq 5 a1 n1 c1 l1 from hf _ (List.mem_of_getElem? (i := 1) rfl) (by kernel_rfl))
      have e := (show v0 = .slice a1 n1 c1 from hf _ (List.mem_of_getElem? (i := 3) rfl) (by kernel_rfl))
      subst e
      have e := (show v2 = .int .i64 (l1.length : Int) from hf _ (List.mem_of_getElem? (i := 5) rfl) (by kernel_rfl))
      subst e
      refine WP.sliceR (lo := none) (hi := some (.int .i64 (imin (l1.length : Int) 400))) hR1 0 (imin (l1.length : Int) 400) (by kernel_rfl) (.inl ⟨rfl, rfl⟩) (.inr ⟨_, rfl⟩) hc1 ?_
      intro a3 c3 hR3
      refine WP.done (by kernel_rfl) (Shown.ok (v := .slice a3 ((imin (l1.length : Int) 400).toNat - (0 : Int).toNat) c3) (by kernel_rfl) (Step.refl _ _) ?_)
      exact ⟨trivial, trivial, trivial, trivial, trivial, trivial, ⟨a3, c3, rfl, hR3⟩, trivial, trivial, trivial, trivial, trivial, trivial, trivial, trivial⟩
    · intro vs gq stq hl hf
      replace hl : vs.length = 10 := hl
      obtain ⟨v0, vs0, rfl, hl0⟩ := len_succ hl
      obtain ⟨v1, vs1, rfl, hl1⟩ := len_succ hl0
      obtain ⟨v2, vs2, rfl, hl2⟩ := len_succ hl1
      obtain ⟨v3, vs3, rfl, hl3⟩ := len_succ hl2
      obtain ⟨v4, vs4, rfl, hl4⟩ := len_succ hl3
      obtain ⟨v5, vs5, rfl, hl5⟩ := len_succ hl4
      obtain ⟨v6, vs6, rfl, hl6⟩ := len_succ hl5
      obtain ⟨v7, vs7, rfl, hl7⟩ := len_succ hl6
      obtain ⟨v8, vs8, rfl, hl8⟩ := len_succ hl7
      obtain ⟨v9, vs9, rfl, hl9⟩ := len_succ hl8
      obtain rfl := len_zero hl9
      have hB1 := (show Box gq (t + 1) b1 26 [encA .u8 d1, [.int .i64 x1], [.int .i64 x2], [.int .i64 x3], [.slice a1 n1 c1], [.slice a2 n2 c2]] [8, 1, 1, 1, 1, 1] from hf _ (List.mem_of_getElem? (i := 0) rfl) (by kernel_rfl))
      have hR1 := (show RdS (Kd.int .u8) gq 5 a1 n1 c1 l1 from hf _ (List.mem_of_getElem? (i := 1) rfl) (by kernel_rfl))
      have hR2 := (show RdS (Kd.int .u8) gq 5 a2 n2 c2 l2 from hf _ (List.mem_of_getElem? (i := 2) rfl) (by kernel_rfl))
      refine WP.loadB (v := .slice a2 n2 c2) hB1 (by kernel_rfl) (by kernel_rfl) ?_
      refine WP.done (by kernel_rfl) (Shown.ok (v := .slice a2 n2 c2) (by kernel_rfl) (Step.refl _ _) ?_)
      exact ⟨trivial, trivial, trivial, trivial, trivial, trivial, trivial, rfl, trivial, trivial, trivial, trivial, trivial, trivial, trivial⟩
    · intro vs gq stq hl hf
      replace hl : vs.length = 10 := hl
      obtain ⟨v0, vs0, rfl, hl0⟩ := len_succ hl
      obtain ⟨v1, vs1, rfl, hl1⟩ := len_succ hl0
      obtain ⟨v2, vs2, rfl, hl2⟩ := len_succ hl1
      obtain ⟨v3, vs3, rfl, hl3⟩ := len_succ hl2
      obtain ⟨v4, vs4, rfl, hl4⟩ := len_succ hl3
      obtain ⟨v5, vs5, rfl, hl5⟩ := len_succ hl4
      obtain ⟨v6, vs6, rfl, hl6⟩ := len_succ hl5
      obtain ⟨v7, vs7, rfl, hl7⟩ := len_succ hl6
      obtain ⟨v8, vs8, rfl, hl8⟩ := len_succ hl7
      obtain ⟨v9, vs9, rfl, hl9⟩ := len_succ hl8
      obtain rfl := len_zero hl9
      have hB1 := (show Box gq (t + 1) b1 26 [encA .u8 d1, [.int .i64 x1], [.int .i64 x2], [.int .i64 x3], [.slice a1 n1 c1], [.slice a2 n2 c2]] [8, 1, 1, 1, 1, 1] from hf _ (List.mem_of_getElem? (i := 0) rfl) (by kernel_rfl))
      have hR1 := (show RdS (Kd.int .u8) gq 5 a1 n1 c1 l1 from hf _ (List.mem_of_getElem? (i := 1) rfl) (by kernel_rfl))
      have hR2 := (show RdS (Kd.int .u8) gq 5 a2 n2 c2 l2 from hf _ (List.mem_of_getElem? (i := 2) rfl) (by kernel_rfl))
      refine WP.loadB (v := .slice a2 n2 c2) hB1 (by kernel_rfl) (by kernel_rfl) ?_
      refine WP.done (by kernel_rfl) (Shown.ok (v := .slice a2 n2 c2) (by kernel_rfl) (Step.refl _ _) ?_)
      exact ⟨trivial, trivial, trivial, trivial, trivial, trivial, trivial, trivial, rfl, trivial, trivial, trivial, trivial, trivial, trivial⟩
    · intro vs gq stq hl hf
      replace hl : vs.length = 10 := hl
      obtain ⟨v0, vs0, rfl, hl0⟩ := len_succ hl
      obtain ⟨v1, vs1, rfl, hl1⟩ := len_succ hl0
      obtain ⟨v2, vs2, rfl, hl2⟩ := len_succ hl1
      obtain ⟨v3, vs3, rfl, hl3⟩ := len_succ hl2
      obtain ⟨v4, vs4, rfl, hl4⟩ := len_succ hl3
      obtain ⟨v5, vs5, rfl, hl5⟩ := len_succ hl4
      obtain ⟨v6, vs6, rfl, hl6⟩ := len_succ hl5
      obtain ⟨v7, vs7, rfl, hl7⟩ := len_succ hl6
      obtain ⟨v8, vs8, rfl, hl8⟩ := len_succ hl7
      obtain ⟨v9, vs9, rfl, hl9⟩ := len_succ hl8
      obtain rfl := len_zero hl9
      have hR2 := (show RdS (Kd.int .u8) gq 5 a2 n2 c2 l2 from hf _ (List.mem_of_getElem? (i := 2) rfl) (by kernel_rfl))
      have e := (show v5 = .slice a2 n2 c2 from hf _ (List.mem_of_getElem? (i := 8) rfl) (by kernel_rfl))
      subst e
      refine WP.len (a := a2) (cp := c2) hR2.len (by kernel_rfl) ?_
      refine WP.done (by kernel_rfl) (Shown.ok (v := .int .i64 (l2.length : Int)) (by kernel_rfl) (Step.refl _ _) ?_)
      exact ⟨trivial, trivial, trivial, trivial, trivial, trivial, trivial, trivial, trivial, rfl, trivial, trivial, trivial, trivial, trivial⟩
    · intro vs gq stq hl hf
      replace hl : vs.length = 10 := hl
      obtain ⟨v0, vs0, rfl, hl0⟩ := len_succ hl
      obtain ⟨v1, vs1, rfl, hl1⟩ := len_succ hl0
      obtain ⟨v2, vs2, rfl, hl2⟩ := len_succ hl1
      obtain ⟨v3, vs3, rfl, hl3⟩ := len_succ hl2
      obtain ⟨v4, vs4, rfl, hl4⟩ := len_succ hl3
      obtain ⟨v5, vs5, rfl, hl5⟩ := len_succ hl4
      obtain ⟨v6, vs6, rfl, hl6⟩ := len_succ hl5
      obtain ⟨v7, vs7, rfl, hl7⟩ := len_succ hl6
      obtain ⟨v8, vs8, rfl, hl8⟩ := len_succ hl7
      obtain ⟨v9, vs9, rfl, hl9⟩ := len_succ hl8
      obtain rfl := len_zero hl9
      have hR2 := (show RdS (Kd.int .u8) gq 5 a2 n2 c2 l2 from hf _ (List.mem_of_getElem? (i := 2) rfl) (by kernel_rfl))
      have e := (show v4 = .slice a2 n2 c2 from hf _ (List.mem_of_getElem? (i := 7) rfl) (by kernel_rfl))
      subst e
      have e := (show v6 = .int .i64 (l2.length : Int) from hf _ (List.mem_of_getElem? (i := 9) rfl) (by kernel_rfl))
      subst e
      refine WP.sliceR (lo := none) (hi := some (.int .i64 (imin (l2.length : Int) 1100))) hR2 0 (imin (l2.length : Int) 1100) (by kernel_rfl) (.inl ⟨rfl, rfl⟩) (.inr ⟨_, rfl⟩) hc2 ?_
      intro a4 c4 hR4
      refine WP.done (by kernel_rfl) (Shown.ok (v := .slice a4 ((imin (l2.length : Int) 1100).toNat - (0 : Int).toNat) c4) (by kernel_rfl) (Step.refl _ _) ?_)
      exact ⟨trivial, trivial, trivial, trivial, trivial, trivial, trivial, trivial, trivial, trivial, ⟨a4, c4, rfl, hR4⟩, trivial, trivial, trivial, trivial⟩
    · intro vs gq stq hl hf
      replace hl : vs.length = 10 := hl
      obtain ⟨v0, vs0, rfl, hl0⟩ := len_succ hl
      obtain ⟨v1, vs1, rfl, hl1⟩ := len_succ hl0
      obtain ⟨v2, vs2, rfl, hl2⟩ := len_succ hl1
      obtain ⟨v3, vs3, rfl, hl3⟩ := len_succ hl2
      obtain ⟨v4, vs4, rfl, hl4⟩ := len_succ hl3
      obtain ⟨v5, vs5, rfl, hl5⟩ := len_succ hl4
      obtain ⟨v6, vs6, rfl, hl6⟩ := len_succ hl5
      obtain ⟨v7, vs7, rfl, hl7⟩ := len_succ hl6
      obtain ⟨v8, vs8, rfl, hl8⟩ := len_succ hl7
      obtain ⟨v9, vs9, rfl, hl9⟩ := len_succ hl8
      obtain rfl := len_zero hl9
      have hB1 := (show Box gq (t + 1) b1 26 [encA .u8 d1, [.int .i64 x1], [.int .i64 x2], [.int .i64 x3], [.slice a1 n1 c1], [.slice a2 n2 c2]] [8, 1, 1, 1, 1, 1] from hf _ (List.mem_of_getElem? (i := 0) rfl) (by kernel_rfl))
      have hR1 := (show RdS (Kd.int .u8) gq 5 a1 n1 c1 l1 from hf _ (List.mem_of_getElem? (i := 1) rfl) (by kernel_rfl))
      have hR2 := (show RdS (Kd.int .u8) gq 5 a2 n2 c2 l2 from hf _ (List.mem_of_getElem? (i := 2) rfl) (by kernel_rfl))
      obtain ⟨a3, c3, e, hR3⟩ := (show ∃ (a3 : Option Addr) (c3 : Nat), v3 = .slice a3 ((imin (l1.length : Int) 400).toNat - (0 : Int).toNat) c3 ∧ RdS (Kd.int .u8) gq 5 a3 ((imin (l1.length : Int) 400).toNat - (0 : Int).toNat) c3 (sliceI l1 0 (imin (l1.length : Int) 400)) from hf _ (List.mem_of_getElem? (i := 6) rfl) (by kernel_rfl))
      subst e
      refine WP.storeB (ty := 24) (off := 11) (v := .slice a3 ((imin (l1.length : Int) 400).toNat - (0 : Int).toNat) c3) hB1 [[.slice a3 ((imin (l1.length : Int) 400).toNat - (0 : Int).toNat) c3]] [1] (by kernel_rfl) (by kernel_rfl) rfl (by kernel_rfl) [encA .u8 d1, [.int .i64 x1], [.int .i64 x2], [.int .i64 x3], [.slice a3 ((imin (l1.length : Int) 400).toNat - (0 : Int).toNat) c3], [.slice a2 n2 c2]] (by kernel_rfl) (.one rfl .nil) ?_
      intro g3 st3 hB3
      refine WP.done (by kernel_rfl) (Shown.ok (v := undef) (by kernel_rfl) st3 ?_)
      exact ⟨trivial, trivial, trivial, trivial, trivial, trivial, trivial, trivial, trivial, trivial, trivial, ⟨a3, c3, rfl, (hR3.mono st3 (WL.no (by simp <;> omega))), hB3⟩, trivial, trivial, trivial⟩
    · intro vs gq stq hl hf
      replace hl : vs.length = 10 := hl
      obtain ⟨v0, vs0, rfl, hl0⟩ := len_succ hl
      obtain ⟨v1, vs1, rfl, hl1⟩ := len_succ hl0
      obtain ⟨v2, vs2, rfl, hl2⟩ := len_succ hl1
      obtain ⟨v3, vs3, rfl, hl3⟩ := len_succ hl2
      obtain ⟨v4, vs4, rfl, hl4⟩ := len_succ hl3
      obtain ⟨v5, vs5, rfl, hl5⟩ := len_succ hl4
      obtain ⟨v6, vs6, rfl, hl6⟩ := len_succ hl5
      obtain ⟨v7, vs7, rfl, hl7⟩ := len_succ hl6
      obtain ⟨v8, vs8, rfl, hl8⟩ := len_succ hl7
      obtain ⟨v9, vs9, rfl, hl9⟩ := len_succ hl8
      obtain rfl := len_zero hl9
      have hR2 := (show RdS (Kd.int .u8) gq 5 a2 n2 c2 l2 from hf _ (List.mem_of_getElem? (i := 2) rfl) (by kernel_rfl))
      obtain ⟨a4, c4, e, hR4⟩ := (show ∃ (a4 : Option Addr) (c4 : Nat), v7 = .slice a4 ((imin (l2.length : Int) 1100).toNat - (0 : Int).toNat) c4 ∧ RdS (Kd.int .u8) gq 5 a4 ((imin (l2.length : Int) 1100).toNat - (0 : Int).toNat) c4 (sliceI l2 0 (imin (l2.length : Int) 1100)) from hf _ (List.mem_of_getElem? (i := 10) rfl) (by kernel_rfl))
      subst e
      obtain ⟨a3, c3, e, hR3, hB1⟩ := (show ∃ (a3 : Option Addr) (c3 : Nat), v3 = .slice a3 ((imin (l1.length : Int) 400).toNat - (0 : Int).toNat) c3 ∧ RdS (Kd.int .u8) gq 5 a3 ((imin (l1.length : Int) 400).toNat - (0 : Int).toNat) c3 (sliceI l1 0 (imin (l1.length : Int) 400)) ∧ Box gq (t + 1) b1 26 [encA .u8 d1, [.int .i64 x1], [.int .i64 x2], [.int .i64 x3], [.slice a3 ((imin (l1.length : Int) 400).toNat - (0 : Int).toNat) c3], [.slice a2 n2 c2]] [8, 1, 1, 1, 1, 1] from hf _ (List.mem_of_getElem? (i := 11) rfl) (by kernel_rfl))
      subst e
      refine WP.storeB (ty := 24) (off := 12) (v := .slice a4 ((imin (l2.length : Int) 1100).toNat - (0 : Int).toNat) c4) hB1 [[.slice a4 ((imin (l2.length : Int) 1100).toNat - (0 : Int).toNat) c4]] [1] (by kernel_rfl) (by kernel_rfl) rfl (by kernel_rfl) [encA .u8 d1, [.int .i64 x1], [.int .i64 x2], [.int .i64 x3], [.slice a3 ((imin (l1.length : Int) 400).toNat - (0 : Int).toNat) c3], [.slice a4 ((imin (l2.length : Int) 1100).toNat - (0 : Int).toNat) c4]] (by kernel_rfl) (.one rfl .nil) ?_
      intro g4 st4 hB4
      refine WP.done (by kernel_rfl) (Shown.ok (v := undef) (by kernel_rfl) st4 ?_)
      exact ⟨trivial, trivial, trivial, trivial, trivial, trivial, trivial, trivial, trivial, trivial, trivial, trivial, hB4, ⟨a3, c3, rfl, (hR3.mono st4 (WL.no (by simp <;> omega)))⟩, trivial⟩
  intro vs g5 st5 hl hf
  replace hl : vs.length = 10 := hl
  obtain ⟨v0, vs0, rfl, hl0⟩ := len_succ hl
  obtain ⟨v1, vs1, rfl, hl1⟩ := len_succ hl0
  obtain ⟨v2, vs2, rfl, hl2⟩ := len_succ hl1
  obtain ⟨v3, vs3, rfl, hl3⟩ := len_succ hl2
  obtain ⟨v4, vs4, rfl, hl4⟩ := len_succ hl3
  obtain ⟨v5, vs5, rfl, hl5⟩ := len_succ hl4
  obtain ⟨v6, vs6, rfl, hl6⟩ := len_succ hl5
  obtain ⟨v7, vs7, rfl, hl7⟩ := len_succ hl6
  obtain ⟨v8, vs8, rfl, hl8⟩ := len_succ hl7
  obtain ⟨v9, vs9, rfl, hl9⟩ := len_succ hl8
  obtain rfl := len_zero hl9
  obtain ⟨a4, c4, e, hR4⟩ := (show ∃ (a4 : Option Addr) (c4 : Nat), v7 = .slice a4 ((imin (l2.length : Int) 1100).toNat - (0 : Int).toNat) c4 ∧ RdS (Kd.int .u8) g5 5 a4 ((imin (l2.length : Int) 1100).toNat - (0 : Int).toNat) c4 (sliceI l2 0 (imin (l2.length : Int) 1100)) from hf _ (List.mem_of_getElem? (i := 10) rfl) (by kernel_rfl))
  subst e
  obtain ⟨a3, c3, e, hR3⟩ := (show ∃ (a3 : Option Addr) (c3 : Nat), v3 = .slice a3 ((imin (l1.length : Int) 400).toNat - (0 : Int).toNat) c3 ∧ RdS (Kd.int .u8) g5 5 a3 ((imin (l1.length : Int) 400).toNat - (0 : Int).toNat) c3 (sliceI l1 0 (imin (l1.length : Int) 400)) from hf _ (List.mem_of_getElem? (i := 13) rfl) (by kernel_rfl))
  subst e
  have hB1 := (show Box g5 (t + 1) b1 26 [encA .u8 d1, [.int .i64 x1], [.int .i64 x2], [.int .i64 x3], [.slice a3 ((imin (l1.length : Int) 400).toNat - (0 : Int).toNat) c3], [.slice a4 ((imin (l2.length : Int) 1100).toNat - (0 : Int).toNat) c4]] [8, 1, 1, 1, 1, 1] from hf _ (List.mem_of_getElem? (i := 12) rfl) (by kernel_rfl))
  replace hB2 := hB2.mono st5 (WL.no1 (by omega))
  replace tot := tot.trans (st5.up1 (.inr (by omega)))
  refine NX.then_n ?_
  refine CP.refr 20 [(1, .pointer (some ⟨b1, 0, none⟩)), (2, .pointer (some ⟨b2, 0, none⟩))] (by kernel_rfl) (by kernel_rfl) ?_
  clear ds
  intro ds
  refine CP.seqR ?_
  refine WP.loadB (v := AG [encA .u8 d1, [.int .i64 x1], [.int .i64 x2], [.int .i64 x3], [.slice a3 ((imin (l1.length : Int) 400).toNat - (0 : Int).toNat) c3], [.slice a4 ((imin (l2.length : Int) 1100).toNat - (0 : Int).toNat) c4]]) hB1 (by kernel_rfl) (by kernel_rfl) ?_
  refine WP.storeB (ty := 26) (off := 0) (v := AG [encA .u8 d1, [.int .i64 x1], [.int .i64 x2], [.int .i64 x3], [.slice a3 ((imin (l1.length : Int) 400).toNat - (0 : Int).toNat) c3], [.slice a4 ((imin (l2.length : Int) 1100).toNat - (0 : Int).toNat) c4]]) hB2 [encA .u8 d1, [.int .i64 x1], [.int .i64 x2], [.int .i64 x3], [.slice a3 ((imin (l1.length : Int) 400).toNat - (0 : Int).toNat) c3], [.slice a4 ((imin (l2.length : Int) 1100).toNat - (0 : Int).toNat) c4]] [8, 1, 1, 1, 1, 1] (by kernel_rfl) (by kernel_rfl) (by simp [len_encA]) (by kernel_rfl) [encA .u8 d1, [.int .i64 x1], [.int .i64 x2], [.int .i64 x3], [.slice a3 ((imin (l1.length : Int) 400).toNat - (0 : Int).toNat) c3], [.slice a4 ((imin (l2.length : Int) 1100).toNat - (0 : Int).toNat) c4]] (by kernel_rfl) (.arr (.one rfl (.one rfl (.one rfl (.one rfl (.one rfl .nil)))))) ?_
  intro g6 st6 hB5
  replace hB1 := hB1.mono st6 (WL.no1 (by omega))
  replace hR3 := hR3.mono st6 (WL.no1 (by omega))
  replace hR4 := hR4.mono st6 (WL.no1 (by omega))
  replace tot := tot.trans (st6.up1 (.inr (by omega)))
  clear hB2
  have hB2 := hB5
  clear hB5
  refine WP.done (by kernel_rfl) ?_
  refine NX.then_n ?_
  refine CP.ret ?_
  replace hs := Option.some.inj hs
  simp only [Prod.mk.injEq] at hs
  obtain ⟨rfl, rfl, rfl, rfl, rfl, rfl⟩ := hs
  exact NX.fin (v := AG [encA .u8 d1, [.int .i64 x1], [.int .i64 x2], [.int .i64 x3], [.slice a3 ((imin (l1.length : Int) 400).toNat - (0 : Int).toNat) c3], [.slice a4 ((imin (l2.length : Int) 1100).toNat - (0 : Int).toNat) c4]]) (Res.one rfl (RV.box (agg := true) (size := 13) (rs := [encA .u8 d1, [.int .i64 x1], [.int .i64 x2], [.int .i64 x3], [.slice a3 ((imin (l1.length : Int) 400).toNat - (0 : Int).toNat) c3], [.slice a4 ((imin (l2.length : Int) 1100).toNat - (0 : Int).toNat) c4]]) hB2 (by kernel_rfl) (by kernel_rfl) (by kernel_rfl) (by kernel_rfl))) tot htL ⟨a3, ((imin (l1.length : Int) 400).toNat - (0 : Int).toNat), c3, a4, ((imin (l2.length : Int) 1100).toNat - (0 : Int).toNat), c4, rfl, hR3, hR4⟩
def F.slices_Clone_byte_byte_nil : Option ((List Int)) := (some ([]))
theorem P.slices_Clone_byte_byte_nil (g0 : GW) (r0 : Nat) (o1 : List Int) (hs : F.slices_Clone_byte_byte_nil = some o1) :
    Calls Try.prog 46 #[.slice none 0 0] g0.w (Ret NoM g0 fun v g => ∃ (a_1 : Option Addr) (n_1 : Nat) (c_1 : Nat), v = .slice a_1 n_1 c_1 ∧ OwnS (Kd.int .u8) g r0 5 a_1 n_1 c_1 o1) := by
  refine calls_of (args := [.slice none 0 0]) Try.func46 rfl (r0 + 0) ?_
  intro t ht htL
  refine ⟨_, rfl, ?_⟩
  refine CP.refr 8 [(0, .slice none 0 0)] (by kernel_rfl) (by kernel_rfl) ?_
  intro ds
  have tot : Step (fun l => NoM l ∨ t ≤ l) g0 g0 := Step.refl _ _
  unfold F.slices_Clone_byte_byte_nil at hs
  refine CP.seqR ?_
  refine WP.still 1 (by kernel_rfl) ?_
  refine WP.done (by kernel_rfl) ?_
  refine NX.then_n ?_
  refine CP.seq ?_
  refine CP.seqR ?_
  refine WP.still 2 (by kernel_rfl) ?_
  refine WP.done (by kernel_rfl) ?_
  refine NX.then_n ?_
  refine CP.cond_t (by kernel_rfl) ?_
  refine CP.seqR ?_
  refine WP.still 1 (by kernel_rfl) ?_
  refine WP.done (by kernel_rfl) ?_
  refine NX.then_n ?_
  refine CP.ret ?_
  refine NX.then_r ?_
  replace hs := Option.some.inj hs
  obtain rfl := hs
  exact NX.fin (v := .slice none 0 0) (Res.still (by kernel_rfl)) tot htL ⟨none, 0, 0, rfl, (OwnS.nil _ _ _ _)⟩
def F.slices_Clone_byte_byte_some (l1 : List Int) : Option ((List Int)) := (if ([] : List Int).length + l1.length ≤ 140737488355328 then (some (([] : List Int) ++ l1)) else none)
theorem P.slices_Clone_byte_byte_some (g0 : GW) (r0 : Nat) (l1 : List Int) (n1 : Nat) (c1 : Nat) (p1 : Addr) (hR1 : RdS (Kd.int .u8) g0 5 (some p1) n1 c1 l1) (o1 : List Int) (hs : F.slices_Clone_byte_byte_some l1 = some o1) :
    Calls Try.prog 46 #[.slice (some p1) n1 c1] g0.w (Ret NoM g0 fun v g => ∃ (a_1 : Option Addr) (n_1 : Nat) (c_1 : Nat), v = .slice a_1 n_1 c_1 ∧ OwnS (Kd.int .u8) g r0 5 a_1 n_1 c_1 o1) := by
  refine calls_of (args := [.slice (some p1) n1 c1]) Try.func46 rfl (r0 + 0) ?_
  intro t ht htL
  refine ⟨_, rfl, ?_⟩
  refine CP.refr 8 [(0, .slice (some p1) n1 c1)] (by kernel_rfl) (by kernel_rfl) ?_
  intro ds
  have tot : Step (fun l => NoM l ∨ t ≤ l) g0 g0 := Step.refl _ _
  unfold F.slices_Clone_byte_byte_some at hs
  refine CP.seqR ?_
  refine WP.still 1 (by kernel_rfl) ?_
  refine WP.done (by kernel_rfl) ?_
  refine NX.then_n ?_
  refine CP.seq ?_
  refine CP.seqR ?_
  refine WP.still 2 (by kernel_rfl) ?_
  refine WP.done (by kernel_rfl) ?_
  refine NX.then_n ?_
  refine CP.cond_f (by kernel_rfl) ?_
  refine CP.skip ?_
  refine NX.then_n ?_
  refine CP.seqR ?_
  refine WP.mkSl (kd := (Kd.int .u8)) (t := 24) (e := 5) (bytes := 1) (t + 1) [] ([] : List Int) (by kernel_rfl) (by kernel_rfl) (Nat.le_of_ble_eq_true rfl) (Nat.le_of_ble_eq_true rfl) all_nil (rfl) rfl ?_
  intro g1 a1 st1 hR2
  replace hR1 := hR1.mono st1 (fun x => x)
  replace tot := tot.trans st1.pure
  refine WP.still 1 (by kernel_rfl) ?_
  by_cases hc1 : ([] : List Int).length + l1.length ≤ 140737488355328
  case neg => rw [if_neg hc1] at hs; cases hs
  replace hs := of_if_p hs hc1
  refine WP.append (kd := (Kd.int .u8)) (t := 24) (e := 5) (bytes := 1) (a2 := (some p1)) (c2 := c1) hR2 hR1.src hR1.len (by kernel_rfl) (by kernel_rfl) (by omega) (by simp only [maxLen]; omega) (by omega) ?_
  intro g2 a2 c2 st2 hR3
  replace hR1 := hR1.mono st2 (WL.no1 (by omega))
  replace tot := tot.trans (st2.up1 (.inr (by omega)))
  refine WP.still 1 (by kernel_rfl) ?_
  refine WP.done (by kernel_rfl) ?_
  refine NX.then_n ?_
  refine CP.ret ?_
  obtain ⟨g3, hw1, st3, hnew⟩ := hR3.relab (by omega) r0
  refine NX.regw hw1 ?_
  replace tot := tot.trans (st3.up1 (.inr (by omega)))
  clear hR3
  have hR3 := hnew
  clear hnew
  replace hs := Option.some.inj hs
  obtain rfl := hs
  exact NX.fin (v := .slice a2 (0 + n1) c2) (Res.still (by kernel_rfl)) tot htL ⟨a2, (0 + n1), c2, rfl, hR3⟩
def F.slices_Clone_byte_byte (l1 : List Int) : Option ((List Int)) := F.slices_Clone_byte_byte_some l1
theorem P.slices_Clone_byte_byte (g0 : GW) (r0 : Nat) (l1 : List Int) (a1 : Option Addr) (n1 : Nat) (c1 : Nat) (hR1 : RdS (Kd.int .u8) g0 5 a1 n1 c1 l1) (o1 : List Int) (hs : F.slices_Clone_byte_byte l1 = some o1) :
    Calls Try.prog 46 #[.slice a1 n1 c1] g0.w (Ret NoM g0 fun v g => ∃ (a_1 : Option Addr) (n_1 : Nat) (c_1 : Nat), v = .slice a_1 n_1 c_1 ∧ OwnS (Kd.int .u8) g r0 5 a_1 n_1 c_1 o1) := by
  rcases hR1.nilOr with ⟨rfl, rfl, rfl, rfl⟩ | ⟨b, rfl⟩
  · exact P.slices_Clone_byte_byte_nil _ _ _ hs
  · exact P.slices_Clone_byte_byte_some _ _ _ _ _ _ hR1 _ hs
def F.octet_NewReader (l1 : List Int) : Option ((List Int) × Int) := ((F.slices_Clone_byte_byte l1).bind fun l2 => (some (l2, 0)))
theorem P.octet_NewReader (g0 : GW) (r0 : Nat) (l1 : List Int) (a1 : Option Addr) (n1 : Nat) (c1 : Nat) (hR1 : RdS (Kd.int .u8) g0 5 a1 n1 c1 l1) (o1 : List Int) (o2 : Int) (hs : F.octet_NewReader l1 = some (o1, o2)) :
    Calls Try.prog 33 #[.slice a1 n1 c1] g0.w (Ret NoM g0 fun v g => ∃ (b_1 : Nat) (a_2 : Option Addr) (n_2 : Nat) (c_2 : Nat), v = .pointer (some ⟨b_1, 0, none⟩) ∧ Box g r0 b_1 105 [[.slice a_2 n_2 c_2], [.int .i64 o2]] [1, 1] ∧ RdS (Kd.int .u8) g 5 a_2 n_2 c_2 o1) := by
  refine calls_of (args := [.slice a1 n1 c1]) Try.func33 rfl (r0 + 0) ?_
  intro t ht htL
  refine ⟨_, rfl, ?_⟩
  refine CP.refr 7 [(0, .slice a1 n1 c1)] (by kernel_rfl) (by kernel_rfl) ?_
  intro ds
  have tot : Step (fun l => NoM l ∨ t ≤ l) g0 g0 := Step.refl _ _
  unfold F.octet_NewReader at hs
  refine CP.seqR ?_
  refine WP.still 1 (by kernel_rfl) ?_
  refine WP.done (by kernel_rfl) ?_
  refine NX.then_n ?_
  refine CP.seqR ?_
  refine WP.still 1 (by kernel_rfl) ?_
  replace hs := Option.bind_eq_some_iff.1 hs
  obtain ⟨l2, hk1, hs⟩ := hs
  have hcal1 := P.slices_Clone_byte_byte g0 (t + 1) l1 a1 n1 c1 hR1 l2 hk1
  refine WP.callC hcal1 (by kernel_rfl) ?_
  rintro _ g1 st1 ⟨a2, n2, c2, rfl, hR2⟩
  replace hR1 := hR1.mono st1 (fun x => x)
  replace tot := tot.trans st1.pure
  refine WP.still 1 (by kernel_rfl) ?_
  refine WP.alloc (T := 105) (t + 2) [[.slice a2 n2 c2], [.int .i64 0]] [1, 1] (by kernel_rfl) rfl ?_
  intro g2 b1 st2 hB1
  replace hR1 := hR1.mono st2 (fun x => x)
  replace hR2 := hR2.mono st2 (fun x => x) (fun x => x)
  replace tot := tot.trans st2.pure
  refine WP.still 1 (by kernel_rfl) ?_
  refine WP.done (by kernel_rfl) ?_
  refine NX.then_n ?_
  refine CP.ret ?_
  obtain ⟨g3, hw1, st3, hnew⟩ := hB1.relab r0
  refine NX.regw hw1 ?_
  replace hR2 := hR2.mono st3 (WL.no1 (by omega)) (WL.no1 (by omega))
  replace tot := tot.trans (st3.up1 (.inr (by omega)))
  clear hB1
  have hB1 := hnew
  clear hnew
  obtain ⟨g4, hw2, st4, hnew⟩ := hR2.freeze (by omega)
  refine NX.regw hw2 ?_
  replace hB1 := hB1.mono st4 (WL.no1 (by omega))
  replace tot := tot.trans (st4.up1 (.inr (by omega)))
  clear hR2
  have hR2 := hnew
  clear hnew
  replace hs := Option.some.inj hs
  obtain ⟨rfl, rfl⟩ := Prod.mk.inj hs
  exact NX.fin (v := .pointer (some ⟨b1, 0, none⟩)) (Res.still (by kernel_rfl)) tot htL ⟨b1, a2, n2, c2, rfl, hB1, hR2⟩
def F.math_bits_Len8 (x1 : Int) : Option (Int) := (if (0 : Int) ≤ x1 ∧ x1 < (str_0.size : Int) then (some (IntKind.i64.wrap (getI (strBytes str_0) x1))) else none)
theorem P.math_bits_Len8 (g0 : GW) (x1 : Int) (o1 : Int) (hs : F.math_bits_Len8 x1 = some o1) :
    Calls Try.prog 75 #[.int .u8 x1] g0.w (Ret NoM g0 fun v g => v = .int .i64 o1) := by
  refine calls_of (args := [.int .u8 x1]) Try.func75 rfl (0) ?_
  intro t ht htL
  refine ⟨_, rfl, ?_⟩
  refine CP.refr 6 [(0, .int .u8 x1)] (by kernel_rfl) (by kernel_rfl) ?_
  intro ds
  have tot : Step (fun l => NoM l ∨ t ≤ l) g0 g0 := Step.refl _ _
  unfold F.math_bits_Len8 at hs
  refine CP.seqR ?_
  refine WP.still 1 (by kernel_rfl) ?_
  refine WP.done (by kernel_rfl) ?_
  refine NX.then_n ?_
  refine CP.seqR ?_
  refine WP.still 1 (by kernel_rfl) ?_
  by_cases hc1 : (0 : Int) ≤ x1 ∧ x1 < (str_0.size : Int)
  case neg => rw [if_neg hc1] at hs; cases hs
  replace hs := of_if_p hs hc1
  refine WP.indexS (s := str_0) (k := .u8) (i := x1) (by kernel_rfl) hc1 ?_
  refine WP.still 2 (by kernel_rfl) ?_
  refine WP.done (by kernel_rfl) ?_
  refine NX.then_n ?_
  refine CP.ret ?_
  replace hs := Option.some.inj hs
  obtain rfl := hs
  exact NX.fin (v := .int .i64 (IntKind.i64.wrap (getI (strBytes str_0) x1))) (Res.still (by kernel_rfl)) tot htL rfl
def F.octet_number.c1 (l1 : List Int) : Option (Int × Int × Int) := (if decide ((l1.length : Int) < 10) = true then (some (0, 0, 4)) else (some (0, 0, 3)))
def F.octet_number.c2 (nx1 : Int → Int → Option (Int × Int × Int)) (l1 : List Int) (x8 : Int) (x9 : Int) (q5 : Bool) : Option (Int × Int × Int) := (if q5 = true then (some (0, 0, 3)) else ((F.math_bits_Len8 (bitAnd .u8 (getI l1 x9) 127)).bind fun x13 => (if decide ((IntKind.i64.wrap (x13 + (IntKind.i64.wrap (7 * x9)))) > 64) = true then (some (0, 0, 3)) else (if (0 : Int) ≤ (IntKind.i64.wrap (7 * x9)) then (if decide ((getI l1 x9) < 128) = true then (some ((bitOr .u64 x8 (shV true .u64 (IntKind.u64.wrap (bitAnd .u8 (getI l1 x9) 127)) (IntKind.i64.wrap (7 * x9)))), (IntKind.i64.wrap (x9 + 1)), 0)) else (nx1 (bitOr .u64 x8 (shV true .u64 (IntKind.u64.wrap (bitAnd .u8 (getI l1 x9) 127)) (IntKind.i64.wrap (7 * x9)))) (IntKind.i64.wrap (x9 + 1)))) else none))))
def F.octet_number.l1 (l1 : List Int) : Nat → Int → Int → Option (Int × Int × Int)
  | 0, _, _ => none
  | k + 1, x8, x9 => (if decide (x9 < (l1.length : Int)) = true then (if (0 : Int) ≤ x9 ∧ x9 < (l1.length : Int) then (if (x9 == 10) = true then (F.octet_number.c1 l1) else (if decide ((getI l1 x9) < 128) = true then (if ((getI l1 x9) == 0) = true then (F.octet_number.c2 (F.octet_number.l1 l1 k) l1 x8 x9 (decide (x9 > 0))) else (F.octet_number.c2 (F.octet_number.l1 l1 k) l1 x8 x9 false)) else (F.octet_number.c2 (F.octet_number.l1 l1 k) l1 x8 x9 false))) else none) else (F.octet_number.c1 l1))
def F.octet_number (l1 : List Int) : Option (Int × Int × Int) := (F.octet_number.l1 l1 fuel 0 0)
theorem P.octet_number (g0 : GW) (l1 : List Int) (a1 : Option Addr) (n1 : Nat) (c1 : Nat) (hR1 : RdS (Kd.int .u8) g0 5 a1 n1 c1 l1) (o1 : Int) (o2 : Int) (o3 : Int) (hs : F.octet_number l1 = some (o1, o2, o3)) :
    Calls Try.prog 57 #[.slice a1 n1 c1] g0.w (Ret NoM g0 fun v g => v = .tuple #[.int .u64 o1, .int .i64 o2, .int .i64 o3]) := by
  refine calls_of (args := [.slice a1 n1 c1]) Try.func57 rfl (0) ?_
  intro t ht htL
  refine ⟨_, rfl, ?_⟩
  refine CP.refr 54 [(0, .slice a1 n1 c1)] (by kernel_rfl) (by kernel_rfl) ?_
  intro ds
  have tot : Step (fun l => NoM l ∨ t ≤ l) g0 g0 := Step.refl _ _
  unfold F.octet_number at hs
  refine CP.seqR ?_
  refine WP.still 3 (by kernel_rfl) ?_
  refine WP.done (by kernel_rfl) ?_
  refine NX.then_n ?_
  refine CP.scope ?_
  refine CP.seqR ?_
  refine WP.still 1 (by kernel_rfl) ?_
  refine WP.done (by kernel_rfl) ?_
  refine NX.then_n ?_
  refine CP.seq ?_
  refine CP.label ?_
  refine NX.then_n ?_
  refine CP.cut (fun tm g => Fr 54 [(0, .slice a1 n1 c1)] tm ∧ Step (fun l => NoM l ∨ t ≤ l) g0 g ∧ RdS (Kd.int .u8) g 5 a1 n1 c1 l1 ∧ (F.octet_number.c1 l1) = some (o1, o2, o3)) ?_ ?_
  · refine CP.seqR ?_
    refine WP.still 1 (by kernel_rfl) ?_
    refine WP.len (a := a1) (cp := c1) hR1.len (by kernel_rfl) ?_
    refine WP.still 1 (by kernel_rfl) ?_
    refine WP.done (by kernel_rfl) ?_
    refine NX.then_n ?_
    refine CP.block ?_
    generalize fuel = k1 at hs
    refine CP.loop (fun k1 tm g => ∃ (x8 : Int) (x9 : Int), Fr 54 [(0, .slice a1 n1 c1), (5, .int .u64 x8), (8, .slice a1 n1 c1), (9, .int .i64 (l1.length : Int)), (10, .int .i64 x9)] tm ∧ Step (fun l => NoM l ∨ t ≤ l) g0 g ∧ RdS (Kd.int .u8) g 5 a1 n1 c1 l1 ∧ F.octet_number.l1 l1 k1 x8 x9 = some (o1, o2, o3)) k1 ?_ ?_ ?_
    · exact ⟨0, 0, ⟨by kernel_rfl, by kernel_rfl⟩, tot, hR1, hs⟩
    · rintro tm g ⟨x8, x9, hF, tot, hR1, hs⟩
      exact absurd hs (by simp [F.octet_number.l1])
    clear tot hs hR1
    rintro k1 tm g ⟨x8, x9, hF, tot, hR1, hs⟩
    clear ds
    obtain ⟨ds, rfl⟩ := hF.open
    clear hF
    unfold F.octet_number.l1 at hs
    refine CP.seqR ?_
    refine WP.still 1 (by kernel_rfl) ?_
    refine WP.done (by kernel_rfl) ?_
    refine NX.then_n ?_
    refine CP.seq ?_
    refine CP.cond (b := decide (x9 < (l1.length : Int))) (by kernel_rfl) (fun h30 => ?_) (fun h30 => ?_)
    · replace hs := of_if_t hs h30
      refine CP.skip ?_
      refine NX.then_n ?_
      refine CP.seq ?_
      refine CP.block ?_
      refine CP.seqR ?_
      refine WP.still 1 (by kernel_rfl) ?_
      by_cases hc9 : (0 : Int) ≤ x9 ∧ x9 < (l1.length : Int)
      case neg => rw [if_neg hc9] at hs; cases hs
      replace hs := of_if_p hs hc9
      obtain ⟨b5, u5, ha5⟩ := hR1.at hc9
      refine WP.indexA (t := 24) (e := 5) (sz := 1) (cap := c1) (k := .i64) (i := x9) hR1.len ha5 (by kernel_rfl) (by kernel_rfl) hc9 ?_
      obtain ⟨cs5, hcR5, hcV5⟩ := hR1.src.view (getI_some hc9) ha5
      replace hcR5 := Kd.o_int hcR5
      refine WP.loadV [[.int .u8 (getI l1 x9)]] [1] hcV5 hcR5 rfl (f := 0) (ty := 5) (agg := false) (size := 1) (rs := [[.int .u8 (getI l1 x9)]]) (v := .int .u8 (getI l1 x9)) (by kernel_rfl) (by kernel_rfl) (by kernel_rfl) (by kernel_rfl) ?_
      refine WP.still 2 (by kernel_rfl) ?_
      refine WP.done (by kernel_rfl) ?_
      refine NX.then_n ?_
      refine CP.seq ?_
      refine CP.block ?_
      refine CP.seqR ?_
      refine WP.still 3 (by kernel_rfl) ?_
      refine WP.done (by kernel_rfl) ?_
      refine NX.then_n ?_
      refine CP.cond (b := (x9 == 10)) (by kernel_rfl) (fun h31 => ?_) (fun h31 => ?_)
      · replace hs := of_if_t hs h31
        refine CP.exit ?_
        refine NX.block_o (by rfl) ?_
        refine NX.then_e ?_
        refine NX.block_o (by rfl) ?_
        refine NX.then_e ?_
        refine NX.then_e ?_
        refine NX.block_s ?_
        refine NX.post ?_
        exact ⟨⟨by kernel_rfl, by kernel_rfl⟩, tot, hR1, hs⟩
      replace hs := of_if_f hs h31
      refine CP.cut (fun tm g => ∃ (q5 : Bool), Fr 54 [(0, .slice a1 n1 c1), (5, .int .u64 x8), (6, .int .i64 x9), (7, .int .u8 (getI l1 x9)), (8, .slice a1 n1 c1), (9, .int .i64 (l1.length : Int)), (10, .int .i64 x9), (18, .bool q5)] tm ∧ Step (fun l => NoM l ∨ t ≤ l) g0 g ∧ RdS (Kd.int .u8) g 5 a1 n1 c1 l1 ∧ (F.octet_number.c2 (F.octet_number.l1 l1 k1) l1 x8 x9 q5) = some (o1, o2, o3)) ?_ ?_
      · refine CP.region ?_
        refine WP.still 3 (by kernel_rfl) ?_
        refine WP.guard 21 (b := decide ((getI l1 x9) < 128)) (by kernel_rfl) (fun h37 => ?_) (fun h37 => ?_)
        · replace hs := of_if_t hs h37
          refine WP.still 4 (by kernel_rfl) ?_
          refine WP.guard 25 (b := ((getI l1 x9) == 0)) (by kernel_rfl) (fun h38 => ?_) (fun h38 => ?_)
          · replace hs := of_if_t hs h38
            refine WP.still 4 (by kernel_rfl) ?_
            refine WP.done (by kernel_rfl) ?_
            refine NX.post ?_
            exact ⟨decide (x9 > 0), ⟨by kernel_rfl, by kernel_rfl⟩, tot, hR1, hs⟩
          replace hs := of_if_f hs h38
          refine WP.still 4 (by kernel_rfl) ?_
          refine WP.done (by kernel_rfl) ?_
          refine NX.post ?_
          exact ⟨false, ⟨by kernel_rfl, by kernel_rfl⟩, tot, hR1, hs⟩
        replace hs := of_if_f hs h37
        refine WP.still 8 (by kernel_rfl) ?_
        refine WP.done (by kernel_rfl) ?_
        refine NX.post ?_
        exact ⟨false, ⟨by kernel_rfl, by kernel_rfl⟩, tot, hR1, hs⟩
      clear tot hs hR1
      rintro tm g ⟨q5, hF, tot, hR1, hs⟩
      clear ds
      obtain ⟨ds, rfl⟩ := hF.open
      clear hF
      unfold F.octet_number.c2 at hs
      refine CP.cond (b := q5) (by kernel_rfl) (fun h34 => ?_) (fun h34 => ?_)
      · replace hs := of_if_t hs h34
        refine CP.seqR ?_
        refine WP.still 3 (by kernel_rfl) ?_
        refine WP.done (by kernel_rfl) ?_
        refine NX.then_n ?_
        refine CP.ret ?_
        refine NX.block_r ?_
        refine NX.then_r ?_
        refine NX.block_r ?_
        refine NX.then_r ?_
        refine NX.then_r ?_
        refine NX.block_r ?_
        refine NX.then_r ?_
        refine NX.scope_r ?_
        replace hs := Option.some.inj hs
        simp only [Prod.mk.injEq] at hs
        obtain ⟨rfl, rfl, rfl⟩ := hs
        exact NX.fin (v := .tuple #[.int .u64 0, .int .i64 0, .int .i64 3]) (Res.still (by kernel_rfl)) tot htL rfl
      replace hs := of_if_f hs h34
      refine CP.seqR ?_
      refine WP.still 2 (by kernel_rfl) ?_
      replace hs := Option.bind_eq_some_iff.1 hs
      obtain ⟨x13, hk5, hs⟩ := hs
      have hcal5 := P.math_bits_Len8 g (bitAnd .u8 (getI l1 x9) 127) x13 hk5
      refine WP.callC hcal5 (by kernel_rfl) ?_
      rintro _ g5 st5 rfl
      replace hR1 := hR1.mono st5 (fun x => x)
      replace tot := tot.trans st5.pure
      refine WP.still 5 (by kernel_rfl) ?_
      refine WP.done (by kernel_rfl) ?_
      refine NX.then_n ?_
      refine CP.cond (b := decide ((IntKind.i64.wrap (x13 + (IntKind.i64.wrap (7 * x9)))) > 64)) (by kernel_rfl) (fun h35 => ?_) (fun h35 => ?_)
      · replace hs := of_if_t hs h35
        refine CP.seqR ?_
        refine WP.still 3 (by kernel_rfl) ?_
        refine WP.done (by kernel_rfl) ?_
        refine NX.then_n ?_
        refine CP.ret ?_
        refine NX.block_r ?_
        refine NX.then_r ?_
        refine NX.block_r ?_
        refine NX.then_r ?_
        refine NX.then_r ?_
        refine NX.block_r ?_
        refine NX.then_r ?_
        refine NX.scope_r ?_
        replace hs := Option.some.inj hs
        simp only [Prod.mk.injEq] at hs
        obtain ⟨rfl, rfl, rfl⟩ := hs
        exact NX.fin (v := .tuple #[.int .u64 0, .int .i64 0, .int .i64 3]) (Res.still (by kernel_rfl)) tot htL rfl
      replace hs := of_if_f hs h35
      refine CP.skip ?_
      refine NX.block_n ?_
      refine NX.then_n ?_
      refine CP.seqR ?_
      refine WP.still 6 (by kernel_rfl) ?_
      by_cases hc10 : (0 : Int) ≤ (IntKind.i64.wrap (7 * x9))
      case neg => rw [if_neg hc10] at hs; cases hs
      replace hs := of_if_p hs hc10
      refine WP.shift (left := true) (k := .u64) (yk := .i64) (x := (IntKind.u64.wrap (bitAnd .u8 (getI l1 x9) 127))) (y := (IntKind.i64.wrap (7 * x9))) (by kernel_rfl) hc10 ?_
      refine WP.still 2 (by kernel_rfl) ?_
      refine WP.done (by kernel_rfl) ?_
      refine NX.then_n ?_
      refine CP.refr 54 [(0, .slice a1 n1 c1), (5, .int .u64 (bitOr .u64 x8 (shV true .u64 (IntKind.u64.wrap (bitAnd .u8 (getI l1 x9) 127)) (IntKind.i64.wrap (7 * x9))))), (6, .int .i64 x9), (7, .int .u8 (getI l1 x9)), (8, .slice a1 n1 c1), (9, .int .i64 (l1.length : Int)), (10, .int .i64 x9)] (by kernel_rfl) (by kernel_rfl) ?_
      clear ds
      intro ds
      refine CP.seqR ?_
      refine WP.still 2 (by kernel_rfl) ?_
      refine WP.done (by kernel_rfl) ?_
      refine NX.then_n ?_
      refine CP.cond (b := decide ((getI l1 x9) < 128)) (by kernel_rfl) (fun h36 => ?_) (fun h36 => ?_)
      · replace hs := of_if_t hs h36
        refine CP.seqR ?_
        refine WP.still 6 (by kernel_rfl) ?_
        refine WP.done (by kernel_rfl) ?_
        refine NX.then_n ?_
        refine CP.ret ?_
        refine NX.block_r ?_
        refine NX.then_r ?_
        refine NX.then_r ?_
        refine NX.block_r ?_
        refine NX.then_r ?_
        refine NX.scope_r ?_
        replace hs := Option.some.inj hs
        simp only [Prod.mk.injEq] at hs
        obtain ⟨rfl, rfl, rfl⟩ := hs
        exact NX.fin (v := .tuple #[.int .u64 (bitOr .u64 x8 (shV true .u64 (IntKind.u64.wrap (bitAnd .u8 (getI l1 x9) 127)) (IntKind.i64.wrap (7 * x9)))), .int .i64 (IntKind.i64.wrap (x9 + 1)), .int .i64 0]) (Res.still (by kernel_rfl)) tot htL rfl
      replace hs := of_if_f hs h36
      refine CP.skip ?_
      refine NX.block_n ?_
      refine NX.then_n ?_
      refine CP.region ?_
      refine WP.still 2 (by kernel_rfl) ?_
      refine WP.done (by kernel_rfl) ?_
      refine NX.post ?_
      exact ⟨(bitOr .u64 x8 (shV true .u64 (IntKind.u64.wrap (bitAnd .u8 (getI l1 x9) 127)) (IntKind.i64.wrap (7 * x9)))), (IntKind.i64.wrap (x9 + 1)), ⟨by kernel_rfl, by kernel_rfl⟩, tot, hR1, hs⟩
    replace hs := of_if_f hs h30
    refine CP.exit ?_
    refine NX.then_e ?_
    refine NX.then_e ?_
    refine NX.block_s ?_
    refine NX.post ?_
    exact ⟨⟨by kernel_rfl, by kernel_rfl⟩, tot, hR1, hs⟩
  clear tot hs hR1
  rintro tm g ⟨hF, tot, hR1, hs⟩
  clear ds
  obtain ⟨ds, rfl⟩ := hF.open
  clear hF
  unfold F.octet_number.c1 at hs
  refine CP.seq ?_
  refine CP.seqR ?_
  refine WP.still 1 (by kernel_rfl) ?_
  refine WP.len (a := a1) (cp := c1) hR1.len (by kernel_rfl) ?_
  refine WP.still 1 (by kernel_rfl) ?_
  refine WP.done (by kernel_rfl) ?_
  refine NX.then_n ?_
  refine CP.cond (b := decide ((l1.length : Int) < 10)) (by kernel_rfl) (fun h15 => ?_) (fun h15 => ?_)
  · replace hs := of_if_t hs h15
    refine CP.seqR ?_
    refine WP.still 3 (by kernel_rfl) ?_
    refine WP.done (by kernel_rfl) ?_
    refine NX.then_n ?_
    refine CP.ret ?_
    refine NX.then_r ?_
    refine NX.scope_r ?_
    replace hs := Option.some.inj hs
    simp only [Prod.mk.injEq] at hs
    obtain ⟨rfl, rfl, rfl⟩ := hs
    exact NX.fin (v := .tuple #[.int .u64 0, .int .i64 0, .int .i64 4]) (Res.still (by kernel_rfl)) tot htL rfl
  replace hs := of_if_f hs h15
  refine CP.skip ?_
  refine NX.then_n ?_
  refine CP.seqR ?_
  refine WP.still 3 (by kernel_rfl) ?_
  refine WP.done (by kernel_rfl) ?_
  refine NX.then_n ?_
  refine CP.ret ?_
  refine NX.scope_r ?_
  replace hs := Option.some.inj hs
  simp only [Prod.mk.injEq] at hs
  obtain ⟨rfl, rfl, rfl⟩ := hs
  exact NX.fin (v := .tuple #[.int .u64 0, .int .i64 0, .int .i64 3]) (Res.still (by kernel_rfl)) tot htL rfl
def F.octet_Reader_Num_1.c1 (x3 : Int) (x4 : Int) (x6 : Int) : Option (Int × Int × Int) := (some (x4, x6, x3))
def F.octet_Reader_Num_1.c2 (x3 : Int) (x4 : Int) (x5 : Int) (q2 : Bool) : Option (Int × Int × Int) := (if q2 = true then (F.octet_Reader_Num_1.c1 x3 x4 2) else (F.octet_Reader_Num_1.c1 x3 x4 x5))
def F.octet_Reader_Num_1 (l1 : List Int) (x1 : Int) (x2 : Int) : Option (Int × Int × Int) := ((F.octet_number l1).bind fun (x3, x4, x5) => (if (x5 == 0) = true then (F.octet_Reader_Num_1.c2 x3 x4 x5 (decide (x3 > x1))) else (F.octet_Reader_Num_1.c2 x3 x4 x5 false)))
theorem P.octet_Reader_Num_1 (g0 : GW) (m0 : Nat) (m1 : Nat) (l1 : List Int) (x1 : Int) (x2 : Int) (a1 : Option Addr) (n1 : Nat) (c1 : Nat) (b1 : Nat) (b2 : Nat) (hR1 : RdS (Kd.int .u8) g0 5 a1 n1 c1 l1) (hB1 : Box g0 m0 b1 41 [[.int .u64 x1]] [1]) (hB2 : Box g0 m1 b2 41 [[.int .u64 x2]] [1]) (hm1_0 : m1 ≠ m0) (hm0 : m0 ≠ 0) (hm1 : m1 ≠ 0) (o1 : Int) (o2 : Int) (o3 : Int) (hs : F.octet_Reader_Num_1 l1 x1 x2 = some (o1, o2, o3)) :
    Calls Try.prog 56 #[.slice a1 n1 c1, .pointer (some ⟨b1, 0, none⟩), .pointer (some ⟨b2, 0, none⟩)] g0.w (Ret (WL [m1]) g0 fun v g => v = .tuple #[.int .i64 o1, .int .i64 o2] ∧ Box g m1 b2 41 [[.int .u64 o3]] [1]) := by
  refine calls_of (args := [.slice a1 n1 c1, .pointer (some ⟨b1, 0, none⟩), .pointer (some ⟨b2, 0, none⟩)]) Try.func56 rfl (m0 + m1 + 0) ?_
  intro t ht htL
  refine ⟨_, rfl, ?_⟩
  refine CP.refr 25 [(0, .slice a1 n1 c1), (1, .pointer (some ⟨b1, 0, none⟩)), (2, .pointer (some ⟨b2, 0, none⟩))] (by kernel_rfl) (by kernel_rfl) ?_
  intro ds
  have tot : Step (fun l => (WL [m1]) l ∨ t ≤ l) g0 g0 := Step.refl _ _
  unfold F.octet_Reader_Num_1 at hs
  refine CP.seqR ?_
  refine WP.still 2 (by kernel_rfl) ?_
  refine WP.done (by kernel_rfl) ?_
  refine NX.then_n ?_
  refine CP.seqR ?_
  refine WP.still 1 (by kernel_rfl) ?_
  replace hs := Option.bind_eq_some_iff.1 hs
  obtain ⟨⟨x3, x4, x5⟩, hk1, hs⟩ := hs
  dsimp only at hs
  have hcal1 := P.octet_number g0 l1 a1 n1 c1 hR1 x3 x4 x5 hk1
  refine WP.callC hcal1 (by kernel_rfl) ?_
  rintro _ g1 st1 rfl
  replace hR1 := hR1.mono st1 (fun x => x)
  replace hB1 := hB1.mono st1 (fun x => x)
  replace hB2 := hB2.mono st1 (fun x => x)
  replace tot := tot.trans st1.pure
  refine WP.still 7 (by kernel_rfl) ?_
  refine WP.done (by kernel_rfl) ?_
  refine NX.then_n ?_
  refine CP.cut (fun tm g => ∃ (x6 : Int), Fr 25 [(2, .pointer (some ⟨b2, 0, none⟩)), (6, .int .u64 x3), (7, .int .i64 x4), (8, .int .i64 x6)] tm ∧ Step (fun l => (WL [m1]) l ∨ t ≤ l) g0 g ∧ Box g m1 b2 41 [[.int .u64 x2]] [1] ∧ (F.octet_Reader_Num_1.c1 x3 x4 x6) = some (o1, o2, o3)) ?_ ?_
  · refine CP.cut (fun tm g => ∃ (q2 : Bool), Fr 25 [(2, .pointer (some ⟨b2, 0, none⟩)), (6, .int .u64 x3), (7, .int .i64 x4), (8, .int .i64 x5), (21, .bool q2)] tm ∧ Step (fun l => (WL [m1]) l ∨ t ≤ l) g0 g ∧ Box g m1 b2 41 [[.int .u64 x2]] [1] ∧ (F.octet_Reader_Num_1.c2 x3 x4 x5 q2) = some (o1, o2, o3)) ?_ ?_
    · refine CP.region ?_
      refine WP.still 3 (by kernel_rfl) ?_
      refine WP.guard 17 (b := (x5 == 0)) (by kernel_rfl) (fun h5 => ?_) (fun h5 => ?_)
      · replace hs := of_if_t hs h5
        refine WP.still 1 (by kernel_rfl) ?_
        refine WP.loadB (v := .int .u64 x1) hB1 (by kernel_rfl) (by kernel_rfl) ?_
        refine WP.still 2 (by kernel_rfl) ?_
        refine WP.done (by kernel_rfl) ?_
        refine NX.post ?_
        exact ⟨decide (x3 > x1), ⟨by kernel_rfl, by kernel_rfl⟩, tot, hB2, hs⟩
      replace hs := of_if_f hs h5
      refine WP.still 4 (by kernel_rfl) ?_
      refine WP.done (by kernel_rfl) ?_
      refine NX.post ?_
      exact ⟨false, ⟨by kernel_rfl, by kernel_rfl⟩, tot, hB2, hs⟩
    clear tot hs hB1 hB2
    rintro tm g ⟨q2, hF, tot, hB2, hs⟩
    clear ds
    obtain ⟨ds, rfl⟩ := hF.open
    clear hF
    unfold F.octet_Reader_Num_1.c2 at hs
    refine CP.cond (b := q2) (by kernel_rfl) (fun h4 => ?_) (fun h4 => ?_)
    · replace hs := of_if_t hs h4
      refine CP.region ?_
      refine WP.still 1 (by kernel_rfl) ?_
      refine WP.done (by kernel_rfl) ?_
      refine NX.post ?_
      exact ⟨2, ⟨by kernel_rfl, by kernel_rfl⟩, tot, hB2, hs⟩
    replace hs := of_if_f hs h4
    refine CP.skip ?_
    refine NX.post ?_
    exact ⟨x5, ⟨by kernel_rfl, by kernel_rfl⟩, tot, hB2, hs⟩
  clear tot hs hB1 hB2
  rintro tm g ⟨x6, hF, tot, hB2, hs⟩
  clear ds
  obtain ⟨ds, rfl⟩ := hF.open
  clear hF
  unfold F.octet_Reader_Num_1.c1 at hs
  refine CP.seqR ?_
  refine WP.still 1 (by kernel_rfl) ?_
  refine WP.storeB (ty := 41) (off := 0) (v := .int .u64 x3) hB2 [[.int .u64 x3]] [1] (by kernel_rfl) (by kernel_rfl) rfl (by kernel_rfl) [[.int .u64 x3]] (by kernel_rfl) (.one rfl .nil) ?_
  intro g2 st2 hB3
  replace tot := tot.trans (st2.up1 (.inl (by simp [WL])))
  clear hB2
  have hB2 := hB3
  clear hB3
  refine WP.done (by kernel_rfl) ?_
  refine NX.then_n ?_
  refine CP.seqR ?_
  refine WP.still 4 (by kernel_rfl) ?_
  refine WP.done (by kernel_rfl) ?_
  refine NX.then_n ?_
  refine CP.ret ?_
  replace hs := Option.some.inj hs
  simp only [Prod.mk.injEq] at hs
  obtain ⟨rfl, rfl, rfl⟩ := hs
  exact NX.fin (v := .tuple #[.int .i64 x4, .int .i64 x6]) (Res.still (by kernel_rfl)) tot htL ⟨rfl, hB2⟩
def F.octet_Reader_read (l1 : List Int) (x1 : Int) (x2 : Int) (x3 : Int) : Option (Bool × (List Int) × Int × Int) := (if (x1 != 0) = true then (some (false, l1, x1, x3)) else ((F.octet_Reader_Num_1 l1 x2 x3).bind fun (x4, x5, x6) => (if (x5 != 0) = true then (some (false, l1, x5, x6)) else (if (0 : Int) ≤ x4 ∧ x4 ≤ (l1.length : Int) ∧ (l1.length : Int) ≤ (l1.length : Int) then (some (true, (sliceI l1 x4 (l1.length : Int)), x1, x6)) else none))))
theorem P.octet_Reader_read (g0 : GW) (m0 : Nat) (m1 : Nat) (m2 : Nat) (l1 : List Int) (x1 : Int) (x2 : Int) (x3 : Int) (a1 : Option Addr) (n1 : Nat) (c1 : Nat) (b1 : Nat) (b2 : Nat) (b3 : Nat) (hR1 : RdS (Kd.int .u8) g0 5 a1 n1 c1 l1) (hB1 : Box g0 m0 b1 105 [[.slice a1 n1 c1], [.int .i64 x1]] [1, 1]) (hB2 : Box g0 m1 b2 41 [[.int .u64 x2]] [1]) (hB3 : Box g0 m2 b3 41 [[.int .u64 x3]] [1]) (hm1_0 : m1 ≠ m0) (hm2_0 : m2 ≠ m0) (hm2_1 : m2 ≠ m1) (hm0 : m0 ≠ 0) (hm1 : m1 ≠ 0) (hm2 : m2 ≠ 0) (o1 : Bool) (o2 : (List Int)) (o3 : Int) (o4 : Int) (hs : F.octet_Reader_read l1 x1 x2 x3 = some (o1, o2, o3, o4)) :
    Calls Try.prog 55 #[.pointer (some ⟨b1, 0, none⟩), .func (.func 56) #[] #[.pointer (some ⟨b2, 0, none⟩), .pointer (some ⟨b3, 0, none⟩)]] g0.w (Ret (WL [m0, m2]) g0 fun v g => ∃ (a_1 : Option Addr) (n_1 : Nat) (c_1 : Nat), v = .bool o1 ∧ RdS (Kd.int .u8) g 5 a_1 n_1 c_1 o2 ∧ Box g m0 b1 105 [[.slice a_1 n_1 c_1], [.int .i64 o3]] [1, 1] ∧ Box g m2 b3 41 [[.int .u64 o4]] [1]) := by
  refine calls_of (args := [.pointer (some ⟨b1, 0, none⟩), .func (.func 56) #[] #[.pointer (some ⟨b2, 0, none⟩), .pointer (some ⟨b3, 0, none⟩)]]) Try.func55 rfl (m0 + m1 + m2 + 0) ?_
  intro t ht htL
  refine ⟨_, rfl, ?_⟩
  refine CP.refr 40 [(0, .pointer (some ⟨b1, 0, none⟩)), (1, .func (.func 56) #[] #[.pointer (some ⟨b2, 0, none⟩), .pointer (some ⟨b3, 0, none⟩)])] (by kernel_rfl) (by kernel_rfl) ?_
  intro ds
  have tot : Step (fun l => (WL [m0, m2]) l ∨ t ≤ l) g0 g0 := Step.refl _ _
  unfold F.octet_Reader_read at hs
  refine CP.seqR ?_
  refine WP.still 1 (by kernel_rfl) ?_
  refine WP.done (by kernel_rfl) ?_
  refine NX.then_n ?_
  refine CP.seq ?_
  refine CP.seq ?_
  refine CP.region ?_
  refine WP.still 6 (by kernel_rfl) ?_
  refine WP.loadB (v := .int .i64 x1) hB1 (by kernel_rfl) (by kernel_rfl) ?_
  refine WP.still 2 (by kernel_rfl) ?_
  refine WP.done (by kernel_rfl) ?_
  refine NX.then_n ?_
  refine CP.cond (b := (x1 != 0)) (by kernel_rfl) (fun h1 => ?_) (fun h1 => ?_)
  · replace hs := of_if_t hs h1
    refine CP.seqR ?_
    refine WP.still 1 (by kernel_rfl) ?_
    refine WP.done (by kernel_rfl) ?_
    refine NX.then_n ?_
    refine CP.ret ?_
    refine NX.then_r ?_
    replace hs := Option.some.inj hs
    simp only [Prod.mk.injEq] at hs
    obtain ⟨rfl, rfl, rfl, rfl⟩ := hs
    exact NX.fin (v := .bool false) (Res.still (by kernel_rfl)) tot htL ⟨a1, n1, c1, rfl, hR1, hB1, hB3⟩
  replace hs := of_if_f hs h1
  refine CP.skip ?_
  refine NX.then_n ?_
  refine CP.seqR ?_
  refine WP.still 4 (by kernel_rfl) ?_
  refine WP.loadB (v := .slice a1 n1 c1) hB1 (by kernel_rfl) (by kernel_rfl) ?_
  replace hs := Option.bind_eq_some_iff.1 hs
  obtain ⟨⟨x4, x5, x6⟩, hk1, hs⟩ := hs
  dsimp only at hs
  have hcal1 := P.octet_Reader_Num_1 g0 m1 m2 l1 x2 x3 a1 n1 c1 b2 b3 hR1 hB2 hB3 (by omega) (by omega) (by omega) x4 x5 x6 hk1
  refine WP.callC hcal1 (by kernel_rfl) ?_
  rintro _ g1 st1 ⟨rfl, hB4⟩
  replace hB1 := hB1.mono st1 (WL.no1 (by omega))
  replace hR1 := hR1.mono st1 (WL.no1 (by omega))
  replace hB2 := hB2.mono st1 (WL.no1 (by omega))
  replace tot := tot.trans (st1.up1 (.inl (by simp [WL])))
  clear hB3
  have hB3 := hB4
  clear hB4
  refine WP.still 5 (by kernel_rfl) ?_
  refine WP.done (by kernel_rfl) ?_
  refine NX.then_n ?_
  refine CP.refr 40 [(0, .pointer (some ⟨b1, 0, none⟩)), (5, .int .i64 x4), (6, .int .i64 x5)] (by kernel_rfl) (by kernel_rfl) ?_
  clear ds
  intro ds
  refine CP.seq ?_
  refine CP.seqR ?_
  refine WP.still 2 (by kernel_rfl) ?_
  refine WP.done (by kernel_rfl) ?_
  refine NX.then_n ?_
  refine CP.cond (b := (x5 != 0)) (by kernel_rfl) (fun h2 => ?_) (fun h2 => ?_)
  · replace hs := of_if_t hs h2
    refine CP.seqR ?_
    refine WP.still 4 (by kernel_rfl) ?_
    refine WP.storeB (ty := 28) (off := 1) (v := .int .i64 x5) hB1 [[.int .i64 x5]] [1] (by kernel_rfl) (by kernel_rfl) rfl (by kernel_rfl) [[.slice a1 n1 c1], [.int .i64 x5]] (by kernel_rfl) (.one rfl .nil) ?_
    intro g2 st2 hB5
    replace hR1 := hR1.mono st2 (WL.no1 (by omega))
    replace hB3 := hB3.mono st2 (WL.no1 (by omega))
    replace tot := tot.trans (st2.up1 (.inl (by simp [WL])))
    clear hB1
    have hB1 := hB5
    clear hB5
    refine WP.done (by kernel_rfl) ?_
    refine NX.then_n ?_
    refine CP.seqR ?_
    refine WP.still 1 (by kernel_rfl) ?_
    refine WP.done (by kernel_rfl) ?_
    refine NX.then_n ?_
    refine CP.ret ?_
    refine NX.then_r ?_
    replace hs := Option.some.inj hs
    simp only [Prod.mk.injEq] at hs
    obtain ⟨rfl, rfl, rfl, rfl⟩ := hs
    exact NX.fin (v := .bool false) (Res.still (by kernel_rfl)) tot htL ⟨a1, n1, c1, rfl, hR1, hB1, hB3⟩
  replace hs := of_if_f hs h2
  refine CP.skip ?_
  refine NX.then_n ?_
  refine CP.seqR ?_
  refine WP.still 4 (by kernel_rfl) ?_
  refine WP.loadB (v := .slice a1 n1 c1) hB1 (by kernel_rfl) (by kernel_rfl) ?_
  refine WP.still 1 (by kernel_rfl) ?_
  by_cases hc1 : (0 : Int) ≤ x4 ∧ x4 ≤ (l1.length : Int) ∧ (l1.length : Int) ≤ (l1.length : Int)
  case neg => rw [if_neg hc1] at hs; cases hs
  replace hs := of_if_p hs hc1
  refine WP.sliceR (lo := some (.int .i64 x4)) (hi := none) hR1 x4 (l1.length : Int) (by kernel_rfl) (.inr ⟨_, rfl⟩) (.inl ⟨rfl, rfl⟩) hc1 ?_
  intro a2 c2 hR2
  refine WP.still 2 (by kernel_rfl) ?_
  refine WP.storeB (ty := 24) (off := 0) (v := .slice a2 ((l1.length : Int).toNat - x4.toNat) c2) hB1 [[.slice a2 ((l1.length : Int).toNat - x4.toNat) c2]] [1] (by kernel_rfl) (by kernel_rfl) rfl (by kernel_rfl) [[.slice a2 ((l1.length : Int).toNat - x4.toNat) c2], [.int .i64 x1]] (by kernel_rfl) (.one rfl .nil) ?_
  intro g3 st3 hB6
  replace hR2 := hR2.mono st3 (WL.no1 (by omega))
  replace hB3 := hB3.mono st3 (WL.no1 (by omega))
  replace hR1 := hR1.mono st3 (WL.no1 (by omega))
  replace tot := tot.trans (st3.up1 (.inl (by simp [WL])))
  clear hB1
  have hB1 := hB6
  clear hB6
  refine WP.done (by kernel_rfl) ?_
  refine NX.then_n ?_
  refine CP.seqR ?_
  refine WP.still 1 (by kernel_rfl) ?_
  refine WP.done (by kernel_rfl) ?_
  refine NX.then_n ?_
  refine CP.refr 40 [(4, .bool true)] (by kernel_rfl) (by kernel_rfl) ?_
  clear ds
  intro ds
  refine CP.ret ?_
  replace hs := Option.some.inj hs
  simp only [Prod.mk.injEq] at hs
  obtain ⟨rfl, rfl, rfl, rfl⟩ := hs
  exact NX.fin (v := .bool true) (Res.still (by kernel_rfl)) tot htL ⟨a2, ((l1.length : Int).toNat - x4.toNat), c2, rfl, hR2, hB1, hB3⟩
def F.octet_Reader_Num (l1 : List Int) (x1 : Int) (x2 : Int) : Option (Int × (List Int) × Int) := ((F.octet_Reader_read l1 x1 x2 0).bind fun (q1, d1, x3, x4) => (if (!q1) = true then (some (0, d1, x3)) else (some (x4, d1, x3))))
theorem P.octet_Reader_Num (g0 : GW) (m0 : Nat) (l1 : List Int) (x1 : Int) (x2 : Int) (a1 : Option Addr) (n1 : Nat) (c1 : Nat) (b1 : Nat) (hR1 : RdS (Kd.int .u8) g0 5 a1 n1 c1 l1) (hB1 : Box g0 m0 b1 105 [[.slice a1 n1 c1], [.int .i64 x1]] [1, 1]) (hm0 : m0 ≠ 0) (o1 : Int) (o2 : (List Int)) (o3 : Int) (hs : F.octet_Reader_Num l1 x1 x2 = some (o1, o2, o3)) :
    Calls Try.prog 34 #[.pointer (some ⟨b1, 0, none⟩), .int .u64 x2] g0.w (Ret (WL [m0]) g0 fun v g => ∃ (a_1 : Option Addr) (n_1 : Nat) (c_1 : Nat), v = .int .u64 o1 ∧ RdS (Kd.int .u8) g 5 a_1 n_1 c_1 o2 ∧ Box g m0 b1 105 [[.slice a_1 n_1 c_1], [.int .i64 o3]] [1, 1]) := by
  refine calls_of (args := [.pointer (some ⟨b1, 0, none⟩), .int .u64 x2]) Try.func34 rfl (m0 + 0) ?_
  intro t ht htL
  refine ⟨_, rfl, ?_⟩
  refine CP.refr 13 [(0, .pointer (some ⟨b1, 0, none⟩)), (1, .int .u64 x2)] (by kernel_rfl) (by kernel_rfl) ?_
  intro ds
  have tot : Step (fun l => (WL [m0]) l ∨ t ≤ l) g0 g0 := Step.refl _ _
  unfold F.octet_Reader_Num at hs
  refine CP.seqR ?_
  refine WP.alloc (T := 41) (t + 1) [[.int .u64 x2]] [1] (by kernel_rfl) rfl ?_
  intro g1 b2 st1 hB2
  replace hB1 := hB1.mono st1 (fun x => x)
  replace hR1 := hR1.mono st1 (fun x => x)
  replace tot := tot.trans st1.pure
  refine WP.still 1 (by kernel_rfl) ?_
  refine WP.done (by kernel_rfl) ?_
  refine NX.then_n ?_
  refine CP.seqR ?_
  refine WP.alloc (T := 41) (t + 2) [[.int .u64 0]] [1] (by kernel_rfl) rfl ?_
  intro g2 b3 st2 hB3
  replace hB1 := hB1.mono st2 (fun x => x)
  replace hR1 := hR1.mono st2 (fun x => x)
  replace hB2 := hB2.mono st2 (fun x => x)
  replace tot := tot.trans st2.pure
  refine WP.done (by kernel_rfl) ?_
  refine NX.then_n ?_
  refine CP.seqR ?_
  refine WP.still 2 (by kernel_rfl) ?_
  replace hs := Option.bind_eq_some_iff.1 hs
  obtain ⟨⟨q1, d1, x3, x4⟩, hk1, hs⟩ := hs
  dsimp only at hs
  have hcal1 := P.octet_Reader_read g2 m0 (t + 1) (t + 2) l1 x1 x2 0 a1 n1 c1 b1 b2 b3 hR1 hB1 hB2 hB3 (by omega) (by omega) (by omega) (by omega) (by omega) (by omega) q1 d1 x3 x4 hk1
  refine WP.callC hcal1 (by kernel_rfl) ?_
  rintro _ g3 st3 ⟨a2, n2, c2, rfl, hR2, hB4, hB5⟩
  replace hB2 := hB2.mono st3 (WL.no2 (by omega) (by omega))
  replace tot := tot.trans (st3.up2 (.inl (by simp [WL])) (.inr (by omega)))
  clear hB1
  have hB1 := hB4
  clear hB4
  clear hB3
  have hB3 := hB5
  clear hB5
  refine WP.still 1 (by kernel_rfl) ?_
  refine WP.done (by kernel_rfl) ?_
  refine NX.then_n ?_
  refine CP.seq ?_
  refine CP.seqR ?_
  refine WP.still 2 (by kernel_rfl) ?_
  refine WP.done (by kernel_rfl) ?_
  refine NX.then_n ?_
  refine CP.cond (b := (!q1)) (by kernel_rfl) (fun h1 => ?_) (fun h1 => ?_)
  · replace hs := of_if_t hs h1
    refine CP.seqR ?_
    refine WP.still 1 (by kernel_rfl) ?_
    refine WP.done (by kernel_rfl) ?_
    refine NX.then_n ?_
    refine CP.ret ?_
    refine NX.then_r ?_
    replace hs := Option.some.inj hs
    simp only [Prod.mk.injEq] at hs
    obtain ⟨rfl, rfl, rfl⟩ := hs
    exact NX.fin (v := .int .u64 0) (Res.still (by kernel_rfl)) tot htL ⟨a2, n2, c2, rfl, hR2, hB1⟩
  replace hs := of_if_f hs h1
  refine CP.skip ?_
  refine NX.then_n ?_
  refine CP.seqR ?_
  refine WP.loadB (v := .int .u64 x4) hB3 (by kernel_rfl) (by kernel_rfl) ?_
  refine WP.still 1 (by kernel_rfl) ?_
  refine WP.done (by kernel_rfl) ?_
  refine NX.then_n ?_
  refine CP.ret ?_
  replace hs := Option.some.inj hs
  simp only [Prod.mk.injEq] at hs
  obtain ⟨rfl, rfl, rfl⟩ := hs
  exact NX.fin (v := .int .u64 x4) (Res.still (by kernel_rfl)) tot htL ⟨a2, n2, c2, rfl, hR2, hB1⟩
def F.octet_Reader_Err (l1 : List Int) (x1 : Int) : Option (Int) := (some x1)
theorem P.octet_Reader_Err (g0 : GW) (m0 : Nat) (l1 : List Int) (x1 : Int) (a1 : Option Addr) (n1 : Nat) (c1 : Nat) (b1 : Nat) (hR1 : RdS (Kd.int .u8) g0 5 a1 n1 c1 l1) (hB1 : Box g0 m0 b1 105 [[.slice a1 n1 c1], [.int .i64 x1]] [1, 1]) (hm0 : m0 ≠ 0) (o1 : Int) (hs : F.octet_Reader_Err l1 x1 = some o1) :
    Calls Try.prog 58 #[.pointer (some ⟨b1, 0, none⟩)] g0.w (Ret NoM g0 fun v g => v = .int .i64 o1) := by
  refine calls_of (args := [.pointer (some ⟨b1, 0, none⟩)]) Try.func58 rfl (m0 + 0) ?_
  intro t ht htL
  refine ⟨_, rfl, ?_⟩
  refine CP.refr 9 [(0, .pointer (some ⟨b1, 0, none⟩))] (by kernel_rfl) (by kernel_rfl) ?_
  intro ds
  have tot : Step (fun l => NoM l ∨ t ≤ l) g0 g0 := Step.refl _ _
  unfold F.octet_Reader_Err at hs
  refine CP.seqR ?_
  refine WP.still 1 (by kernel_rfl) ?_
  refine WP.done (by kernel_rfl) ?_
  refine NX.then_n ?_
  refine CP.seq ?_
  refine CP.seqR ?_
  refine WP.still 2 (by kernel_rfl) ?_
  refine WP.done (by kernel_rfl) ?_
  refine NX.then_n ?_
  refine CP.cond_f (by kernel_rfl) ?_
  refine CP.skip ?_
  refine NX.then_n ?_
  refine CP.seqR ?_
  refine WP.still 3 (by kernel_rfl) ?_
  refine WP.loadB (v := .int .i64 x1) hB1 (by kernel_rfl) (by kernel_rfl) ?_
  refine WP.still 1 (by kernel_rfl) ?_
  refine WP.done (by kernel_rfl) ?_
  refine NX.then_n ?_
  refine CP.ret ?_
  replace hs := Option.some.inj hs
  obtain rfl := hs
  exact NX.fin (v := .int .i64 x1) (Res.still (by kernel_rfl)) tot htL rfl
def F.octet_Reader_Left (l1 : List Int) (x1 : Int) : Option (Int) := (some (l1.length : Int))
theorem P.octet_Reader_Left (g0 : GW) (m0 : Nat) (l1 : List Int) (x1 : Int) (a1 : Option Addr) (n1 : Nat) (c1 : Nat) (b1 : Nat) (hR1 : RdS (Kd.int .u8) g0 5 a1 n1 c1 l1) (hB1 : Box g0 m0 b1 105 [[.slice a1 n1 c1], [.int .i64 x1]] [1, 1]) (hm0 : m0 ≠ 0) (o1 : Int) (hs : F.octet_Reader_Left l1 x1 = some o1) :
    Calls Try.prog 59 #[.pointer (some ⟨b1, 0, none⟩)] g0.w (Ret NoM g0 fun v g => v = .int .i64 o1) := by
  refine calls_of (args := [.pointer (some ⟨b1, 0, none⟩)]) Try.func59 rfl (m0 + 0) ?_
  intro t ht htL
  refine ⟨_, rfl, ?_⟩
  refine CP.refr 10 [(0, .pointer (some ⟨b1, 0, none⟩))] (by kernel_rfl) (by kernel_rfl) ?_
  intro ds
  have tot : Step (fun l => NoM l ∨ t ≤ l) g0 g0 := Step.refl _ _
  unfold F.octet_Reader_Left at hs
  refine CP.seqR ?_
  refine WP.still 1 (by kernel_rfl) ?_
  refine WP.done (by kernel_rfl) ?_
  refine NX.then_n ?_
  refine CP.seq ?_
  refine CP.seqR ?_
  refine WP.still 2 (by kernel_rfl) ?_
  refine WP.done (by kernel_rfl) ?_
  refine NX.then_n ?_
  refine CP.cond_f (by kernel_rfl) ?_
  refine CP.skip ?_
  refine NX.then_n ?_
  refine CP.seqR ?_
  refine WP.still 3 (by kernel_rfl) ?_
  refine WP.loadB (v := .slice a1 n1 c1) hB1 (by kernel_rfl) (by kernel_rfl) ?_
  refine WP.len (a := a1) (cp := c1) hR1.len (by kernel_rfl) ?_
  refine WP.still 1 (by kernel_rfl) ?_
  refine WP.done (by kernel_rfl) ?_
  refine NX.then_n ?_
  refine CP.ret ?_
  replace hs := Option.some.inj hs
  obtain rfl := hs
  exact NX.fin (v := .int .i64 (l1.length : Int)) (Res.still (by kernel_rfl)) tot htL rfl
def F.octet_Reader_End (l1 : List Int) (x1 : Int) : Option (Int) := ((F.octet_Reader_Err l1 x1).bind fun x2 => (if (x2 != 0) = true then (some x2) else ((F.octet_Reader_Left l1 x1).bind fun x3 => (if decide (x3 > 0) = true then (some 5) else (some 0)))))
theorem P.octet_Reader_End (g0 : GW) (m0 : Nat) (l1 : List Int) (x1 : Int) (a1 : Option Addr) (n1 : Nat) (c1 : Nat) (b1 : Nat) (hR1 : RdS (Kd.int .u8) g0 5 a1 n1 c1 l1) (hB1 : Box g0 m0 b1 105 [[.slice a1 n1 c1], [.int .i64 x1]] [1, 1]) (hm0 : m0 ≠ 0) (o1 : Int) (hs : F.octet_Reader_End l1 x1 = some o1) :
    Calls Try.prog 35 #[.pointer (some ⟨b1, 0, none⟩)] g0.w (Ret NoM g0 fun v g => v = .int .i64 o1) := by
  refine calls_of (args := [.pointer (some ⟨b1, 0, none⟩)]) Try.func35 rfl (m0 + 0) ?_
  intro t ht htL
  refine ⟨_, rfl, ?_⟩
  refine CP.refr 12 [(0, .pointer (some ⟨b1, 0, none⟩))] (by kernel_rfl) (by kernel_rfl) ?_
  intro ds
  have tot : Step (fun l => NoM l ∨ t ≤ l) g0 g0 := Step.refl _ _
  unfold F.octet_Reader_End at hs
  refine CP.seqR ?_
  refine WP.still 1 (by kernel_rfl) ?_
  refine WP.done (by kernel_rfl) ?_
  refine NX.then_n ?_
  refine CP.seq ?_
  refine CP.seqR ?_
  refine WP.still 1 (by kernel_rfl) ?_
  replace hs := Option.bind_eq_some_iff.1 hs
  obtain ⟨x2, hk1, hs⟩ := hs
  have hcal1 := P.octet_Reader_Err g0 m0 l1 x1 a1 n1 c1 b1 hR1 hB1 (by omega) x2 hk1
  refine WP.callC hcal1 (by kernel_rfl) ?_
  rintro _ g1 st1 rfl
  replace hB1 := hB1.mono st1 (fun x => x)
  replace hR1 := hR1.mono st1 (fun x => x)
  replace tot := tot.trans st1.pure
  refine WP.still 1 (by kernel_rfl) ?_
  refine WP.done (by kernel_rfl) ?_
  refine NX.then_n ?_
  refine CP.seqR ?_
  refine WP.still 2 (by kernel_rfl) ?_
  refine WP.done (by kernel_rfl) ?_
  refine NX.then_n ?_
  refine CP.cond (b := (x2 != 0)) (by kernel_rfl) (fun h1 => ?_) (fun h1 => ?_)
  · replace hs := of_if_t hs h1
    refine CP.seqR ?_
    refine WP.still 2 (by kernel_rfl) ?_
    refine WP.done (by kernel_rfl) ?_
    refine NX.then_n ?_
    refine CP.ret ?_
    refine NX.then_r ?_
    replace hs := Option.some.inj hs
    obtain rfl := hs
    exact NX.fin (v := .int .i64 x2) (Res.still (by kernel_rfl)) tot htL rfl
  replace hs := of_if_f hs h1
  refine CP.skip ?_
  refine NX.then_n ?_
  refine CP.seq ?_
  refine CP.seqR ?_
  refine WP.still 1 (by kernel_rfl) ?_
  replace hs := Option.bind_eq_some_iff.1 hs
  obtain ⟨x3, hk2, hs⟩ := hs
  have hcal2 := P.octet_Reader_Left g1 m0 l1 x1 a1 n1 c1 b1 hR1 hB1 (by omega) x3 hk2
  refine WP.callC hcal2 (by kernel_rfl) ?_
  rintro _ g2 st2 rfl
  replace hB1 := hB1.mono st2 (fun x => x)
  replace hR1 := hR1.mono st2 (fun x => x)
  replace tot := tot.trans st2.pure
  refine WP.still 1 (by kernel_rfl) ?_
  refine WP.done (by kernel_rfl) ?_
  refine NX.then_n ?_
  refine CP.cond (b := decide (x3 > 0)) (by kernel_rfl) (fun h2 => ?_) (fun h2 => ?_)
  · replace hs := of_if_t hs h2
    refine CP.seqR ?_
    refine WP.still 1 (by kernel_rfl) ?_
    refine WP.done (by kernel_rfl) ?_
    refine NX.then_n ?_
    refine CP.ret ?_
    refine NX.then_r ?_
    replace hs := Option.some.inj hs
    obtain rfl := hs
    exact NX.fin (v := .int .i64 5) (Res.still (by kernel_rfl)) tot htL rfl
  replace hs := of_if_f hs h2
  refine CP.skip ?_
  refine NX.then_n ?_
  refine CP.seqR ?_
  refine WP.still 1 (by kernel_rfl) ?_
  refine WP.done (by kernel_rfl) ?_
  refine NX.then_n ?_
  refine CP.ret ?_
  replace hs := Option.some.inj hs
  obtain rfl := hs
  exact NX.fin (v := .int .i64 0) (Res.still (by kernel_rfl)) tot htL rfl
def F.hash_FromNum.l1 (x1 : Int) : Nat → (Arr Int 8) → Int → Option ((Arr Int 8))
  | 0, _, _ => none
  | k + 1, d1, x2 => (if decide (x2 < 8) = true then (if (0 : Int) ≤ (IntKind.i64.wrap (8 * x2)) then (if (0 : Int) ≤ x2 ∧ x2 < (8 : Int) then (F.hash_FromNum.l1 x1 k (aset d1 x2 (IntKind.u8.wrap (shV false .u64 x1 (IntKind.i64.wrap (8 * x2))))) (IntKind.i64.wrap (x2 + 1))) else none) else none) else (some d1))
def F.hash_FromNum (x1 : Int) : Option ((Arr Int 8)) := (F.hash_FromNum.l1 x1 fuel (zA 8) 0)
theorem P.hash_FromNum (g0 : GW) (x1 : Int) (o1 : Arr Int 8) (hs : F.hash_FromNum x1 = some o1) :
    Calls Try.prog 36 #[.int .u64 x1] g0.w (Ret NoM g0 fun v g => v = AG [encA .u8 o1]) := by
  refine calls_of (args := [.int .u64 x1]) Try.func36 rfl (0) ?_
  intro t ht htL
  refine ⟨_, rfl, ?_⟩
  refine CP.refr 17 [(0, .int .u64 x1)] (by kernel_rfl) (by kernel_rfl) ?_
  intro ds
  have tot : Step (fun l => NoM l ∨ t ≤ l) g0 g0 := Step.refl _ _
  unfold F.hash_FromNum at hs
  refine CP.seqR ?_
  refine WP.alloc (T := 23) (t + 1) [encA .u8 (zA 8)] [8] (by kernel_rfl) (by simp [len_encA]) ?_
  intro g1 b1 st1 hB1
  replace tot := tot.trans st1.pure
  refine WP.done (by kernel_rfl) ?_
  refine NX.then_n ?_
  refine CP.seqR ?_
  refine WP.alloc (T := 23) (t + 2) [encA .u8 (zA 8)] [8] (by kernel_rfl) (by simp [len_encA]) ?_
  intro g2 b2 st2 hB2
  replace hB1 := hB1.mono st2 (fun x => x)
  replace tot := tot.trans st2.pure
  refine WP.done (by kernel_rfl) ?_
  refine NX.then_n ?_
  refine CP.seq ?_
  refine CP.seqR ?_
  refine WP.still 1 (by kernel_rfl) ?_
  refine WP.done (by kernel_rfl) ?_
  refine NX.then_n ?_
  refine CP.block ?_
  generalize fuel = k1 at hs
  refine CP.loop (fun k1 tm g => ∃ (d1 : Arr Int 8) (x2 : Int), Fr 17 [(0, .int .u64 x1), (2, .pointer (some ⟨b1, 0, none⟩)), (3, .pointer (some ⟨b2, 0, none⟩)), (5, .int .i64 x2)] tm ∧ Step (fun l => NoM l ∨ t ≤ l) g0 g ∧ Box g (t + 1) b1 23 [encA .u8 (zA 8)] [8] ∧ Box g (t + 2) b2 23 [encA .u8 d1] [8] ∧ F.hash_FromNum.l1 x1 k1 d1 x2 = some o1) k1 ?_ ?_ ?_
  · exact ⟨(zA 8), 0, ⟨by kernel_rfl, by kernel_rfl⟩, tot, hB1, hB2, hs⟩
  · rintro tm g ⟨d1, x2, hF, tot, hB1, hB2, hs⟩
    exact absurd hs (by simp [F.hash_FromNum.l1])
  clear tot hs hB1 hB2
  rintro k1 tm g ⟨d1, x2, hF, tot, hB1, hB2, hs⟩
  clear ds
  obtain ⟨ds, rfl⟩ := hF.open
  clear hF
  unfold F.hash_FromNum.l1 at hs
  refine CP.seqR ?_
  refine WP.still 1 (by kernel_rfl) ?_
  refine WP.done (by kernel_rfl) ?_
  refine NX.then_n ?_
  refine CP.seq ?_
  refine CP.cond (b := decide (x2 < 8)) (by kernel_rfl) (fun h3 => ?_) (fun h3 => ?_)
  · replace hs := of_if_t hs h3
    refine CP.skip ?_
    refine NX.then_n ?_
    refine CP.seq ?_
    refine CP.block ?_
    refine CP.seqR ?_
    refine WP.still 2 (by kernel_rfl) ?_
    refine WP.done (by kernel_rfl) ?_
    refine NX.then_n ?_
    refine CP.region ?_
    refine WP.still 4 (by kernel_rfl) ?_
    by_cases hc4 : (0 : Int) ≤ (IntKind.i64.wrap (8 * x2))
    case neg => rw [if_neg hc4] at hs; cases hs
    replace hs := of_if_p hs hc4
    refine WP.shift (left := false) (k := .u64) (yk := .i64) (x := x1) (y := (IntKind.i64.wrap (8 * x2))) (by kernel_rfl) hc4 ?_
    refine WP.still 1 (by kernel_rfl) ?_
    by_cases hc5 : (0 : Int) ≤ x2 ∧ x2 < (8 : Int)
    case neg => rw [if_neg hc5] at hs; cases hs
    replace hs := of_if_p hs hc5
    refine WP.ixBox (t := 23) (e := 5) (m := 8) (size := 1) (b := b2) (off := 0) (k := .i64) (i := x2) (by kernel_rfl) (by kernel_rfl) hc5 ?_
    refine WP.storeE (ty := 5) (o := 0) (m := 8) (k := .u8) (d := d1) (i := x2) (x := (IntKind.u8.wrap (shV false .u64 x1 (IntKind.i64.wrap (8 * x2))))) hB2 (by kernel_rfl) hc5 (by kernel_rfl) (by kernel_rfl) [encA .u8 (aset d1 x2 (IntKind.u8.wrap (shV false .u64 x1 (IntKind.i64.wrap (8 * x2)))))] (by kernel_rfl) ?_
    intro g7 st7 hB7
    replace hB1 := hB1.mono st7 (WL.no1 (by omega))
    replace tot := tot.trans (st7.up1 (.inr (by omega)))
    clear hB2
    have hB2 := hB7
    clear hB7
    refine WP.done (by kernel_rfl) ?_
    refine NX.block_n ?_
    refine NX.then_n ?_
    refine CP.region ?_
    refine WP.still 2 (by kernel_rfl) ?_
    refine WP.done (by kernel_rfl) ?_
    refine NX.post ?_
    exact ⟨(aset d1 x2 (IntKind.u8.wrap (shV false .u64 x1 (IntKind.i64.wrap (8 * x2))))), (IntKind.i64.wrap (x2 + 1)), ⟨by kernel_rfl, by kernel_rfl⟩, tot, hB1, hB2, hs⟩
  replace hs := of_if_f hs h3
  refine CP.exit ?_
  refine NX.then_e ?_
  refine NX.then_e ?_
  refine NX.block_s ?_
  refine NX.then_n ?_
  refine CP.seqR ?_
  refine WP.loadB (v := AG [encA .u8 d1]) hB2 (by kernel_rfl) (by kernel_rfl) ?_
  refine WP.storeB (ty := 23) (off := 0) (v := AG [encA .u8 d1]) hB1 [encA .u8 d1] [8] (by kernel_rfl) (by kernel_rfl) (by simp [len_encA]) (by kernel_rfl) [encA .u8 d1] (by kernel_rfl) (.arr .nil) ?_
  intro g8 st8 hB8
  replace hB2 := hB2.mono st8 (WL.no1 (by omega))
  replace tot := tot.trans (st8.up1 (.inr (by omega)))
  clear hB1
  have hB1 := hB8
  clear hB8
  refine WP.done (by kernel_rfl) ?_
  refine NX.then_n ?_
  refine CP.ret ?_
  replace hs := Option.some.inj hs
  obtain rfl := hs
  exact NX.fin (v := AG [encA .u8 d1]) (Res.one rfl (RV.box (agg := true) (size := 8) (rs := [encA .u8 d1]) hB1 (by kernel_rfl) (by kernel_rfl) (by kernel_rfl) (by kernel_rfl))) tot htL rfl
def F.tx_Tx_Paid (d1 : Arr Int 8) (x1 : Int) (x2 : Int) (x3 : Int) (l1 : List Int) (l2 : List Int) : Option ((Arr Int 8) × Int × Int) := (if (x3 != 0) = true then (some ((zA 8), 0, 11)) else ((F.octet_NewReader l1).bind fun (l3, x4) => ((F.octet_Reader_Num l3 x4 18446744073709551615).bind fun (x5, d2, x6) => ((F.octet_Reader_Num d2 x6 1125899906842624).bind fun (x7, d3, x8) => ((F.octet_Reader_End d3 x8).bind fun x9 => (if (x9 != 0) = true then (some ((zA 8), 0, x9)) else ((F.hash_FromNum x5).bind fun d4 => (some (d4, (IntKind.i64.wrap x7), 0)))))))))
theorem P.tx_Tx_Paid (g0 : GW) (d1 : Arr Int 8) (x1 : Int) (x2 : Int) (x3 : Int) (l1 : List Int) (l2 : List Int) (a1 : Option Addr) (n1 : Nat) (c1 : Nat) (a2 : Option Addr) (n2 : Nat) (c2 : Nat) (hR1 : RdS (Kd.int .u8) g0 5 a1 n1 c1 l1) (hR2 : RdS (Kd.int .u8) g0 5 a2 n2 c2 l2) (o1 : Arr Int 8) (o2 : Int) (o3 : Int) (hs : F.tx_Tx_Paid d1 x1 x2 x3 l1 l2 = some (o1, o2, o3)) :
    Calls Try.prog 11 #[AG [encA .u8 d1, [.int .i64 x1], [.int .i64 x2], [.int .i64 x3], [.slice a1 n1 c1], [.slice a2 n2 c2]]] g0.w (Ret NoM g0 fun v g => v = .tuple #[AG [encA .u8 o1], .int .i64 o2, .int .i64 o3]) := by
  refine calls_of (args := [AG [encA .u8 d1, [.int .i64 x1], [.int .i64 x2], [.int .i64 x3], [.slice a1 n1 c1], [.slice a2 n2 c2]]]) Try.func11 rfl (0) ?_
  intro t ht htL
  refine ⟨_, rfl, ?_⟩
  refine CP.refr 30 [(0, AG [encA .u8 d1, [.int .i64 x1], [.int .i64 x2], [.int .i64 x3], [.slice a1 n1 c1], [.slice a2 n2 c2]])] (by kernel_rfl) (by kernel_rfl) ?_
  intro ds
  have tot : Step (fun l => NoM l ∨ t ≤ l) g0 g0 := Step.refl _ _
  unfold F.tx_Tx_Paid at hs
  refine CP.seqR ?_
  refine WP.alloc (T := 26) (t + 1) [encA .u8 d1, [.int .i64 x1], [.int .i64 x2], [.int .i64 x3], [.slice a1 n1 c1], [.slice a2 n2 c2]] [8, 1, 1, 1, 1, 1] (by kernel_rfl) (by simp [len_encA]) ?_
  intro g1 b1 st1 hB1
  replace hR1 := hR1.mono st1 (fun x => x)
  replace hR2 := hR2.mono st1 (fun x => x)
  replace tot := tot.trans st1.pure
  refine WP.alloc (T := 23) (t + 2) [encA .u8 (zA 8)] [8] (by kernel_rfl) (by simp [len_encA]) ?_
  intro g2 b2 st2 hB2
  replace hR1 := hR1.mono st2 (fun x => x)
  replace hR2 := hR2.mono st2 (fun x => x)
  replace hB1 := hB1.mono st2 (fun x => x)
  replace tot := tot.trans st2.pure
  refine WP.still 2 (by kernel_rfl) ?_
  refine WP.done (by kernel_rfl) ?_
  refine NX.then_n ?_
  refine CP.seq ?_
  refine CP.seqR ?_
  refine WP.still 1 (by kernel_rfl) ?_
  refine WP.loadB (v := .int .i64 x3) hB1 (by kernel_rfl) (by kernel_rfl) ?_
  refine WP.still 1 (by kernel_rfl) ?_
  refine WP.done (by kernel_rfl) ?_
  refine NX.then_n ?_
  refine CP.cond (b := (x3 != 0)) (by kernel_rfl) (fun h1 => ?_) (fun h1 => ?_)
  · replace hs := of_if_t hs h1
    refine CP.seqR ?_
    refine WP.still 1 (by kernel_rfl) ?_
    refine WP.storeB (ty := 23) (off := 0) (v := AG [encA .u8 (zA 8)]) hB2 [encA .u8 (zA 8)] [8] (by kernel_rfl) (by kernel_rfl) (by simp [len_encA]) (by kernel_rfl) [encA .u8 (zA 8)] (by kernel_rfl) (.arr .nil) ?_
    intro g3 st3 hB3
    replace hB1 := hB1.mono st3 (WL.no1 (by omega))
    replace hR1 := hR1.mono st3 (WL.no1 (by omega))
    replace hR2 := hR2.mono st3 (WL.no1 (by omega))
    replace tot := tot.trans (st3.up1 (.inr (by omega)))
    clear hB2
    have hB2 := hB3
    clear hB3
    refine WP.still 2 (by kernel_rfl) ?_
    refine WP.done (by kernel_rfl) ?_
    refine NX.then_n ?_
    refine CP.ret ?_
    refine NX.then_r ?_
    replace hs := Option.some.inj hs
    simp only [Prod.mk.injEq] at hs
    obtain ⟨rfl, rfl, rfl⟩ := hs
    exact NX.fin (v := .tuple #[AG [encA .u8 (zA 8)], .int .i64 0, .int .i64 11]) (Res.three rfl (RV.box (agg := true) (size := 8) (rs := [encA .u8 (zA 8)]) hB2 (by kernel_rfl) (by kernel_rfl) (by kernel_rfl) (by kernel_rfl)) (RV.tmp (by kernel_rfl)) (RV.tmp (by kernel_rfl))) tot htL rfl
  replace hs := of_if_f hs h1
  refine CP.skip ?_
  refine NX.then_n ?_
  refine CP.seqR ?_
  refine WP.still 1 (by kernel_rfl) ?_
  refine WP.loadB (v := .slice a1 n1 c1) hB1 (by kernel_rfl) (by kernel_rfl) ?_
  replace hs := Option.bind_eq_some_iff.1 hs
  obtain ⟨⟨l3, x4⟩, hk1, hs⟩ := hs
  dsimp only at hs
  have hcal1 := P.octet_NewReader g2 (t + 3) l1 a1 n1 c1 hR1 l3 x4 hk1
  refine WP.callC hcal1 (by kernel_rfl) ?_
  rintro _ g4 st4 ⟨b3, a3, n3, c3, rfl, hB4, hR3⟩
  replace hB1 := hB1.mono st4 (fun x => x)
  replace hR1 := hR1.mono st4 (fun x => x)
  replace hR2 := hR2.mono st4 (fun x => x)
  replace hB2 := hB2.mono st4 (fun x => x)
  replace tot := tot.trans st4.pure
  refine WP.still 1 (by kernel_rfl) ?_
  refine WP.done (by kernel_rfl) ?_
  refine NX.then_n ?_
  refine CP.seqR ?_
  refine WP.still 1 (by kernel_rfl) ?_
  replace hs := Option.bind_eq_some_iff.1 hs
  obtain ⟨⟨x5, d2, x6⟩, hk2, hs⟩ := hs
  dsimp only at hs
  have hcal2 := P.octet_Reader_Num g4 (t + 3) l3 x4 18446744073709551615 a3 n3 c3 b3 hR3 hB4 (by omega) x5 d2 x6 hk2
  refine WP.callC hcal2 (by kernel_rfl) ?_
  rintro _ g5 st5 ⟨a4, n4, c4, rfl, hR4, hB5⟩
  replace hB2 := hB2.mono st5 (WL.no1 (by omega))
  replace tot := tot.trans (st5.up1 (.inr (by omega)))
  clear hB4
  have hB4 := hB5
  clear hB5
  refine WP.still 1 (by kernel_rfl) ?_
  replace hs := Option.bind_eq_some_iff.1 hs
  obtain ⟨⟨x7, d3, x8⟩, hk3, hs⟩ := hs
  dsimp only at hs
  have hcal3 := P.octet_Reader_Num g5 (t + 3) d2 x6 1125899906842624 a4 n4 c4 b3 hR4 hB4 (by omega) x7 d3 x8 hk3
  refine WP.callC hcal3 (by kernel_rfl) ?_
  rintro _ g6 st6 ⟨a5, n5, c5, rfl, hR5, hB6⟩
  replace hB2 := hB2.mono st6 (WL.no1 (by omega))
  replace tot := tot.trans (st6.up1 (.inr (by omega)))
  clear hB4
  have hB4 := hB6
  clear hB6
  refine WP.still 2 (by kernel_rfl) ?_
  refine WP.done (by kernel_rfl) ?_
  refine NX.then_n ?_
  refine CP.refr 30 [(2, .pointer (some ⟨b2, 0, none⟩)), (5, .pointer (some ⟨b3, 0, none⟩)), (6, .int .u64 x5), (7, .int .u64 x7)] (by kernel_rfl) (by kernel_rfl) ?_
  clear ds
  intro ds
  refine CP.seq ?_
  refine CP.seqR ?_
  refine WP.still 1 (by kernel_rfl) ?_
  replace hs := Option.bind_eq_some_iff.1 hs
  obtain ⟨x9, hk4, hs⟩ := hs
  have hcal4 := P.octet_Reader_End g6 (t + 3) d3 x8 a5 n5 c5 b3 hR5 hB4 (by omega) x9 hk4
  refine WP.callC hcal4 (by kernel_rfl) ?_
  rintro _ g7 st7 rfl
  replace hB2 := hB2.mono st7 (fun x => x)
  replace hB4 := hB4.mono st7 (fun x => x)
  replace hR5 := hR5.mono st7 (fun x => x)
  replace tot := tot.trans st7.pure
  refine WP.still 1 (by kernel_rfl) ?_
  refine WP.done (by kernel_rfl) ?_
  refine NX.then_n ?_
  refine CP.seqR ?_
  refine WP.still 2 (by kernel_rfl) ?_
  refine WP.done (by kernel_rfl) ?_
  refine NX.then_n ?_
  refine CP.cond (b := (x9 != 0)) (by kernel_rfl) (fun h2 => ?_) (fun h2 => ?_)
  · replace hs := of_if_t hs h2
    refine CP.seqR ?_
    refine WP.still 2 (by kernel_rfl) ?_
    refine WP.storeB (ty := 23) (off := 0) (v := AG [encA .u8 (zA 8)]) hB2 [encA .u8 (zA 8)] [8] (by kernel_rfl) (by kernel_rfl) (by simp [len_encA]) (by kernel_rfl) [encA .u8 (zA 8)] (by kernel_rfl) (.arr .nil) ?_
    intro g8 st8 hB7
    replace tot := tot.trans (st8.up1 (.inr (by omega)))
    clear hB2
    have hB2 := hB7
    clear hB7
    refine WP.still 2 (by kernel_rfl) ?_
    refine WP.done (by kernel_rfl) ?_
    refine NX.then_n ?_
    refine CP.ret ?_
    refine NX.then_r ?_
    replace hs := Option.some.inj hs
    simp only [Prod.mk.injEq] at hs
    obtain ⟨rfl, rfl, rfl⟩ := hs
    exact NX.fin (v := .tuple #[AG [encA .u8 (zA 8)], .int .i64 0, .int .i64 x9]) (Res.three rfl (RV.box (agg := true) (size := 8) (rs := [encA .u8 (zA 8)]) hB2 (by kernel_rfl) (by kernel_rfl) (by kernel_rfl) (by kernel_rfl)) (RV.tmp (by kernel_rfl)) (RV.tmp (by kernel_rfl))) tot htL rfl
  replace hs := of_if_f hs h2
  refine CP.skip ?_
  refine NX.then_n ?_
  refine CP.seqR ?_
  refine WP.still 1 (by kernel_rfl) ?_
  replace hs := Option.bind_eq_some_iff.1 hs
  obtain ⟨d4, hk5, hs⟩ := hs
  have hcal5 := P.hash_FromNum g7 x5 d4 hk5
  refine WP.callC hcal5 (by kernel_rfl) ?_
  rintro _ g9 st9 rfl
  replace hB2 := hB2.mono st9 (fun x => x)
  replace tot := tot.trans st9.pure
  refine WP.still 2 (by kernel_rfl) ?_
  refine WP.storeB (ty := 23) (off := 0) (v := AG [encA .u8 d4]) hB2 [encA .u8 d4] [8] (by kernel_rfl) (by kernel_rfl) (by simp [len_encA]) (by kernel_rfl) [encA .u8 d4] (by kernel_rfl) (.arr .nil) ?_
  intro g10 st10 hB8
  replace tot := tot.trans (st10.up1 (.inr (by omega)))
  clear hB2
  have hB2 := hB8
  clear hB8
  refine WP.still 2 (by kernel_rfl) ?_
  refine WP.done (by kernel_rfl) ?_
  refine NX.then_n ?_
  refine CP.ret ?_
  replace hs := Option.some.inj hs
  simp only [Prod.mk.injEq] at hs
  obtain ⟨rfl, rfl, rfl⟩ := hs
  exact NX.fin (v := .tuple #[AG [encA .u8 d4], .int .i64 (IntKind.i64.wrap x7), .int .i64 0]) (Res.three rfl (RV.box (agg := true) (size := 8) (rs := [encA .u8 d4]) hB2 (by kernel_rfl) (by kernel_rfl) (by kernel_rfl) (by kernel_rfl)) (RV.tmp (by kernel_rfl)) (RV.tmp (by kernel_rfl))) tot htL rfl
def F.baizelaw25_Of (d1 : Arr Int 8) (x1 : Int) (x2 : Int) (x3 : Int) (l1 : List Int) (l2 : List Int) : Option ((Arr Int 8) × Int × Int × Int × (List Int) × (List Int)) := (some (d1, x1, x2, x3, l1, l2))
theorem P.baizelaw25_Of (g0 : GW) (d1 : Arr Int 8) (x1 : Int) (x2 : Int) (x3 : Int) (l1 : List Int) (l2 : List Int) (a1 : Option Addr) (n1 : Nat) (c1 : Nat) (a2 : Option Addr) (n2 : Nat) (c2 : Nat) (hR1 : RdS (Kd.int .u8) g0 5 a1 n1 c1 l1) (hR2 : RdS (Kd.int .u8) g0 5 a2 n2 c2 l2) (o1 : Arr Int 8) (o2 : Int) (o3 : Int) (o4 : Int) (o5 : List Int) (o6 : List Int) (hs : F.baizelaw25_Of d1 x1 x2 x3 l1 l2 = some (o1, o2, o3, o4, o5, o6)) :
    Calls Try.prog 13 #[AG [encA .u8 d1, [.int .i64 x1], [.int .i64 x2], [.int .i64 x3], [.slice a1 n1 c1], [.slice a2 n2 c2]]] g0.w (Ret NoM g0 fun v g => ∃ (a_1 : Option Addr) (n_1 : Nat) (c_1 : Nat) (a_4 : Option Addr) (n_4 : Nat) (c_4 : Nat), v = AG [encA .u8 o1, [.int .i64 o2], [.int .i64 o3], [.int .i64 o4], [.slice a_1 n_1 c_1], [.slice a_4 n_4 c_4]] ∧ RdS (Kd.int .u8) g 5 a_1 n_1 c_1 o5 ∧ RdS (Kd.int .u8) g 5 a_4 n_4 c_4 o6) := by
  refine calls_of (args := [AG [encA .u8 d1, [.int .i64 x1], [.int .i64 x2], [.int .i64 x3], [.slice a1 n1 c1], [.slice a2 n2 c2]]]) Try.func13 rfl (0) ?_
  intro t ht htL
  refine ⟨_, rfl, ?_⟩
  refine CP.refr 16 [(0, AG [encA .u8 d1, [.int .i64 x1], [.int .i64 x2], [.int .i64 x3], [.slice a1 n1 c1], [.slice a2 n2 c2]])] (by kernel_rfl) (by kernel_rfl) ?_
  intro ds
  have tot : Step (fun l => NoM l ∨ t ≤ l) g0 g0 := Step.refl _ _
  unfold F.baizelaw25_Of at hs
  refine CP.seqR ?_
  refine WP.alloc (T := 26) (t + 1) [encA .u8 d1, [.int .i64 x1], [.int .i64 x2], [.int .i64 x3], [.slice a1 n1 c1], [.slice a2 n2 c2]] [8, 1, 1, 1, 1, 1] (by kernel_rfl) (by simp [len_encA]) ?_
  intro g1 b1 st1 hB1
  replace hR1 := hR1.mono st1 (fun x => x)
  replace hR2 := hR2.mono st1 (fun x => x)
  replace tot := tot.trans st1.pure
  refine WP.alloc (T := 34) (t + 2) [encA .u8 (zA 8), [.int .i64 0], [.int .i64 0], [.int .i64 0], [.slice none 0 0], [.slice none 0 0]] [8, 1, 1, 1, 1, 1] (by kernel_rfl) (by simp [len_encA]) ?_
  intro g2 b2 st2 hB2
  replace hR1 := hR1.mono st2 (fun x => x)
  replace hR2 := hR2.mono st2 (fun x => x)
  replace hB1 := hB1.mono st2 (fun x => x)
  replace tot := tot.trans st2.pure
  refine WP.done (by kernel_rfl) ?_
  refine NX.then_n ?_
  refine CP.seqR ?_
  refine WP.still 1 (by kernel_rfl) ?_
  refine WP.loadB (v := AG [encA .u8 d1]) hB1 (by kernel_rfl) (by kernel_rfl) ?_
  refine WP.still 1 (by kernel_rfl) ?_
  refine WP.loadB (v := .int .i64 x1) hB1 (by kernel_rfl) (by kernel_rfl) ?_
  refine WP.still 1 (by kernel_rfl) ?_
  refine WP.loadB (v := .int .i64 x2) hB1 (by kernel_rfl) (by kernel_rfl) ?_
  refine WP.still 1 (by kernel_rfl) ?_
  refine WP.loadB (v := .int .i64 x3) hB1 (by kernel_rfl) (by kernel_rfl) ?_
  refine WP.still 1 (by kernel_rfl) ?_
  refine WP.loadB (v := .slice a1 n1 c1) hB1 (by kernel_rfl) (by kernel_rfl) ?_
  refine WP.still 1 (by kernel_rfl) ?_
  refine WP.loadB (v := .slice a2 n2 c2) hB1 (by kernel_rfl) (by kernel_rfl) ?_
  refine WP.buildS (places := #[(0, 8), (8, 1), (9, 1), (10, 1), (11, 1), (12, 1)]) (t := 34) [encA .u8 (zA 8), [.int .i64 0], [.int .i64 0], [.int .i64 0], [.slice none 0 0], [.slice none 0 0]] [8, 1, 1, 1, 1, 1] (by kernel_rfl) (by kernel_rfl) (by simp [len_encA]) (by kernel_rfl) ((.cons (i := 0) (off := 0) (v := AG [encA .u8 d1]) (mid := [encA .u8 d1, [.int .i64 0], [.int .i64 0], [.int .i64 0], [.slice none 0 0], [.slice none 0 0]]) [encA .u8 d1] [8] (by kernel_rfl) (by kernel_rfl) (by simp [len_encA]) (by kernel_rfl) (.cons (i := 1) (off := 8) (v := .int .i64 x1) (mid := [encA .u8 d1, [.int .i64 x1], [.int .i64 0], [.int .i64 0], [.slice none 0 0], [.slice none 0 0]]) [[.int .i64 x1]] [1] (by kernel_rfl) (by kernel_rfl) rfl (by kernel_rfl) (.cons (i := 2) (off := 9) (v := .int .i64 x2) (mid := [encA .u8 d1, [.int .i64 x1], [.int .i64 x2], [.int .i64 0], [.slice none 0 0], [.slice none 0 0]]) [[.int .i64 x2]] [1] (by kernel_rfl) (by kernel_rfl) rfl (by kernel_rfl) (.cons (i := 3) (off := 10) (v := .int .i64 x3) (mid := [encA .u8 d1, [.int .i64 x1], [.int .i64 x2], [.int .i64 x3], [.slice none 0 0], [.slice none 0 0]]) [[.int .i64 x3]] [1] (by kernel_rfl) (by kernel_rfl) rfl (by kernel_rfl) (.cons (i := 4) (off := 11) (v := .slice a1 n1 c1) (mid := [encA .u8 d1, [.int .i64 x1], [.int .i64 x2], [.int .i64 x3], [.slice a1 n1 c1], [.slice none 0 0]]) [[.slice a1 n1 c1]] [1] (by kernel_rfl) (by kernel_rfl) rfl (by kernel_rfl) (.cons (i := 5) (off := 12) (v := .slice a2 n2 c2) (mid := [encA .u8 d1, [.int .i64 x1], [.int .i64 x2], [.int .i64 x3], [.slice a1 n1 c1], [.slice a2 n2 c2]]) [[.slice a2 n2 c2]] [1] (by kernel_rfl) (by kernel_rfl) rfl (by kernel_rfl) .nil))))))) ?_
  refine WP.storeB (ty := 34) (off := 0) (v := AG [encA .u8 d1, [.int .i64 x1], [.int .i64 x2], [.int .i64 x3], [.slice a1 n1 c1], [.slice a2 n2 c2]]) hB2 [encA .u8 d1, [.int .i64 x1], [.int .i64 x2], [.int .i64 x3], [.slice a1 n1 c1], [.slice a2 n2 c2]] [8, 1, 1, 1, 1, 1] (by kernel_rfl) (by kernel_rfl) (by simp [len_encA]) (by kernel_rfl) [encA .u8 d1, [.int .i64 x1], [.int .i64 x2], [.int .i64 x3], [.slice a1 n1 c1], [.slice a2 n2 c2]] (by kernel_rfl) (.arr (.one rfl (.one rfl (.one rfl (.one rfl (.one rfl .nil)))))) ?_
  intro g3 st3 hB3
  replace hB1 := hB1.mono st3 (WL.no1 (by omega))
  replace hR1 := hR1.mono st3 (WL.no1 (by omega))
  replace hR2 := hR2.mono st3 (WL.no1 (by omega))
  replace tot := tot.trans (st3.up1 (.inr (by omega)))
  clear hB2
  have hB2 := hB3
  clear hB3
  refine WP.done (by kernel_rfl) ?_
  refine NX.then_n ?_
  refine CP.refr 16 [(2, .pointer (some ⟨b2, 0, none⟩))] (by kernel_rfl) (by kernel_rfl) ?_
  clear ds
  intro ds
  refine CP.ret ?_
  replace hs := Option.some.inj hs
  simp only [Prod.mk.injEq] at hs
  obtain ⟨rfl, rfl, rfl, rfl, rfl, rfl⟩ := hs
  exact NX.fin (v := AG [encA .u8 d1, [.int .i64 x1], [.int .i64 x2], [.int .i64 x3], [.slice a1 n1 c1], [.slice a2 n2 c2]]) (Res.one rfl (RV.box (agg := true) (size := 13) (rs := [encA .u8 d1, [.int .i64 x1], [.int .i64 x2], [.int .i64 x3], [.slice a1 n1 c1], [.slice a2 n2 c2]]) hB2 (by kernel_rfl) (by kernel_rfl) (by kernel_rfl) (by kernel_rfl))) tot htL ⟨a1, n1, c1, a2, n2, c2, rfl, hR1, hR2⟩
def F.baizeref01_number.l2 (l1 : List Int) (x5 : Int) : Nat → Int → Int → Option (Int × Int × Int)
  | 0, _, _ => none
  | k + 1, x11, x12 => (if decide (x12 ≥ 0) = true then (if (0 : Int) ≤ x12 ∧ x12 < (l1.length : Int) then (F.baizeref01_number.l2 l1 x5 k (IntKind.u64.wrap ((IntKind.u64.wrap (128 * x11)) + (IntKind.u64.wrap ((getI l1 x12).tmod 128)))) (IntKind.i64.wrap (x12 - 1))) else none) else (some (x11, (IntKind.i64.wrap (x5 + 1)), 0)))
def F.baizeref01_number.c3 (l1 : List Int) (x5 : Int) (q9 : Bool) : Option (Int × Int × Int) := (if q9 = true then (some (0, 0, 3)) else (F.baizeref01_number.l2 l1 x5 fuel 0 x5))
def F.baizeref01_number.c2 (l1 : List Int) (x5 : Int) (q8 : Bool) : Option (Int × Int × Int) := (if q8 = true then (some (0, 0, 4)) else (if (x5 == 10) = true then (F.baizeref01_number.c3 l1 x5 true) else (if decide (x5 > 0) = true then (if (0 : Int) ≤ x5 ∧ x5 < (l1.length : Int) then (if ((getI l1 x5) == 0) = true then (F.baizeref01_number.c3 l1 x5 true) else (if (x5 == 9) = true then (if (0 : Int) ≤ 9 ∧ 9 < (l1.length : Int) then (F.baizeref01_number.c3 l1 x5 (decide ((getI l1 9) > 1))) else none) else (F.baizeref01_number.c3 l1 x5 false))) else none) else (if (x5 == 9) = true then (if (0 : Int) ≤ 9 ∧ 9 < (l1.length : Int) then (F.baizeref01_number.c3 l1 x5 (decide ((getI l1 9) > 1))) else none) else (F.baizeref01_number.c3 l1 x5 false)))))
def F.baizeref01_number.c1 (nx1 : Int → Option (Int × Int × Int)) (l1 : List Int) (x5 : Int) (q7 : Bool) : Option (Int × Int × Int) := (if q7 = true then (nx1 (IntKind.i64.wrap (x5 + 1))) else (if (x5 == (l1.length : Int)) = true then (F.baizeref01_number.c2 l1 x5 (decide (x5 < 10))) else (F.baizeref01_number.c2 l1 x5 false)))
def F.baizeref01_number.l1 (l1 : List Int) : Nat → Int → Option (Int × Int × Int)
  | 0, _ => none
  | k + 1, x5 => (if decide (x5 < (l1.length : Int)) = true then (if decide (x5 < 10) = true then (if (0 : Int) ≤ x5 ∧ x5 < (l1.length : Int) then (F.baizeref01_number.c1 (F.baizeref01_number.l1 l1 k) l1 x5 (decide ((getI l1 x5) ≥ 128))) else none) else (F.baizeref01_number.c1 (F.baizeref01_number.l1 l1 k) l1 x5 false)) else (F.baizeref01_number.c1 (F.baizeref01_number.l1 l1 k) l1 x5 false))
def F.baizeref01_number (l1 : List Int) : Option (Int × Int × Int) := (F.baizeref01_number.l1 l1 fuel 0)
theorem P.baizeref01_number (g0 : GW) (l1 : List Int) (a1 : Option Addr) (n1 : Nat) (c1 : Nat) (hR1 : RdS (Kd.int .u8) g0 5 a1 n1 c1 l1) (o1 : Int) (o2 : Int) (o3 : Int) (hs : F.baizeref01_number l1 = some (o1, o2, o3)) :
    Calls Try.prog 60 #[.slice a1 n1 c1] g0.w (Ret NoM g0 fun v g => v = .tuple #[.int .u64 o1, .int .i64 o2, .int .i64 o3]) := by
  refine calls_of (args := [.slice a1 n1 c1]) Try.func60 rfl (0) ?_
  intro t ht htL
  refine ⟨_, rfl, ?_⟩
  refine CP.refr 73 [(0, .slice a1 n1 c1)] (by kernel_rfl) (by kernel_rfl) ?_
  intro ds
  have tot : Step (fun l => NoM l ∨ t ≤ l) g0 g0 := Step.refl _ _
  unfold F.baizeref01_number at hs
  refine CP.seqR ?_
  refine WP.still 3 (by kernel_rfl) ?_
  refine WP.done (by kernel_rfl) ?_
  refine NX.then_n ?_
  refine CP.seqR ?_
  refine WP.still 1 (by kernel_rfl) ?_
  refine WP.done (by kernel_rfl) ?_
  refine NX.then_n ?_
  refine CP.seq ?_
  refine CP.block ?_
  generalize fuel = k1 at hs
  refine CP.loop (fun k1 tm g => ∃ (x5 : Int), Fr 73 [(0, .slice a1 n1 c1), (5, .int .i64 x5)] tm ∧ Step (fun l => NoM l ∨ t ≤ l) g0 g ∧ RdS (Kd.int .u8) g 5 a1 n1 c1 l1 ∧ F.baizeref01_number.l1 l1 k1 x5 = some (o1, o2, o3)) k1 ?_ ?_ ?_
  · exact ⟨0, ⟨by kernel_rfl, by kernel_rfl⟩, tot, hR1, hs⟩
  · rintro tm g ⟨x5, hF, tot, hR1, hs⟩
    exact absurd hs (by simp [F.baizeref01_number.l1])
  clear tot hs hR1
  rintro k1 tm g ⟨x5, hF, tot, hR1, hs⟩
  clear ds
  obtain ⟨ds, rfl⟩ := hF.open
  clear hF
  unfold F.baizeref01_number.l1 at hs
  refine CP.seq ?_
  refine CP.cut (fun tm g => ∃ (q7 : Bool), Fr 73 [(0, .slice a1 n1 c1), (5, .int .i64 x5), (22, .bool q7)] tm ∧ Step (fun l => NoM l ∨ t ≤ l) g0 g ∧ RdS (Kd.int .u8) g 5 a1 n1 c1 l1 ∧ (F.baizeref01_number.c1 (F.baizeref01_number.l1 l1 k1) l1 x5 q7) = some (o1, o2, o3)) ?_ ?_
  · refine CP.region ?_
    refine WP.still 2 (by kernel_rfl) ?_
    refine WP.len (a := a1) (cp := c1) hR1.len (by kernel_rfl) ?_
    refine WP.still 2 (by kernel_rfl) ?_
    refine WP.guard 12 (b := decide (x5 < (l1.length : Int))) (by kernel_rfl) (fun h47 => ?_) (fun h47 => ?_)
    · replace hs := of_if_t hs h47
      refine WP.still 4 (by kernel_rfl) ?_
      refine WP.guard 16 (b := decide (x5 < 10)) (by kernel_rfl) (fun h48 => ?_) (fun h48 => ?_)
      · replace hs := of_if_t hs h48
        refine WP.still 2 (by kernel_rfl) ?_
        by_cases hc23 : (0 : Int) ≤ x5 ∧ x5 < (l1.length : Int)
        case neg => rw [if_neg hc23] at hs; cases hs
        replace hs := of_if_p hs hc23
        obtain ⟨b23, u23, ha23⟩ := hR1.at hc23
        refine WP.indexA (t := 24) (e := 5) (sz := 1) (cap := c1) (k := .i64) (i := x5) hR1.len ha23 (by kernel_rfl) (by kernel_rfl) hc23 ?_
        obtain ⟨cs23, hcR23, hcV23⟩ := hR1.src.view (getI_some hc23) ha23
        replace hcR23 := Kd.o_int hcR23
        refine WP.loadV [[.int .u8 (getI l1 x5)]] [1] hcV23 hcR23 rfl (f := 0) (ty := 5) (agg := false) (size := 1) (rs := [[.int .u8 (getI l1 x5)]]) (v := .int .u8 (getI l1 x5)) (by kernel_rfl) (by kernel_rfl) (by kernel_rfl) (by kernel_rfl) ?_
        refine WP.still 2 (by kernel_rfl) ?_
        refine WP.done (by kernel_rfl) ?_
        refine NX.post ?_
        exact ⟨decide ((getI l1 x5) ≥ 128), ⟨by kernel_rfl, by kernel_rfl⟩, tot, hR1, hs⟩
      replace hs := of_if_f hs h48
      refine WP.still 6 (by kernel_rfl) ?_
      refine WP.done (by kernel_rfl) ?_
      refine NX.post ?_
      exact ⟨false, ⟨by kernel_rfl, by kernel_rfl⟩, tot, hR1, hs⟩
    replace hs := of_if_f hs h47
    refine WP.still 10 (by kernel_rfl) ?_
    refine WP.done (by kernel_rfl) ?_
    refine NX.post ?_
    exact ⟨false, ⟨by kernel_rfl, by kernel_rfl⟩, tot, hR1, hs⟩
  clear tot hs hR1
  rintro tm g ⟨q7, hF, tot, hR1, hs⟩
  clear ds
  obtain ⟨ds, rfl⟩ := hF.open
  clear hF
  unfold F.baizeref01_number.c1 at hs
  refine CP.cond (b := q7) (by kernel_rfl) (fun h29 => ?_) (fun h29 => ?_)
  · replace hs := of_if_t hs h29
    refine CP.skip ?_
    refine NX.then_n ?_
    refine CP.block ?_
    refine CP.region ?_
    refine WP.still 3 (by kernel_rfl) ?_
    refine WP.done (by kernel_rfl) ?_
    refine NX.block_n ?_
    refine NX.post ?_
    exact ⟨(IntKind.i64.wrap (x5 + 1)), ⟨by kernel_rfl, by kernel_rfl⟩, tot, hR1, hs⟩
  replace hs := of_if_f hs h29
  refine CP.exit ?_
  refine NX.then_e ?_
  refine NX.then_e ?_
  refine NX.block_s ?_
  refine NX.then_n ?_
  refine CP.seq ?_
  refine CP.cut (fun tm g => ∃ (q8 : Bool), Fr 73 [(0, .slice a1 n1 c1), (5, .int .i64 x5), (32, .bool q8)] tm ∧ Step (fun l => NoM l ∨ t ≤ l) g0 g ∧ RdS (Kd.int .u8) g 5 a1 n1 c1 l1 ∧ (F.baizeref01_number.c2 l1 x5 q8) = some (o1, o2, o3)) ?_ ?_
  · refine CP.region ?_
    refine WP.still 2 (by kernel_rfl) ?_
    refine WP.len (a := a1) (cp := c1) hR1.len (by kernel_rfl) ?_
    refine WP.still 2 (by kernel_rfl) ?_
    refine WP.guard 29 (b := (x5 == (l1.length : Int))) (by kernel_rfl) (fun h46 => ?_) (fun h46 => ?_)
    · replace hs := of_if_t hs h46
      refine WP.still 3 (by kernel_rfl) ?_
      refine WP.done (by kernel_rfl) ?_
      refine NX.post ?_
      exact ⟨decide (x5 < 10), ⟨by kernel_rfl, by kernel_rfl⟩, tot, hR1, hs⟩
    replace hs := of_if_f hs h46
    refine WP.still 3 (by kernel_rfl) ?_
    refine WP.done (by kernel_rfl) ?_
    refine NX.post ?_
    exact ⟨false, ⟨by kernel_rfl, by kernel_rfl⟩, tot, hR1, hs⟩
  clear tot hs hR1
  rintro tm g ⟨q8, hF, tot, hR1, hs⟩
  clear ds
  obtain ⟨ds, rfl⟩ := hF.open
  clear hF
  unfold F.baizeref01_number.c2 at hs
  refine CP.cond (b := q8) (by kernel_rfl) (fun h31 => ?_) (fun h31 => ?_)
  · replace hs := of_if_t hs h31
    refine CP.seqR ?_
    refine WP.still 3 (by kernel_rfl) ?_
    refine WP.done (by kernel_rfl) ?_
    refine NX.then_n ?_
    refine CP.ret ?_
    refine NX.then_r ?_
    replace hs := Option.some.inj hs
    simp only [Prod.mk.injEq] at hs
    obtain ⟨rfl, rfl, rfl⟩ := hs
    exact NX.fin (v := .tuple #[.int .u64 0, .int .i64 0, .int .i64 4]) (Res.still (by kernel_rfl)) tot htL rfl
  replace hs := of_if_f hs h31
  refine CP.skip ?_
  refine NX.then_n ?_
  refine CP.seq ?_
  refine CP.cut (fun tm g => ∃ (q9 : Bool), Fr 73 [(0, .slice a1 n1 c1), (5, .int .i64 x5), (55, .bool q9)] tm ∧ Step (fun l => NoM l ∨ t ≤ l) g0 g ∧ RdS (Kd.int .u8) g 5 a1 n1 c1 l1 ∧ (F.baizeref01_number.c3 l1 x5 q9) = some (o1, o2, o3)) ?_ ?_
  · refine CP.region ?_
    refine WP.still 3 (by kernel_rfl) ?_
    refine WP.guard 35 (b := (x5 == 10)) (by kernel_rfl) (fun h41 => ?_) (fun h41 => ?_)
    · replace hs := of_if_t hs h41
      refine WP.still 20 (by kernel_rfl) ?_
      refine WP.done (by kernel_rfl) ?_
      refine NX.post ?_
      exact ⟨true, ⟨by kernel_rfl, by kernel_rfl⟩, tot, hR1, hs⟩
    replace hs := of_if_f hs h41
    refine WP.still 3 (by kernel_rfl) ?_
    refine WP.guard 38 (b := decide (x5 > 0)) (by kernel_rfl) (fun h42 => ?_) (fun h42 => ?_)
    · replace hs := of_if_t hs h42
      refine WP.still 2 (by kernel_rfl) ?_
      by_cases hc20 : (0 : Int) ≤ x5 ∧ x5 < (l1.length : Int)
      case neg => rw [if_neg hc20] at hs; cases hs
      replace hs := of_if_p hs hc20
      obtain ⟨b20, u20, ha20⟩ := hR1.at hc20
      refine WP.indexA (t := 24) (e := 5) (sz := 1) (cap := c1) (k := .i64) (i := x5) hR1.len ha20 (by kernel_rfl) (by kernel_rfl) hc20 ?_
      obtain ⟨cs20, hcR20, hcV20⟩ := hR1.src.view (getI_some hc20) ha20
      replace hcR20 := Kd.o_int hcR20
      refine WP.loadV [[.int .u8 (getI l1 x5)]] [1] hcV20 hcR20 rfl (f := 0) (ty := 5) (agg := false) (size := 1) (rs := [[.int .u8 (getI l1 x5)]]) (v := .int .u8 (getI l1 x5)) (by kernel_rfl) (by kernel_rfl) (by kernel_rfl) (by kernel_rfl) ?_
      refine WP.still 4 (by kernel_rfl) ?_
      refine WP.guard 46 (b := ((getI l1 x5) == 0)) (by kernel_rfl) (fun h43 => ?_) (fun h43 => ?_)
      · replace hs := of_if_t hs h43
        refine WP.still 9 (by kernel_rfl) ?_
        refine WP.done (by kernel_rfl) ?_
        refine NX.post ?_
        exact ⟨true, ⟨by kernel_rfl, by kernel_rfl⟩, tot, hR1, hs⟩
      replace hs := of_if_f hs h43
      refine WP.still 3 (by kernel_rfl) ?_
      refine WP.guard 49 (b := (x5 == 9)) (by kernel_rfl) (fun h44 => ?_) (fun h44 => ?_)
      · replace hs := of_if_t hs h44
        refine WP.still 1 (by kernel_rfl) ?_
        by_cases hc21 : (0 : Int) ≤ 9 ∧ 9 < (l1.length : Int)
        case neg => rw [if_neg hc21] at hs; cases hs
        replace hs := of_if_p hs hc21
        obtain ⟨b21, u21, ha21⟩ := hR1.at hc21
        refine WP.indexA (t := 24) (e := 5) (sz := 1) (cap := c1) (k := .i64) (i := 9) hR1.len ha21 (by kernel_rfl) (by kernel_rfl) hc21 ?_
        obtain ⟨cs21, hcR21, hcV21⟩ := hR1.src.view (getI_some hc21) ha21
        replace hcR21 := Kd.o_int hcR21
        refine WP.loadV [[.int .u8 (getI l1 9)]] [1] hcV21 hcR21 rfl (f := 0) (ty := 5) (agg := false) (size := 1) (rs := [[.int .u8 (getI l1 9)]]) (v := .int .u8 (getI l1 9)) (by kernel_rfl) (by kernel_rfl) (by kernel_rfl) (by kernel_rfl) ?_
        refine WP.still 3 (by kernel_rfl) ?_
        refine WP.done (by kernel_rfl) ?_
        refine NX.post ?_
        exact ⟨decide ((getI l1 9) > 1), ⟨by kernel_rfl, by kernel_rfl⟩, tot, hR1, hs⟩
      replace hs := of_if_f hs h44
      refine WP.still 6 (by kernel_rfl) ?_
      refine WP.done (by kernel_rfl) ?_
      refine NX.post ?_
      exact ⟨false, ⟨by kernel_rfl, by kernel_rfl⟩, tot, hR1, hs⟩
    replace hs := of_if_f hs h42
    refine WP.still 11 (by kernel_rfl) ?_
    refine WP.guard 49 (b := (x5 == 9)) (by kernel_rfl) (fun h45 => ?_) (fun h45 => ?_)
    · replace hs := of_if_t hs h45
      refine WP.still 1 (by kernel_rfl) ?_
      by_cases hc22 : (0 : Int) ≤ 9 ∧ 9 < (l1.length : Int)
      case neg => rw [if_neg hc22] at hs; cases hs
      replace hs := of_if_p hs hc22
      obtain ⟨b22, u22, ha22⟩ := hR1.at hc22
      refine WP.indexA (t := 24) (e := 5) (sz := 1) (cap := c1) (k := .i64) (i := 9) hR1.len ha22 (by kernel_rfl) (by kernel_rfl) hc22 ?_
      obtain ⟨cs22, hcR22, hcV22⟩ := hR1.src.view (getI_some hc22) ha22
      replace hcR22 := Kd.o_int hcR22
      refine WP.loadV [[.int .u8 (getI l1 9)]] [1] hcV22 hcR22 rfl (f := 0) (ty := 5) (agg := false) (size := 1) (rs := [[.int .u8 (getI l1 9)]]) (v := .int .u8 (getI l1 9)) (by kernel_rfl) (by kernel_rfl) (by kernel_rfl) (by kernel_rfl) ?_
      refine WP.still 3 (by kernel_rfl) ?_
      refine WP.done (by kernel_rfl) ?_
      refine NX.post ?_
      exact ⟨decide ((getI l1 9) > 1), ⟨by kernel_rfl, by kernel_rfl⟩, tot, hR1, hs⟩
    replace hs := of_if_f hs h45
    refine WP.still 6 (by kernel_rfl) ?_
    refine WP.done (by kernel_rfl) ?_
    refine NX.post ?_
    exact ⟨false, ⟨by kernel_rfl, by kernel_rfl⟩, tot, hR1, hs⟩
  clear tot hs hR1
  rintro tm g ⟨q9, hF, tot, hR1, hs⟩
  clear ds
  obtain ⟨ds, rfl⟩ := hF.open
  clear hF
  unfold F.baizeref01_number.c3 at hs
  refine CP.cond (b := q9) (by kernel_rfl) (fun h37 => ?_) (fun h37 => ?_)
  · replace hs := of_if_t hs h37
    refine CP.seqR ?_
    refine WP.still 3 (by kernel_rfl) ?_
    refine WP.done (by kernel_rfl) ?_
    refine NX.then_n ?_
    refine CP.ret ?_
    refine NX.then_r ?_
    replace hs := Option.some.inj hs
    simp only [Prod.mk.injEq] at hs
    obtain ⟨rfl, rfl, rfl⟩ := hs
    exact NX.fin (v := .tuple #[.int .u64 0, .int .i64 0, .int .i64 3]) (Res.still (by kernel_rfl)) tot htL rfl
  replace hs := of_if_f hs h37
  refine CP.skip ?_
  refine NX.then_n ?_
  refine CP.seqR ?_
  refine WP.still 1 (by kernel_rfl) ?_
  refine WP.done (by kernel_rfl) ?_
  refine NX.then_n ?_
  refine CP.seq ?_
  refine CP.seqR ?_
  refine WP.still 2 (by kernel_rfl) ?_
  refine WP.done (by kernel_rfl) ?_
  refine NX.then_n ?_
  refine CP.block ?_
  generalize fuel = k2 at hs
  refine CP.loop (fun k2 tm g => ∃ (x11 : Int) (x12 : Int), Fr 73 [(0, .slice a1 n1 c1), (5, .int .i64 x5), (6, .int .u64 x11), (7, .int .i64 x12)] tm ∧ Step (fun l => NoM l ∨ t ≤ l) g0 g ∧ RdS (Kd.int .u8) g 5 a1 n1 c1 l1 ∧ F.baizeref01_number.l2 l1 x5 k2 x11 x12 = some (o1, o2, o3)) k2 ?_ ?_ ?_
  · exact ⟨0, x5, ⟨by kernel_rfl, by kernel_rfl⟩, tot, hR1, hs⟩
  · rintro tm g ⟨x11, x12, hF, tot, hR1, hs⟩
    exact absurd hs (by simp [F.baizeref01_number.l2])
  clear tot hs hR1
  rintro k2 tm g ⟨x11, x12, hF, tot, hR1, hs⟩
  clear ds
  obtain ⟨ds, rfl⟩ := hF.open
  clear hF
  unfold F.baizeref01_number.l2 at hs
  refine CP.seq ?_
  refine CP.seqR ?_
  refine WP.still 2 (by kernel_rfl) ?_
  refine WP.done (by kernel_rfl) ?_
  refine NX.then_n ?_
  refine CP.cond (b := decide (x12 ≥ 0)) (by kernel_rfl) (fun h40 => ?_) (fun h40 => ?_)
  · replace hs := of_if_t hs h40
    refine CP.skip ?_
    refine NX.then_n ?_
    refine CP.seq ?_
    refine CP.block ?_
    refine CP.region ?_
    refine WP.still 4 (by kernel_rfl) ?_
    by_cases hc19 : (0 : Int) ≤ x12 ∧ x12 < (l1.length : Int)
    case neg => rw [if_neg hc19] at hs; cases hs
    replace hs := of_if_p hs hc19
    obtain ⟨b19, u19, ha19⟩ := hR1.at hc19
    refine WP.indexA (t := 24) (e := 5) (sz := 1) (cap := c1) (k := .i64) (i := x12) hR1.len ha19 (by kernel_rfl) (by kernel_rfl) hc19 ?_
    obtain ⟨cs19, hcR19, hcV19⟩ := hR1.src.view (getI_some hc19) ha19
    replace hcR19 := Kd.o_int hcR19
    refine WP.loadV [[.int .u8 (getI l1 x12)]] [1] hcV19 hcR19 rfl (f := 0) (ty := 5) (agg := false) (size := 1) (rs := [[.int .u8 (getI l1 x12)]]) (v := .int .u8 (getI l1 x12)) (by kernel_rfl) (by kernel_rfl) (by kernel_rfl) (by kernel_rfl) ?_
    refine WP.still 4 (by kernel_rfl) ?_
    refine WP.done (by kernel_rfl) ?_
    refine NX.block_n ?_
    refine NX.then_n ?_
    refine CP.region ?_
    refine WP.still 3 (by kernel_rfl) ?_
    refine WP.done (by kernel_rfl) ?_
    refine NX.post ?_
    exact ⟨(IntKind.u64.wrap ((IntKind.u64.wrap (128 * x11)) + (IntKind.u64.wrap ((getI l1 x12).tmod 128)))), (IntKind.i64.wrap (x12 - 1)), ⟨by kernel_rfl, by kernel_rfl⟩, tot, hR1, hs⟩
  replace hs := of_if_f hs h40
  refine CP.exit ?_
  refine NX.then_e ?_
  refine NX.then_e ?_
  refine NX.block_s ?_
  refine NX.then_n ?_
  refine CP.seqR ?_
  refine WP.still 6 (by kernel_rfl) ?_
  refine WP.done (by kernel_rfl) ?_
  refine NX.then_n ?_
  refine CP.ret ?_
  replace hs := Option.some.inj hs
  simp only [Prod.mk.injEq] at hs
  obtain ⟨rfl, rfl, rfl⟩ := hs
  exact NX.fin (v := .tuple #[.int .u64 x11, .int .i64 (IntKind.i64.wrap (x5 + 1)), .int .i64 0]) (Res.still (by kernel_rfl)) tot htL rfl
def F.baizeref01_Fail (l1 : List Int) (x1 : Int) (x2 : Int) (x3 : Int) : Option ((List Int) × Int × Int) := (some (l1, x1, x3))
theorem P.baizeref01_Fail (g0 : GW) (l1 : List Int) (x1 : Int) (x2 : Int) (x3 : Int) (a1 : Option Addr) (n1 : Nat) (c1 : Nat) (hR1 : RdS (Kd.int .u8) g0 5 a1 n1 c1 l1) (o1 : List Int) (o2 : Int) (o3 : Int) (hs : F.baizeref01_Fail l1 x1 x2 x3 = some (o1, o2, o3)) :
    Calls Try.prog 61 #[AG [[.slice a1 n1 c1], [.int .i64 x1], [.int .i64 x2]], .int .i64 x3] g0.w (Ret NoM g0 fun v g => ∃ (a_1 : Option Addr) (n_1 : Nat) (c_1 : Nat), v = AG [[.slice a_1 n_1 c_1], [.int .i64 o2], [.int .i64 o3]] ∧ RdS (Kd.int .u8) g 5 a_1 n_1 c_1 o1) := by
  refine calls_of (args := [AG [[.slice a1 n1 c1], [.int .i64 x1], [.int .i64 x2]], .int .i64 x3]) Try.func61 rfl (0) ?_
  intro t ht htL
  refine ⟨_, rfl, ?_⟩
  refine CP.refr 8 [(0, AG [[.slice a1 n1 c1], [.int .i64 x1], [.int .i64 x2]]), (1, .int .i64 x3)] (by kernel_rfl) (by kernel_rfl) ?_
  intro ds
  have tot : Step (fun l => NoM l ∨ t ≤ l) g0 g0 := Step.refl _ _
  unfold F.baizeref01_Fail at hs
  refine CP.seqR ?_
  refine WP.alloc (T := 74) (t + 1) [[.slice a1 n1 c1], [.int .i64 x1], [.int .i64 x2]] [1, 1, 1] (by kernel_rfl) rfl ?_
  intro g1 b1 st1 hB1
  replace hR1 := hR1.mono st1 (fun x => x)
  replace tot := tot.trans st1.pure
  refine WP.alloc (T := 74) (t + 2) [[.slice none 0 0], [.int .i64 0], [.int .i64 0]] [1, 1, 1] (by kernel_rfl) rfl ?_
  intro g2 b2 st2 hB2
  replace hR1 := hR1.mono st2 (fun x => x)
  replace hB1 := hB1.mono st2 (fun x => x)
  replace tot := tot.trans st2.pure
  refine WP.done (by kernel_rfl) ?_
  refine NX.then_n ?_
  refine CP.seqR ?_
  refine WP.still 2 (by kernel_rfl) ?_
  refine WP.storeB (ty := 3) (off := 2) (v := .int .i64 x3) hB1 [[.int .i64 x3]] [1] (by kernel_rfl) (by kernel_rfl) rfl (by kernel_rfl) [[.slice a1 n1 c1], [.int .i64 x1], [.int .i64 x3]] (by kernel_rfl) (.one rfl .nil) ?_
  intro g3 st3 hB3
  replace hR1 := hR1.mono st3 (WL.no1 (by omega))
  replace hB2 := hB2.mono st3 (WL.no1 (by omega))
  replace tot := tot.trans (st3.up1 (.inr (by omega)))
  clear hB1
  have hB1 := hB3
  clear hB3
  refine WP.done (by kernel_rfl) ?_
  refine NX.then_n ?_
  refine CP.seqR ?_
  refine WP.loadB (v := AG [[.slice a1 n1 c1], [.int .i64 x1], [.int .i64 x3]]) hB1 (by kernel_rfl) (by kernel_rfl) ?_
  refine WP.storeB (ty := 74) (off := 0) (v := AG [[.slice a1 n1 c1], [.int .i64 x1], [.int .i64 x3]]) hB2 [[.slice a1 n1 c1], [.int .i64 x1], [.int .i64 x3]] [1, 1, 1] (by kernel_rfl) (by kernel_rfl) rfl (by kernel_rfl) [[.slice a1 n1 c1], [.int .i64 x1], [.int .i64 x3]] (by kernel_rfl) (.one rfl (.one rfl (.one rfl .nil))) ?_
  intro g4 st4 hB4
  replace hB1 := hB1.mono st4 (WL.no1 (by omega))
  replace hR1 := hR1.mono st4 (WL.no1 (by omega))
  replace tot := tot.trans (st4.up1 (.inr (by omega)))
  clear hB2
  have hB2 := hB4
  clear hB4
  refine WP.done (by kernel_rfl) ?_
  refine NX.then_n ?_
  refine CP.ret ?_
  replace hs := Option.some.inj hs
  simp only [Prod.mk.injEq] at hs
  obtain ⟨rfl, rfl, rfl⟩ := hs
  exact NX.fin (v := AG [[.slice a1 n1 c1], [.int .i64 x1], [.int .i64 x3]]) (Res.one rfl (RV.box (agg := true) (size := 3) (rs := [[.slice a1 n1 c1], [.int .i64 x1], [.int .i64 x3]]) hB2 (by kernel_rfl) (by kernel_rfl) (by kernel_rfl) (by kernel_rfl))) tot htL ⟨a1, n1, c1, rfl, hR1⟩
def F.baizeref01_Read.c1 (l1 : List Int) (x1 : Int) (x2 : Int) (x4 : Int) (x5 : Int) (x7 : Int) : Option ((List Int) × Int × Int × Int) := (if (x7 != 0) = true then ((F.baizeref01_Fail l1 x1 x2 x7).bind fun (l2, x8, x9) => (some (l2, x8, x9, 0))) else (some (l1, (IntKind.i64.wrap (x1 + x5)), x2, x4)))
def F.baizeref01_Read.c2 (l1 : List Int) (x1 : Int) (x2 : Int) (x4 : Int) (x5 : Int) (x6 : Int) (q2 : Bool) : Option ((List Int) × Int × Int × Int) := (if q2 = true then (F.baizeref01_Read.c1 l1 x1 x2 x4 x5 2) else (F.baizeref01_Read.c1 l1 x1 x2 x4 x5 x6))
def F.baizeref01_Read (l1 : List Int) (x1 : Int) (x2 : Int) (x3 : Int) : Option ((List Int) × Int × Int × Int) := (if (x2 != 0) = true then (some (l1, x1, x2, 0)) else (if (0 : Int) ≤ x1 ∧ x1 ≤ (l1.length : Int) ∧ (l1.length : Int) ≤ (l1.length : Int) then ((F.baizeref01_number (sliceI l1 x1 (l1.length : Int))).bind fun (x4, x5, x6) => (if (x6 == 0) = true then (F.baizeref01_Read.c2 l1 x1 x2 x4 x5 x6 (decide (x4 > x3))) else (F.baizeref01_Read.c2 l1 x1 x2 x4 x5 x6 false))) else none))
theorem P.baizeref01_Read (g0 : GW) (l1 : List Int) (x1 : Int) (x2 : Int) (x3 : Int) (a1 : Option Addr) (n1 : Nat) (c1 : Nat) (hR1 : RdS (Kd.int .u8) g0 5 a1 n1 c1 l1) (o1 : List Int) (o2 : Int) (o3 : Int) (o4 : Int) (hs : F.baizeref01_Read l1 x1 x2 x3 = some (o1, o2, o3, o4)) :
    Calls Try.prog 37 #[AG [[.slice a1 n1 c1], [.int .i64 x1], [.int .i64 x2]], .int .u64 x3] g0.w (Ret NoM g0 fun v g => ∃ (a_1 : Option Addr) (n_1 : Nat) (c_1 : Nat), v = .tuple #[AG [[.slice a_1 n_1 c_1], [.int .i64 o2], [.int .i64 o3]], .int .u64 o4] ∧ RdS (Kd.int .u8) g 5 a_1 n_1 c_1 o1) := by
  refine calls_of (args := [AG [[.slice a1 n1 c1], [.int .i64 x1], [.int .i64 x2]], .int .u64 x3]) Try.func37 rfl (0) ?_
  intro t ht htL
  refine ⟨_, rfl, ?_⟩
  refine CP.refr 42 [(0, AG [[.slice a1 n1 c1], [.int .i64 x1], [.int .i64 x2]]), (1, .int .u64 x3)] (by kernel_rfl) (by kernel_rfl) ?_
  intro ds
  have tot : Step (fun l => NoM l ∨ t ≤ l) g0 g0 := Step.refl _ _
  unfold F.baizeref01_Read at hs
  refine CP.seqR ?_
  refine WP.alloc (T := 74) (t + 1) [[.slice a1 n1 c1], [.int .i64 x1], [.int .i64 x2]] [1, 1, 1] (by kernel_rfl) rfl ?_
  intro g1 b1 st1 hB1
  replace hR1 := hR1.mono st1 (fun x => x)
  replace tot := tot.trans st1.pure
  refine WP.alloc (T := 74) (t + 2) [[.slice none 0 0], [.int .i64 0], [.int .i64 0]] [1, 1, 1] (by kernel_rfl) rfl ?_
  intro g2 b2 st2 hB2
  replace hR1 := hR1.mono st2 (fun x => x)
  replace hB1 := hB1.mono st2 (fun x => x)
  replace tot := tot.trans st2.pure
  refine WP.still 1 (by kernel_rfl) ?_
  refine WP.done (by kernel_rfl) ?_
  refine NX.then_n ?_
  refine CP.seq ?_
  refine CP.seqR ?_
  refine WP.still 1 (by kernel_rfl) ?_
  refine WP.loadB (v := .int .i64 x2) hB1 (by kernel_rfl) (by kernel_rfl) ?_
  refine WP.still 1 (by kernel_rfl) ?_
  refine WP.done (by kernel_rfl) ?_
  refine NX.then_n ?_
  refine CP.cond (b := (x2 != 0)) (by kernel_rfl) (fun h1 => ?_) (fun h1 => ?_)
  · replace hs := of_if_t hs h1
    refine CP.seqR ?_
    refine WP.loadB (v := AG [[.slice a1 n1 c1], [.int .i64 x1], [.int .i64 x2]]) hB1 (by kernel_rfl) (by kernel_rfl) ?_
    refine WP.storeB (ty := 74) (off := 0) (v := AG [[.slice a1 n1 c1], [.int .i64 x1], [.int .i64 x2]]) hB2 [[.slice a1 n1 c1], [.int .i64 x1], [.int .i64 x2]] [1, 1, 1] (by kernel_rfl) (by kernel_rfl) rfl (by kernel_rfl) [[.slice a1 n1 c1], [.int .i64 x1], [.int .i64 x2]] (by kernel_rfl) (.one rfl (.one rfl (.one rfl .nil))) ?_
    intro g3 st3 hB3
    replace hB1 := hB1.mono st3 (WL.no1 (by omega))
    replace hR1 := hR1.mono st3 (WL.no1 (by omega))
    replace tot := tot.trans (st3.up1 (.inr (by omega)))
    clear hB2
    have hB2 := hB3
    clear hB3
    refine WP.still 1 (by kernel_rfl) ?_
    refine WP.done (by kernel_rfl) ?_
    refine NX.then_n ?_
    refine CP.ret ?_
    refine NX.then_r ?_
    replace hs := Option.some.inj hs
    simp only [Prod.mk.injEq] at hs
    obtain ⟨rfl, rfl, rfl, rfl⟩ := hs
    exact NX.fin (v := .tuple #[AG [[.slice a1 n1 c1], [.int .i64 x1], [.int .i64 x2]], .int .u64 0]) (Res.two rfl (RV.box (agg := true) (size := 3) (rs := [[.slice a1 n1 c1], [.int .i64 x1], [.int .i64 x2]]) hB2 (by kernel_rfl) (by kernel_rfl) (by kernel_rfl) (by kernel_rfl)) (RV.tmp (by kernel_rfl))) tot htL ⟨a1, n1, c1, rfl, hR1⟩
  replace hs := of_if_f hs h1
  refine CP.skip ?_
  refine NX.then_n ?_
  refine CP.seqR ?_
  refine WP.still 1 (by kernel_rfl) ?_
  refine WP.loadB (v := .slice a1 n1 c1) hB1 (by kernel_rfl) (by kernel_rfl) ?_
  refine WP.still 1 (by kernel_rfl) ?_
  refine WP.loadB (v := .int .i64 x1) hB1 (by kernel_rfl) (by kernel_rfl) ?_
  by_cases hc1 : (0 : Int) ≤ x1 ∧ x1 ≤ (l1.length : Int) ∧ (l1.length : Int) ≤ (l1.length : Int)
  case neg => rw [if_neg hc1] at hs; cases hs
  replace hs := of_if_p hs hc1
  refine WP.sliceR (lo := some (.int .i64 x1)) (hi := none) hR1 x1 (l1.length : Int) (by kernel_rfl) (.inr ⟨_, rfl⟩) (.inl ⟨rfl, rfl⟩) hc1 ?_
  intro a2 c2 hR2
  replace hs := Option.bind_eq_some_iff.1 hs
  obtain ⟨⟨x4, x5, x6⟩, hk1, hs⟩ := hs
  dsimp only at hs
  have hcal1 := P.baizeref01_number g2 (sliceI l1 x1 (l1.length : Int)) a2 ((l1.length : Int).toNat - x1.toNat) c2 hR2 x4 x5 x6 hk1
  refine WP.callC hcal1 (by kernel_rfl) ?_
  rintro _ g4 st4 rfl
  replace hB1 := hB1.mono st4 (fun x => x)
  replace hR1 := hR1.mono st4 (fun x => x)
  replace hB2 := hB2.mono st4 (fun x => x)
  replace hR2 := hR2.mono st4 (fun x => x)
  replace tot := tot.trans st4.pure
  refine WP.still 7 (by kernel_rfl) ?_
  refine WP.done (by kernel_rfl) ?_
  refine NX.then_n ?_
  refine CP.refr 42 [(1, .int .u64 x3), (2, .pointer (some ⟨b1, 0, none⟩)), (4, .pointer (some ⟨b2, 0, none⟩)), (6, .int .u64 x4), (7, .int .i64 x5), (8, .int .i64 x6)] (by kernel_rfl) (by kernel_rfl) ?_
  clear ds
  intro ds
  refine CP.cut (fun tm g => ∃ (x7 : Int), Fr 42 [(2, .pointer (some ⟨b1, 0, none⟩)), (4, .pointer (some ⟨b2, 0, none⟩)), (6, .int .u64 x4), (7, .int .i64 x5), (8, .int .i64 x7)] tm ∧ Step (fun l => NoM l ∨ t ≤ l) g0 g ∧ Box g (t + 1) b1 74 [[.slice a1 n1 c1], [.int .i64 x1], [.int .i64 x2]] [1, 1, 1] ∧ RdS (Kd.int .u8) g 5 a1 n1 c1 l1 ∧ Box g (t + 2) b2 74 [[.slice none 0 0], [.int .i64 0], [.int .i64 0]] [1, 1, 1] ∧ (F.baizeref01_Read.c1 l1 x1 x2 x4 x5 x7) = some (o1, o2, o3, o4)) ?_ ?_
  · refine CP.cut (fun tm g => ∃ (q2 : Bool), Fr 42 [(2, .pointer (some ⟨b1, 0, none⟩)), (4, .pointer (some ⟨b2, 0, none⟩)), (6, .int .u64 x4), (7, .int .i64 x5), (8, .int .i64 x6), (29, .bool q2)] tm ∧ Step (fun l => NoM l ∨ t ≤ l) g0 g ∧ Box g (t + 1) b1 74 [[.slice a1 n1 c1], [.int .i64 x1], [.int .i64 x2]] [1, 1, 1] ∧ RdS (Kd.int .u8) g 5 a1 n1 c1 l1 ∧ Box g (t + 2) b2 74 [[.slice none 0 0], [.int .i64 0], [.int .i64 0]] [1, 1, 1] ∧ (F.baizeref01_Read.c2 l1 x1 x2 x4 x5 x6 q2) = some (o1, o2, o3, o4)) ?_ ?_
    · refine CP.region ?_
      refine WP.still 3 (by kernel_rfl) ?_
      refine WP.guard 25 (b := (x6 == 0)) (by kernel_rfl) (fun h7 => ?_) (fun h7 => ?_)
      · replace hs := of_if_t hs h7
        refine WP.still 4 (by kernel_rfl) ?_
        refine WP.done (by kernel_rfl) ?_
        refine NX.post ?_
        exact ⟨decide (x4 > x3), ⟨by kernel_rfl, by kernel_rfl⟩, tot, hB1, hR1, hB2, hs⟩
      replace hs := of_if_f hs h7
      refine WP.still 4 (by kernel_rfl) ?_
      refine WP.done (by kernel_rfl) ?_
      refine NX.post ?_
      exact ⟨false, ⟨by kernel_rfl, by kernel_rfl⟩, tot, hB1, hR1, hB2, hs⟩
    clear tot hs hB1 hR1 hB2
    rintro tm g ⟨q2, hF, tot, hB1, hR1, hB2, hs⟩
    clear ds
    obtain ⟨ds, rfl⟩ := hF.open
    clear hF
    unfold F.baizeref01_Read.c2 at hs
    refine CP.cond (b := q2) (by kernel_rfl) (fun h6 => ?_) (fun h6 => ?_)
    · replace hs := of_if_t hs h6
      refine CP.region ?_
      refine WP.still 1 (by kernel_rfl) ?_
      refine WP.done (by kernel_rfl) ?_
      refine NX.post ?_
      exact ⟨2, ⟨by kernel_rfl, by kernel_rfl⟩, tot, hB1, hR1, hB2, hs⟩
    replace hs := of_if_f hs h6
    refine CP.skip ?_
    refine NX.post ?_
    exact ⟨x6, ⟨by kernel_rfl, by kernel_rfl⟩, tot, hB1, hR1, hB2, hs⟩
  clear tot hs hB1 hR1 hB2
  rintro tm g ⟨x7, hF, tot, hB1, hR1, hB2, hs⟩
  clear ds
  obtain ⟨ds, rfl⟩ := hF.open
  clear hF
  unfold F.baizeref01_Read.c1 at hs
  refine CP.seq ?_
  refine CP.seqR ?_
  refine WP.still 2 (by kernel_rfl) ?_
  refine WP.done (by kernel_rfl) ?_
  refine NX.then_n ?_
  refine CP.cond (b := (x7 != 0)) (by kernel_rfl) (fun h4 => ?_) (fun h4 => ?_)
  · replace hs := of_if_t hs h4
    refine CP.seqR ?_
    refine WP.loadB (v := AG [[.slice a1 n1 c1], [.int .i64 x1], [.int .i64 x2]]) hB1 (by kernel_rfl) (by kernel_rfl) ?_
    refine WP.still 1 (by kernel_rfl) ?_
    replace hs := Option.bind_eq_some_iff.1 hs
    obtain ⟨⟨l2, x8, x9⟩, hk2, hs⟩ := hs
    dsimp only at hs
    have hcal2 := P.baizeref01_Fail g l1 x1 x2 x7 a1 n1 c1 hR1 l2 x8 x9 hk2
    refine WP.callC hcal2 (by kernel_rfl) ?_
    rintro _ g5 st5 ⟨a3, n2, c3, rfl, hR3⟩
    replace hB1 := hB1.mono st5 (fun x => x)
    replace hR1 := hR1.mono st5 (fun x => x)
    replace hB2 := hB2.mono st5 (fun x => x)
    replace tot := tot.trans st5.pure
    refine WP.storeB (ty := 74) (off := 0) (v := AG [[.slice a3 n2 c3], [.int .i64 x8], [.int .i64 x9]]) hB2 [[.slice a3 n2 c3], [.int .i64 x8], [.int .i64 x9]] [1, 1, 1] (by kernel_rfl) (by kernel_rfl) rfl (by kernel_rfl) [[.slice a3 n2 c3], [.int .i64 x8], [.int .i64 x9]] (by kernel_rfl) (.one rfl (.one rfl (.one rfl .nil))) ?_
    intro g6 st6 hB4
    replace hB1 := hB1.mono st6 (WL.no1 (by omega))
    replace hR1 := hR1.mono st6 (WL.no1 (by omega))
    replace hR3 := hR3.mono st6 (WL.no1 (by omega))
    replace tot := tot.trans (st6.up1 (.inr (by omega)))
    clear hB2
    have hB2 := hB4
    clear hB4
    refine WP.still 1 (by kernel_rfl) ?_
    refine WP.done (by kernel_rfl) ?_
    refine NX.then_n ?_
    refine CP.ret ?_
    refine NX.then_r ?_
    replace hs := Option.some.inj hs
    simp only [Prod.mk.injEq] at hs
    obtain ⟨rfl, rfl, rfl, rfl⟩ := hs
    exact NX.fin (v := .tuple #[AG [[.slice a3 n2 c3], [.int .i64 x8], [.int .i64 x9]], .int .u64 0]) (Res.two rfl (RV.box (agg := true) (size := 3) (rs := [[.slice a3 n2 c3], [.int .i64 x8], [.int .i64 x9]]) hB2 (by kernel_rfl) (by kernel_rfl) (by kernel_rfl) (by kernel_rfl)) (RV.tmp (by kernel_rfl))) tot htL ⟨a3, n2, c3, rfl, hR3⟩
  replace hs := of_if_f hs h4
  refine CP.skip ?_
  refine NX.then_n ?_
  refine CP.seqR ?_
  refine WP.still 1 (by kernel_rfl) ?_
  refine WP.loadB (v := .int .i64 x1) hB1 (by kernel_rfl) (by kernel_rfl) ?_
  refine WP.still 3 (by kernel_rfl) ?_
  refine WP.storeB (ty := 3) (off := 1) (v := .int .i64 (IntKind.i64.wrap (x1 + x5))) hB1 [[.int .i64 (IntKind.i64.wrap (x1 + x5))]] [1] (by kernel_rfl) (by kernel_rfl) rfl (by kernel_rfl) [[.slice a1 n1 c1], [.int .i64 (IntKind.i64.wrap (x1 + x5))], [.int .i64 x2]] (by kernel_rfl) (.one rfl .nil) ?_
  intro g7 st7 hB5
  replace hR1 := hR1.mono st7 (WL.no1 (by omega))
  replace hB2 := hB2.mono st7 (WL.no1 (by omega))
  replace tot := tot.trans (st7.up1 (.inr (by omega)))
  clear hB1
  have hB1 := hB5
  clear hB5
  refine WP.done (by kernel_rfl) ?_
  refine NX.then_n ?_
  refine CP.seqR ?_
  refine WP.loadB (v := AG [[.slice a1 n1 c1], [.int .i64 (IntKind.i64.wrap (x1 + x5))], [.int .i64 x2]]) hB1 (by kernel_rfl) (by kernel_rfl) ?_
  refine WP.still 1 (by kernel_rfl) ?_
  refine WP.storeB (ty := 74) (off := 0) (v := AG [[.slice a1 n1 c1], [.int .i64 (IntKind.i64.wrap (x1 + x5))], [.int .i64 x2]]) hB2 [[.slice a1 n1 c1], [.int .i64 (IntKind.i64.wrap (x1 + x5))], [.int .i64 x2]] [1, 1, 1] (by kernel_rfl) (by kernel_rfl) rfl (by kernel_rfl) [[.slice a1 n1 c1], [.int .i64 (IntKind.i64.wrap (x1 + x5))], [.int .i64 x2]] (by kernel_rfl) (.one rfl (.one rfl (.one rfl .nil))) ?_
  intro g8 st8 hB6
  replace hB1 := hB1.mono st8 (WL.no1 (by omega))
  replace hR1 := hR1.mono st8 (WL.no1 (by omega))
  replace tot := tot.trans (st8.up1 (.inr (by omega)))
  clear hB2
  have hB2 := hB6
  clear hB6
  refine WP.still 1 (by kernel_rfl) ?_
  refine WP.done (by kernel_rfl) ?_
  refine NX.then_n ?_
  refine CP.ret ?_
  replace hs := Option.some.inj hs
  simp only [Prod.mk.injEq] at hs
  obtain ⟨rfl, rfl, rfl, rfl⟩ := hs
  exact NX.fin (v := .tuple #[AG [[.slice a1 n1 c1], [.int .i64 (IntKind.i64.wrap (x1 + x5))], [.int .i64 x2]], .int .u64 x4]) (Res.two rfl (RV.box (agg := true) (size := 3) (rs := [[.slice a1 n1 c1], [.int .i64 (IntKind.i64.wrap (x1 + x5))], [.int .i64 x2]]) hB2 (by kernel_rfl) (by kernel_rfl) (by kernel_rfl) (by kernel_rfl)) (RV.tmp (by kernel_rfl))) tot htL ⟨a1, n1, c1, rfl, hR1⟩
def F.baizeref02_FromNum.l1 : Nat → Int → (Arr Int 8) → Int → Option ((Arr Int 8))
  | 0, _, _, _ => none
  | k + 1, x2, d1, x3 => (if decide (x3 < 8) = true then (if (0 : Int) ≤ x3 ∧ x3 < (8 : Int) then (F.baizeref02_FromNum.l1 k (IntKind.u64.wrap (x2.tdiv 256)) (aset d1 x3 (IntKind.u8.wrap (x2.tmod 256))) (IntKind.i64.wrap (x3 + 1))) else none) else (some d1))
def F.baizeref02_FromNum (x1 : Int) : Option ((Arr Int 8)) := (F.baizeref02_FromNum.l1 fuel x1 (zA 8) 0)
theorem P.baizeref02_FromNum (g0 : GW) (x1 : Int) (o1 : Arr Int 8) (hs : F.baizeref02_FromNum x1 = some o1) :
    Calls Try.prog 38 #[.int .u64 x1] g0.w (Ret NoM g0 fun v g => v = AG [encA .u8 o1]) := by
  refine calls_of (args := [.int .u64 x1]) Try.func38 rfl (0) ?_
  intro t ht htL
  refine ⟨_, rfl, ?_⟩
  refine CP.refr 18 [(0, .int .u64 x1)] (by kernel_rfl) (by kernel_rfl) ?_
  intro ds
  have tot : Step (fun l => NoM l ∨ t ≤ l) g0 g0 := Step.refl _ _
  unfold F.baizeref02_FromNum at hs
  refine CP.seqR ?_
  refine WP.alloc (T := 22) (t + 1) [encA .u8 (zA 8)] [8] (by kernel_rfl) (by simp [len_encA]) ?_
  intro g1 b1 st1 hB1
  replace tot := tot.trans st1.pure
  refine WP.done (by kernel_rfl) ?_
  refine NX.then_n ?_
  refine CP.seqR ?_
  refine WP.still 1 (by kernel_rfl) ?_
  refine WP.alloc (T := 22) (t + 2) [encA .u8 (zA 8)] [8] (by kernel_rfl) (by simp [len_encA]) ?_
  intro g2 b2 st2 hB2
  replace hB1 := hB1.mono st2 (fun x => x)
  replace tot := tot.trans st2.pure
  refine WP.storeB (ty := 22) (off := 0) (v := AG [encA .u8 (zA 8)]) hB2 [encA .u8 (zA 8)] [8] (by kernel_rfl) (by kernel_rfl) (by simp [len_encA]) (by kernel_rfl) [encA .u8 (zA 8)] (by kernel_rfl) (.arr .nil) ?_
  intro g3 st3 hB3
  replace hB1 := hB1.mono st3 (WL.no1 (by omega))
  replace tot := tot.trans (st3.up1 (.inr (by omega)))
  clear hB2
  have hB2 := hB3
  clear hB3
  refine WP.done (by kernel_rfl) ?_
  refine NX.then_n ?_
  refine CP.seq ?_
  refine CP.seqR ?_
  refine WP.still 1 (by kernel_rfl) ?_
  refine WP.done (by kernel_rfl) ?_
  refine NX.then_n ?_
  refine CP.block ?_
  generalize fuel = k1 at hs
  refine CP.loop (fun k1 tm g => ∃ (x2 : Int) (d1 : Arr Int 8) (x3 : Int), Fr 18 [(0, .int .u64 x2), (2, .pointer (some ⟨b1, 0, none⟩)), (3, .pointer (some ⟨b2, 0, none⟩)), (4, .int .i64 x3)] tm ∧ Step (fun l => NoM l ∨ t ≤ l) g0 g ∧ Box g (t + 1) b1 22 [encA .u8 (zA 8)] [8] ∧ Box g (t + 2) b2 22 [encA .u8 d1] [8] ∧ F.baizeref02_FromNum.l1 k1 x2 d1 x3 = some o1) k1 ?_ ?_ ?_
  · exact ⟨x1, (zA 8), 0, ⟨by kernel_rfl, by kernel_rfl⟩, tot, hB1, hB2, hs⟩
  · rintro tm g ⟨x2, d1, x3, hF, tot, hB1, hB2, hs⟩
    exact absurd hs (by simp [F.baizeref02_FromNum.l1])
  clear tot hs hB1 hB2
  rintro k1 tm g ⟨x2, d1, x3, hF, tot, hB1, hB2, hs⟩
  clear ds
  obtain ⟨ds, rfl⟩ := hF.open
  clear hF
  unfold F.baizeref02_FromNum.l1 at hs
  refine CP.seq ?_
  refine CP.seqR ?_
  refine WP.still 2 (by kernel_rfl) ?_
  refine WP.done (by kernel_rfl) ?_
  refine NX.then_n ?_
  refine CP.cond (b := decide (x3 < 8)) (by kernel_rfl) (fun h3 => ?_) (fun h3 => ?_)
  · replace hs := of_if_t hs h3
    refine CP.skip ?_
    refine NX.then_n ?_
    refine CP.seq ?_
    refine CP.block ?_
    refine CP.seqR ?_
    refine WP.still 4 (by kernel_rfl) ?_
    by_cases hc2 : (0 : Int) ≤ x3 ∧ x3 < (8 : Int)
    case neg => rw [if_neg hc2] at hs; cases hs
    replace hs := of_if_p hs hc2
    refine WP.ixBox (t := 22) (e := 5) (m := 8) (size := 1) (b := b2) (off := 0) (k := .i64) (i := x3) (by kernel_rfl) (by kernel_rfl) hc2 ?_
    refine WP.storeE (ty := 5) (o := 0) (m := 8) (k := .u8) (d := d1) (i := x3) (x := (IntKind.u8.wrap (x2.tmod 256))) hB2 (by kernel_rfl) hc2 (by kernel_rfl) (by kernel_rfl) [encA .u8 (aset d1 x3 (IntKind.u8.wrap (x2.tmod 256)))] (by kernel_rfl) ?_
    intro g8 st8 hB8
    replace hB1 := hB1.mono st8 (WL.no1 (by omega))
    replace tot := tot.trans (st8.up1 (.inr (by omega)))
    clear hB2
    have hB2 := hB8
    clear hB8
    refine WP.done (by kernel_rfl) ?_
    refine NX.then_n ?_
    refine CP.region ?_
    refine WP.still 3 (by kernel_rfl) ?_
    refine WP.done (by kernel_rfl) ?_
    refine NX.block_n ?_
    refine NX.then_n ?_
    refine CP.region ?_
    refine WP.still 3 (by kernel_rfl) ?_
    refine WP.done (by kernel_rfl) ?_
    refine NX.post ?_
    exact ⟨(IntKind.u64.wrap (x2.tdiv 256)), (aset d1 x3 (IntKind.u8.wrap (x2.tmod 256))), (IntKind.i64.wrap (x3 + 1)), ⟨by kernel_rfl, by kernel_rfl⟩, tot, hB1, hB2, hs⟩
  replace hs := of_if_f hs h3
  refine CP.exit ?_
  refine NX.then_e ?_
  refine NX.then_e ?_
  refine NX.block_s ?_
  refine NX.then_n ?_
  refine CP.seqR ?_
  refine WP.loadB (v := AG [encA .u8 d1]) hB2 (by kernel_rfl) (by kernel_rfl) ?_
  refine WP.storeB (ty := 22) (off := 0) (v := AG [encA .u8 d1]) hB1 [encA .u8 d1] [8] (by kernel_rfl) (by kernel_rfl) (by simp [len_encA]) (by kernel_rfl) [encA .u8 d1] (by kernel_rfl) (.arr .nil) ?_
  intro g9 st9 hB9
  replace hB2 := hB2.mono st9 (WL.no1 (by omega))
  replace tot := tot.trans (st9.up1 (.inr (by omega)))
  clear hB1
  have hB1 := hB9
  clear hB9
  refine WP.done (by kernel_rfl) ?_
  refine NX.then_n ?_
  refine CP.ret ?_
  replace hs := Option.some.inj hs
  obtain rfl := hs
  exact NX.fin (v := AG [encA .u8 d1]) (Res.one rfl (RV.box (agg := true) (size := 8) (rs := [encA .u8 d1]) hB1 (by kernel_rfl) (by kernel_rfl) (by kernel_rfl) (by kernel_rfl))) tot htL rfl
def F.baizeref25_Paid (d1 : Arr Int 8) (x1 : Int) (x2 : Int) (x3 : Int) (l1 : List Int) (l2 : List Int) : Option ((Arr Int 8) × Int × Int) := (if (x3 != 0) = true then (some ((zA 8), 0, 11)) else ((F.baizeref01_Read l1 0 0 18446744073709551615).bind fun (l3, x4, x5, x6) => ((F.baizeref01_Read l3 x4 x5 18446744073709551615).bind fun (l4, x7, x8, x9) => (if (x8 != 0) = true then (some ((zA 8), 0, x8)) else (if decide (x9 > 1125899906842624) = true then (some ((zA 8), 0, 2)) else (if decide (x7 < (l4.length : Int)) = true then (some ((zA 8), 0, 5)) else ((F.baizeref02_FromNum x6).bind fun d2 => (some (d2, (IntKind.i64.wrap x9), 0)))))))))
theorem P.baizeref25_Paid (g0 : GW) (d1 : Arr Int 8) (x1 : Int) (x2 : Int) (x3 : Int) (l1 : List Int) (l2 : List Int) (a1 : Option Addr) (n1 : Nat) (c1 : Nat) (a2 : Option Addr) (n2 : Nat) (c2 : Nat) (hR1 : RdS (Kd.int .u8) g0 5 a1 n1 c1 l1) (hR2 : RdS (Kd.int .u8) g0 5 a2 n2 c2 l2) (o1 : Arr Int 8) (o2 : Int) (o3 : Int) (hs : F.baizeref25_Paid d1 x1 x2 x3 l1 l2 = some (o1, o2, o3)) :
    Calls Try.prog 12 #[AG [encA .u8 d1, [.int .i64 x1], [.int .i64 x2], [.int .i64 x3], [.slice a1 n1 c1], [.slice a2 n2 c2]]] g0.w (Ret NoM g0 fun v g => v = .tuple #[AG [encA .u8 o1], .int .i64 o2, .int .i64 o3]) := by
  refine calls_of (args := [AG [encA .u8 d1, [.int .i64 x1], [.int .i64 x2], [.int .i64 x3], [.slice a1 n1 c1], [.slice a2 n2 c2]]]) Try.func12 rfl (0) ?_
  intro t ht htL
  refine ⟨_, rfl, ?_⟩
  refine CP.refr 45 [(0, AG [encA .u8 d1, [.int .i64 x1], [.int .i64 x2], [.int .i64 x3], [.slice a1 n1 c1], [.slice a2 n2 c2]])] (by kernel_rfl) (by kernel_rfl) ?_
  intro ds
  have tot : Step (fun l => NoM l ∨ t ≤ l) g0 g0 := Step.refl _ _
  unfold F.baizeref25_Paid at hs
  refine CP.seqR ?_
  refine WP.alloc (T := 34) (t + 1) [encA .u8 d1, [.int .i64 x1], [.int .i64 x2], [.int .i64 x3], [.slice a1 n1 c1], [.slice a2 n2 c2]] [8, 1, 1, 1, 1, 1] (by kernel_rfl) (by simp [len_encA]) ?_
  intro g1 b1 st1 hB1
  replace hR1 := hR1.mono st1 (fun x => x)
  replace hR2 := hR2.mono st1 (fun x => x)
  replace tot := tot.trans st1.pure
  refine WP.alloc (T := 22) (t + 2) [encA .u8 (zA 8)] [8] (by kernel_rfl) (by simp [len_encA]) ?_
  intro g2 b2 st2 hB2
  replace hR1 := hR1.mono st2 (fun x => x)
  replace hR2 := hR2.mono st2 (fun x => x)
  replace hB1 := hB1.mono st2 (fun x => x)
  replace tot := tot.trans st2.pure
  refine WP.still 2 (by kernel_rfl) ?_
  refine WP.done (by kernel_rfl) ?_
  refine NX.then_n ?_
  refine CP.seq ?_
  refine CP.seqR ?_
  refine WP.still 1 (by kernel_rfl) ?_
  refine WP.loadB (v := .int .i64 x3) hB1 (by kernel_rfl) (by kernel_rfl) ?_
  refine WP.still 1 (by kernel_rfl) ?_
  refine WP.done (by kernel_rfl) ?_
  refine NX.then_n ?_
  refine CP.cond (b := (x3 != 0)) (by kernel_rfl) (fun h1 => ?_) (fun h1 => ?_)
  · replace hs := of_if_t hs h1
    refine CP.seqR ?_
    refine WP.still 1 (by kernel_rfl) ?_
    refine WP.storeB (ty := 22) (off := 0) (v := AG [encA .u8 (zA 8)]) hB2 [encA .u8 (zA 8)] [8] (by kernel_rfl) (by kernel_rfl) (by simp [len_encA]) (by kernel_rfl) [encA .u8 (zA 8)] (by kernel_rfl) (.arr .nil) ?_
    intro g3 st3 hB3
    replace hB1 := hB1.mono st3 (WL.no1 (by omega))
    replace hR1 := hR1.mono st3 (WL.no1 (by omega))
    replace hR2 := hR2.mono st3 (WL.no1 (by omega))
    replace tot := tot.trans (st3.up1 (.inr (by omega)))
    clear hB2
    have hB2 := hB3
    clear hB3
    refine WP.still 2 (by kernel_rfl) ?_
    refine WP.done (by kernel_rfl) ?_
    refine NX.then_n ?_
    refine CP.ret ?_
    refine NX.then_r ?_
    replace hs := Option.some.inj hs
    simp only [Prod.mk.injEq] at hs
    obtain ⟨rfl, rfl, rfl⟩ := hs
    exact NX.fin (v := .tuple #[AG [encA .u8 (zA 8)], .int .i64 0, .int .i64 11]) (Res.three rfl (RV.box (agg := true) (size := 8) (rs := [encA .u8 (zA 8)]) hB2 (by kernel_rfl) (by kernel_rfl) (by kernel_rfl) (by kernel_rfl)) (RV.tmp (by kernel_rfl)) (RV.tmp (by kernel_rfl))) tot htL rfl
  replace hs := of_if_f hs h1
  refine CP.skip ?_
  refine NX.then_n ?_
  refine CP.seqR ?_
  refine WP.still 1 (by kernel_rfl) ?_
  refine WP.loadB (v := .slice a1 n1 c1) hB1 (by kernel_rfl) (by kernel_rfl) ?_
  refine WP.still 1 (by kernel_rfl) ?_
  refine WP.alloc (T := 74) (t + 3) [[.slice none 0 0], [.int .i64 0], [.int .i64 0]] [1, 1, 1] (by kernel_rfl) rfl ?_
  intro g4 b3 st4 hB4
  replace hB1 := hB1.mono st4 (fun x => x)
  replace hR1 := hR1.mono st4 (fun x => x)
  replace hR2 := hR2.mono st4 (fun x => x)
  replace hB2 := hB2.mono st4 (fun x => x)
  replace tot := tot.trans st4.pure
  refine WP.storeB (ty := 74) (off := 0) (v := AG [[.slice a1 n1 c1], [.int .i64 0], [.int .i64 0]]) hB4 [[.slice a1 n1 c1], [.int .i64 0], [.int .i64 0]] [1, 1, 1] (by kernel_rfl) (by kernel_rfl) rfl (by kernel_rfl) [[.slice a1 n1 c1], [.int .i64 0], [.int .i64 0]] (by kernel_rfl) (.one rfl (.one rfl (.one rfl .nil))) ?_
  intro g5 st5 hB5
  replace hB1 := hB1.mono st5 (WL.no1 (by omega))
  replace hR1 := hR1.mono st5 (WL.no1 (by omega))
  replace hR2 := hR2.mono st5 (WL.no1 (by omega))
  replace hB2 := hB2.mono st5 (WL.no1 (by omega))
  replace tot := tot.trans (st5.up1 (.inr (by omega)))
  clear hB4
  have hB4 := hB5
  clear hB5
  refine WP.done (by kernel_rfl) ?_
  refine NX.then_n ?_
  refine CP.seqR ?_
  refine WP.loadB (v := AG [[.slice a1 n1 c1], [.int .i64 0], [.int .i64 0]]) hB4 (by kernel_rfl) (by kernel_rfl) ?_
  replace hs := Option.bind_eq_some_iff.1 hs
  obtain ⟨⟨l3, x4, x5, x6⟩, hk1, hs⟩ := hs
  dsimp only at hs
  have hcal1 := P.baizeref01_Read g5 l1 0 0 18446744073709551615 a1 n1 c1 hR1 l3 x4 x5 x6 hk1
  refine WP.callC hcal1 (by kernel_rfl) ?_
  rintro _ g6 st6 ⟨a3, n3, c3, rfl, hR3⟩
  replace hB2 := hB2.mono st6 (fun x => x)
  replace hB4 := hB4.mono st6 (fun x => x)
  replace hR1 := hR1.mono st6 (fun x => x)
  replace tot := tot.trans st6.pure
  refine WP.still 3 (by kernel_rfl) ?_
  refine WP.storeB (ty := 74) (off := 0) (v := AG [[.slice a3 n3 c3], [.int .i64 x4], [.int .i64 x5]]) hB4 [[.slice a3 n3 c3], [.int .i64 x4], [.int .i64 x5]] [1, 1, 1] (by kernel_rfl) (by kernel_rfl) rfl (by kernel_rfl) [[.slice a3 n3 c3], [.int .i64 x4], [.int .i64 x5]] (by kernel_rfl) (.one rfl (.one rfl (.one rfl .nil))) ?_
  intro g7 st7 hB6
  replace hB2 := hB2.mono st7 (WL.no1 (by omega))
  replace hR3 := hR3.mono st7 (WL.no1 (by omega))
  replace hR1 := hR1.mono st7 (WL.no1 (by omega))
  replace tot := tot.trans (st7.up1 (.inr (by omega)))
  clear hB4
  have hB4 := hB6
  clear hB6
  refine WP.still 1 (by kernel_rfl) ?_
  refine WP.done (by kernel_rfl) ?_
  refine NX.then_n ?_
  refine CP.refr 45 [(2, .pointer (some ⟨b2, 0, none⟩)), (5, .pointer (some ⟨b3, 0, none⟩)), (6, .int .u64 x6)] (by kernel_rfl) (by kernel_rfl) ?_
  clear ds
  intro ds
  refine CP.seqR ?_
  refine WP.loadB (v := AG [[.slice a3 n3 c3], [.int .i64 x4], [.int .i64 x5]]) hB4 (by kernel_rfl) (by kernel_rfl) ?_
  replace hs := Option.bind_eq_some_iff.1 hs
  obtain ⟨⟨l4, x7, x8, x9⟩, hk2, hs⟩ := hs
  dsimp only at hs
  have hcal2 := P.baizeref01_Read g7 l3 x4 x5 18446744073709551615 a3 n3 c3 hR3 l4 x7 x8 x9 hk2
  refine WP.callC hcal2 (by kernel_rfl) ?_
  rintro _ g8 st8 ⟨a4, n4, c4, rfl, hR4⟩
  replace hB2 := hB2.mono st8 (fun x => x)
  replace hB4 := hB4.mono st8 (fun x => x)
  replace hR3 := hR3.mono st8 (fun x => x)
  replace tot := tot.trans st8.pure
  refine WP.still 3 (by kernel_rfl) ?_
  refine WP.storeB (ty := 74) (off := 0) (v := AG [[.slice a4 n4 c4], [.int .i64 x7], [.int .i64 x8]]) hB4 [[.slice a4 n4 c4], [.int .i64 x7], [.int .i64 x8]] [1, 1, 1] (by kernel_rfl) (by kernel_rfl) rfl (by kernel_rfl) [[.slice a4 n4 c4], [.int .i64 x7], [.int .i64 x8]] (by kernel_rfl) (.one rfl (.one rfl (.one rfl .nil))) ?_
  intro g9 st9 hB7
  replace hB2 := hB2.mono st9 (WL.no1 (by omega))
  replace hR4 := hR4.mono st9 (WL.no1 (by omega))
  replace hR3 := hR3.mono st9 (WL.no1 (by omega))
  replace tot := tot.trans (st9.up1 (.inr (by omega)))
  clear hB4
  have hB4 := hB7
  clear hB7
  refine WP.still 1 (by kernel_rfl) ?_
  refine WP.done (by kernel_rfl) ?_
  refine NX.then_n ?_
  refine CP.seq ?_
  refine CP.seqR ?_
  refine WP.still 1 (by kernel_rfl) ?_
  refine WP.loadB (v := .int .i64 x8) hB4 (by kernel_rfl) (by kernel_rfl) ?_
  refine WP.still 1 (by kernel_rfl) ?_
  refine WP.done (by kernel_rfl) ?_
  refine NX.then_n ?_
  refine CP.cond (b := (x8 != 0)) (by kernel_rfl) (fun h2 => ?_) (fun h2 => ?_)
  · replace hs := of_if_t hs h2
    refine CP.seq ?_
    refine CP.drawL (by kernel_rfl) [2, 3] [[], [], [1], [0], [0, 3], [0, 1, 2, 3, 4]] [⟨none, [0], [], fun l g => Box g (t + 2) b2 22 [encA .u8 (zA 8)] [8]⟩, ⟨none, [], [], fun l g => Box g (t + 3) b3 74 [[.slice a4 n4 c4], [.int .i64 x7], [.int .i64 x8]] [1, 1, 1]⟩, ⟨none, [], [], fun l g => RdS (Kd.int .u8) g 5 a4 n4 c4 l4⟩, ⟨some 0, [], [0], fun l g => l.getD 0 undef = .int .i64 x8⟩, ⟨some 1, [0], [], fun l g => Box g (t + 2) b2 22 [encA .u8 (zA 8)] [8]⟩] [[], [0]] [(t + 2)] [0, 1, 4] [5] (by kernel_rfl) (by simp <;> omega) (by simp) ⟨fun _ _ _ _ st h0 hl hj hB2 => (hB2.mono st (hj 0 (by simp) _ rfl)), fun _ _ _ _ st h0 hl hj hB4 => (hB4.mono st (fun h => absurd (hl _ h) (by simp <;> omega))), fun _ _ _ _ st h0 hl hj hR4 => (RdS.mono (e := 5) hR4 st h0), fun _ _ _ _ st h0 hl hj e => e, fun _ _ _ _ st h0 hl hj hB2 => (hB2.mono st (hj 0 (by simp) _ rfl)), trivial⟩ ⟨hB2, hB4, hR4, trivial, trivial, trivial⟩ (by kernel_rfl) (fun vs => by kernel_rfl) ?_ ?_ ?_
    · intro j hj
      have hq : j = 0 := by have h : j < 1 := hj; omega
      rcases hq with rfl
      · intro vs gq stq hl hf
        replace hl : vs.length = 2 := hl
        obtain ⟨v0, vs0, rfl, hl0⟩ := len_succ hl
        obtain ⟨v1, vs1, rfl, hl1⟩ := len_succ hl0
        obtain rfl := len_zero hl1
        have e := (show v0 = .int .i64 x8 from hf _ (List.mem_of_getElem? (i := 3) rfl) (by kernel_rfl))
        subst e
        show Option.isSome _ = true
        kernel_rfl
    · intro j hj
      have hq : j = 0 ∨ j = 1 := by have h : j < 2 := hj; omega
      rcases hq with rfl | rfl
      · intro vs gq stq hl hf
        replace hl : vs.length = 2 := hl
        obtain ⟨v0, vs0, rfl, hl0⟩ := len_succ hl
        obtain ⟨v1, vs1, rfl, hl1⟩ := len_succ hl0
        obtain rfl := len_zero hl1
        have hB4 := (show Box gq (t + 3) b3 74 [[.slice a4 n4 c4], [.int .i64 x7], [.int .i64 x8]] [1, 1, 1] from hf _ (List.mem_of_getElem? (i := 1) rfl) (by kernel_rfl))
        have hR4 := (show RdS (Kd.int .u8) gq 5 a4 n4 c4 l4 from hf _ (List.mem_of_getElem? (i := 2) rfl) (by kernel_rfl))
        refine WP.loadB (v := .int .i64 x8) hB4 (by kernel_rfl) (by kernel_rfl) ?_
        refine WP.done (by kernel_rfl) (Shown.ok (v := .int .i64 x8) (by kernel_rfl) (Step.refl _ _) ?_)
        exact ⟨trivial, trivial, trivial, rfl, trivial, trivial⟩
      · intro vs gq stq hl hf
        replace hl : vs.length = 2 := hl
        obtain ⟨v0, vs0, rfl, hl0⟩ := len_succ hl
        obtain ⟨v1, vs1, rfl, hl1⟩ := len_succ hl0
        obtain rfl := len_zero hl1
        have hB2 := (show Box gq (t + 2) b2 22 [encA .u8 (zA 8)] [8] from hf _ (List.mem_of_getElem? (i := 0) rfl) (by kernel_rfl))
        refine WP.storeB (ty := 22) (off := 0) (v := AG [encA .u8 (zA 8)]) hB2 [encA .u8 (zA 8)] [8] (by kernel_rfl) (by kernel_rfl) (by simp [len_encA]) (by kernel_rfl) [encA .u8 (zA 8)] (by kernel_rfl) (.arr .nil) ?_
        intro g10 st10 hB8
        refine WP.done (by kernel_rfl) (Shown.ok (v := undef) (by kernel_rfl) st10 ?_)
        exact ⟨trivial, trivial, trivial, trivial, hB8, trivial⟩
    intro vs g11 st11 hl hf
    replace hl : vs.length = 2 := hl
    obtain ⟨v0, vs0, rfl, hl0⟩ := len_succ hl
    obtain ⟨v1, vs1, rfl, hl1⟩ := len_succ hl0
    obtain rfl := len_zero hl1
    have e := (show v0 = .int .i64 x8 from hf _ (List.mem_of_getElem? (i := 3) rfl) (by kernel_rfl))
    subst e
    have hB2 := (show Box g11 (t + 2) b2 22 [encA .u8 (zA 8)] [8] from hf _ (List.mem_of_getElem? (i := 4) rfl) (by kernel_rfl))
    replace tot := tot.trans (st11.up1 (.inr (by omega)))
    refine NX.then_n ?_
    refine CP.refr 45 [(2, .pointer (some ⟨b2, 0, none⟩)), (3, .int .i64 0), (4, .int .i64 x8)] (by kernel_rfl) (by kernel_rfl) ?_
    clear ds
    intro ds
    refine CP.ret ?_
    refine NX.then_r ?_
    replace hs := Option.some.inj hs
    simp only [Prod.mk.injEq] at hs
    obtain ⟨rfl, rfl, rfl⟩ := hs
    exact NX.fin (v := .tuple #[AG [encA .u8 (zA 8)], .int .i64 0, .int .i64 x8]) (Res.three rfl (RV.box (agg := true) (size := 8) (rs := [encA .u8 (zA 8)]) hB2 (by kernel_rfl) (by kernel_rfl) (by kernel_rfl) (by kernel_rfl)) (RV.tmp (by kernel_rfl)) (RV.tmp (by kernel_rfl))) tot htL rfl
  replace hs := of_if_f hs h2
  refine CP.skip ?_
  refine NX.then_n ?_
  refine CP.seq ?_
  refine CP.seqR ?_
  refine WP.still 2 (by kernel_rfl) ?_
  refine WP.done (by kernel_rfl) ?_
  refine NX.then_n ?_
  refine CP.cond (b := decide (x9 > 1125899906842624)) (by kernel_rfl) (fun h3 => ?_) (fun h3 => ?_)
  · replace hs := of_if_t hs h3
    refine CP.seqR ?_
    refine WP.still 1 (by kernel_rfl) ?_
    refine WP.storeB (ty := 22) (off := 0) (v := AG [encA .u8 (zA 8)]) hB2 [encA .u8 (zA 8)] [8] (by kernel_rfl) (by kernel_rfl) (by simp [len_encA]) (by kernel_rfl) [encA .u8 (zA 8)] (by kernel_rfl) (.arr .nil) ?_
    intro g12 st12 hB9
    replace hB4 := hB4.mono st12 (WL.no1 (by omega))
    replace hR4 := hR4.mono st12 (WL.no1 (by omega))
    replace tot := tot.trans (st12.up1 (.inr (by omega)))
    clear hB2
    have hB2 := hB9
    clear hB9
    refine WP.still 2 (by kernel_rfl) ?_
    refine WP.done (by kernel_rfl) ?_
    refine NX.then_n ?_
    refine CP.refr 45 [(2, .pointer (some ⟨b2, 0, none⟩)), (3, .int .i64 0), (4, .int .i64 2)] (by kernel_rfl) (by kernel_rfl) ?_
    clear ds
    intro ds
    refine CP.ret ?_
    refine NX.then_r ?_
    replace hs := Option.some.inj hs
    simp only [Prod.mk.injEq] at hs
    obtain ⟨rfl, rfl, rfl⟩ := hs
    exact NX.fin (v := .tuple #[AG [encA .u8 (zA 8)], .int .i64 0, .int .i64 2]) (Res.three rfl (RV.box (agg := true) (size := 8) (rs := [encA .u8 (zA 8)]) hB2 (by kernel_rfl) (by kernel_rfl) (by kernel_rfl) (by kernel_rfl)) (RV.tmp (by kernel_rfl)) (RV.tmp (by kernel_rfl))) tot htL rfl
  replace hs := of_if_f hs h3
  refine CP.skip ?_
  refine NX.then_n ?_
  refine CP.seq ?_
  refine CP.seqR ?_
  refine WP.still 1 (by kernel_rfl) ?_
  refine WP.loadB (v := .int .i64 x7) hB4 (by kernel_rfl) (by kernel_rfl) ?_
  refine WP.still 1 (by kernel_rfl) ?_
  refine WP.loadB (v := .slice a4 n4 c4) hB4 (by kernel_rfl) (by kernel_rfl) ?_
  refine WP.len (a := a4) (cp := c4) hR4.len (by kernel_rfl) ?_
  refine WP.still 1 (by kernel_rfl) ?_
  refine WP.done (by kernel_rfl) ?_
  refine NX.then_n ?_
  refine CP.refr 45 [(2, .pointer (some ⟨b2, 0, none⟩)), (6, .int .u64 x6), (7, .int .u64 x9), (39, .bool (decide (x7 < (l4.length : Int))))] (by kernel_rfl) (by kernel_rfl) ?_
  clear ds
  intro ds
  refine CP.cond (b := decide (x7 < (l4.length : Int))) (by kernel_rfl) (fun h4 => ?_) (fun h4 => ?_)
  · replace hs := of_if_t hs h4
    refine CP.seqR ?_
    refine WP.still 1 (by kernel_rfl) ?_
    refine WP.storeB (ty := 22) (off := 0) (v := AG [encA .u8 (zA 8)]) hB2 [encA .u8 (zA 8)] [8] (by kernel_rfl) (by kernel_rfl) (by simp [len_encA]) (by kernel_rfl) [encA .u8 (zA 8)] (by kernel_rfl) (.arr .nil) ?_
    intro g13 st13 hB10
    replace tot := tot.trans (st13.up1 (.inr (by omega)))
    clear hB2
    have hB2 := hB10
    clear hB10
    refine WP.still 2 (by kernel_rfl) ?_
    refine WP.done (by kernel_rfl) ?_
    refine NX.then_n ?_
    refine CP.ret ?_
    refine NX.then_r ?_
    replace hs := Option.some.inj hs
    simp only [Prod.mk.injEq] at hs
    obtain ⟨rfl, rfl, rfl⟩ := hs
    exact NX.fin (v := .tuple #[AG [encA .u8 (zA 8)], .int .i64 0, .int .i64 5]) (Res.three rfl (RV.box (agg := true) (size := 8) (rs := [encA .u8 (zA 8)]) hB2 (by kernel_rfl) (by kernel_rfl) (by kernel_rfl) (by kernel_rfl)) (RV.tmp (by kernel_rfl)) (RV.tmp (by kernel_rfl))) tot htL rfl
  replace hs := of_if_f hs h4
  refine CP.skip ?_
  refine NX.then_n ?_
  refine CP.seqR ?_
  refine WP.still 1 (by kernel_rfl) ?_
  replace hs := Option.bind_eq_some_iff.1 hs
  obtain ⟨d2, hk3, hs⟩ := hs
  have hcal3 := P.baizeref02_FromNum g9 x6 d2 hk3
  refine WP.callC hcal3 (by kernel_rfl) ?_
  rintro _ g14 st14 rfl
  replace hB2 := hB2.mono st14 (fun x => x)
  replace tot := tot.trans st14.pure
  refine WP.still 2 (by kernel_rfl) ?_
  refine WP.storeB (ty := 22) (off := 0) (v := AG [encA .u8 d2]) hB2 [encA .u8 d2] [8] (by kernel_rfl) (by kernel_rfl) (by simp [len_encA]) (by kernel_rfl) [encA .u8 d2] (by kernel_rfl) (.arr .nil) ?_
  intro g15 st15 hB11
  replace tot := tot.trans (st15.up1 (.inr (by omega)))
  clear hB2
  have hB2 := hB11
  clear hB11
  refine WP.still 2 (by kernel_rfl) ?_
  refine WP.done (by kernel_rfl) ?_
  refine NX.then_n ?_
  refine CP.ret ?_
  replace hs := Option.some.inj hs
  simp only [Prod.mk.injEq] at hs
  obtain ⟨rfl, rfl, rfl⟩ := hs
  exact NX.fin (v := .tuple #[AG [encA .u8 d2], .int .i64 (IntKind.i64.wrap x9), .int .i64 0]) (Res.three rfl (RV.box (agg := true) (size := 8) (rs := [encA .u8 d2]) hB2 (by kernel_rfl) (by kernel_rfl) (by kernel_rfl) (by kernel_rfl)) (RV.tmp (by kernel_rfl)) (RV.tmp (by kernel_rfl))) tot htL rfl
def F.hash_number.l1 (l1 : List Int) : Nat → Int → Int → Option (Int)
  | 0, _, _ => none
  | k + 1, x1, x2 => (if decide (x2 < (l1.length : Int)) = true then (if (0 : Int) ≤ x2 ∧ x2 < (l1.length : Int) then (if (0 : Int) ≤ (IntKind.i64.wrap (8 * x2)) then (F.hash_number.l1 l1 k (bitOr .u64 x1 (shV true .u64 (IntKind.u64.wrap (getI l1 x2)) (IntKind.i64.wrap (8 * x2)))) (IntKind.i64.wrap (x2 + 1))) else none) else none) else (some x1))
def F.hash_number (l1 : List Int) : Option (Int) := (F.hash_number.l1 l1 fuel 0 0)
theorem P.hash_number (g0 : GW) (l1 : List Int) (a1 : Option Addr) (n1 : Nat) (c1 : Nat) (hR1 : RdS (Kd.int .u8) g0 5 a1 n1 c1 l1) (o1 : Int) (hs : F.hash_number l1 = some o1) :
    Calls Try.prog 76 #[.slice a1 n1 c1] g0.w (Ret NoM g0 fun v g => v = .int .u64 o1) := by
  refine calls_of (args := [.slice a1 n1 c1]) Try.func76 rfl (0) ?_
  intro t ht htL
  refine ⟨_, rfl, ?_⟩
  refine CP.refr 22 [(0, .slice a1 n1 c1)] (by kernel_rfl) (by kernel_rfl) ?_
  intro ds
  have tot : Step (fun l => NoM l ∨ t ≤ l) g0 g0 := Step.refl _ _
  unfold F.hash_number at hs
  refine CP.seqR ?_
  refine WP.still 1 (by kernel_rfl) ?_
  refine WP.done (by kernel_rfl) ?_
  refine NX.then_n ?_
  refine CP.seqR ?_
  refine WP.still 1 (by kernel_rfl) ?_
  refine WP.done (by kernel_rfl) ?_
  refine NX.then_n ?_
  refine CP.seq ?_
  refine CP.seqR ?_
  refine WP.still 1 (by kernel_rfl) ?_
  refine WP.len (a := a1) (cp := c1) hR1.len (by kernel_rfl) ?_
  refine WP.still 1 (by kernel_rfl) ?_
  refine WP.done (by kernel_rfl) ?_
  refine NX.then_n ?_
  refine CP.block ?_
  generalize fuel = k1 at hs
  refine CP.loop (fun k1 tm g => ∃ (x1 : Int) (x2 : Int), Fr 22 [(3, .int .u64 x1), (6, .slice a1 n1 c1), (7, .int .i64 (l1.length : Int)), (8, .int .i64 x2)] tm ∧ Step (fun l => NoM l ∨ t ≤ l) g0 g ∧ RdS (Kd.int .u8) g 5 a1 n1 c1 l1 ∧ F.hash_number.l1 l1 k1 x1 x2 = some o1) k1 ?_ ?_ ?_
  · exact ⟨0, 0, ⟨by kernel_rfl, by kernel_rfl⟩, tot, hR1, hs⟩
  · rintro tm g ⟨x1, x2, hF, tot, hR1, hs⟩
    exact absurd hs (by simp [F.hash_number.l1])
  clear tot hs hR1
  rintro k1 tm g ⟨x1, x2, hF, tot, hR1, hs⟩
  clear ds
  obtain ⟨ds, rfl⟩ := hF.open
  clear hF
  unfold F.hash_number.l1 at hs
  refine CP.seqR ?_
  refine WP.still 1 (by kernel_rfl) ?_
  refine WP.done (by kernel_rfl) ?_
  refine NX.then_n ?_
  refine CP.seq ?_
  refine CP.cond (b := decide (x2 < (l1.length : Int))) (by kernel_rfl) (fun h3 => ?_) (fun h3 => ?_)
  · replace hs := of_if_t hs h3
    refine CP.skip ?_
    refine NX.then_n ?_
    refine CP.seq ?_
    refine CP.block ?_
    refine CP.seqR ?_
    refine WP.still 1 (by kernel_rfl) ?_
    by_cases hc5 : (0 : Int) ≤ x2 ∧ x2 < (l1.length : Int)
    case neg => rw [if_neg hc5] at hs; cases hs
    replace hs := of_if_p hs hc5
    obtain ⟨b3, u3, ha3⟩ := hR1.at hc5
    refine WP.indexA (t := 24) (e := 5) (sz := 1) (cap := c1) (k := .i64) (i := x2) hR1.len ha3 (by kernel_rfl) (by kernel_rfl) hc5 ?_
    obtain ⟨cs3, hcR3, hcV3⟩ := hR1.src.view (getI_some hc5) ha3
    replace hcR3 := Kd.o_int hcR3
    refine WP.loadV [[.int .u8 (getI l1 x2)]] [1] hcV3 hcR3 rfl (f := 0) (ty := 5) (agg := false) (size := 1) (rs := [[.int .u8 (getI l1 x2)]]) (v := .int .u8 (getI l1 x2)) (by kernel_rfl) (by kernel_rfl) (by kernel_rfl) (by kernel_rfl) ?_
    refine WP.still 2 (by kernel_rfl) ?_
    refine WP.done (by kernel_rfl) ?_
    refine NX.then_n ?_
    refine CP.region ?_
    refine WP.still 5 (by kernel_rfl) ?_
    by_cases hc6 : (0 : Int) ≤ (IntKind.i64.wrap (8 * x2))
    case neg => rw [if_neg hc6] at hs; cases hs
    replace hs := of_if_p hs hc6
    refine WP.shift (left := true) (k := .u64) (yk := .i64) (x := (IntKind.u64.wrap (getI l1 x2))) (y := (IntKind.i64.wrap (8 * x2))) (by kernel_rfl) hc6 ?_
    refine WP.still 2 (by kernel_rfl) ?_
    refine WP.done (by kernel_rfl) ?_
    refine NX.block_n ?_
    refine NX.then_n ?_
    refine CP.refr 22 [(3, .int .u64 (bitOr .u64 x1 (shV true .u64 (IntKind.u64.wrap (getI l1 x2)) (IntKind.i64.wrap (8 * x2))))), (6, .slice a1 n1 c1), (7, .int .i64 (l1.length : Int)), (8, .int .i64 x2)] (by kernel_rfl) (by kernel_rfl) ?_
    clear ds
    intro ds
    refine CP.region ?_
    refine WP.still 2 (by kernel_rfl) ?_
    refine WP.done (by kernel_rfl) ?_
    refine NX.post ?_
    exact ⟨(bitOr .u64 x1 (shV true .u64 (IntKind.u64.wrap (getI l1 x2)) (IntKind.i64.wrap (8 * x2)))), (IntKind.i64.wrap (x2 + 1)), ⟨by kernel_rfl, by kernel_rfl⟩, tot, hR1, hs⟩
  replace hs := of_if_f hs h3
  refine CP.exit ?_
  refine NX.then_e ?_
  refine NX.then_e ?_
  refine NX.block_s ?_
  refine NX.then_n ?_
  refine CP.seqR ?_
  refine WP.still 2 (by kernel_rfl) ?_
  refine WP.done (by kernel_rfl) ?_
  refine NX.then_n ?_
  refine CP.ret ?_
  replace hs := Option.some.inj hs
  obtain rfl := hs
  exact NX.fin (v := .int .u64 x1) (Res.still (by kernel_rfl)) tot htL rfl
def F.hash_Num (d1 : Arr Int 8) : Option (Int) := ((F.hash_number d1.1).bind fun x1 => (some x1))
theorem P.hash_Num (g0 : GW) (d1 : Arr Int 8) (o1 : Int) (hs : F.hash_Num d1 = some o1) :
    Calls Try.prog 62 #[AG [encA .u8 d1]] g0.w (Ret NoM g0 fun v g => v = .int .u64 o1) := by
  refine calls_of (args := [AG [encA .u8 d1]]) Try.func62 rfl (0) ?_
  intro t ht htL
  refine ⟨_, rfl, ?_⟩
  refine CP.refr 5 [(0, AG [encA .u8 d1])] (by kernel_rfl) (by kernel_rfl) ?_
  intro ds
  have tot : Step (fun l => NoM l ∨ t ≤ l) g0 g0 := Step.refl _ _
  unfold F.hash_Num at hs
  refine CP.seqR ?_
  refine WP.alloc (T := 23) (t + 1) [encA .u8 d1] [8] (by kernel_rfl) (by simp [len_encA]) ?_
  intro g1 b1 st1 hB1
  replace tot := tot.trans st1.pure
  refine WP.still 1 (by kernel_rfl) ?_
  refine WP.done (by kernel_rfl) ?_
  refine NX.then_n ?_
  refine CP.seqR ?_
  obtain ⟨g2, hw1, st2, hnew⟩ := hB1.relab 0
  refine WP.regw hw1 ?_
  replace tot := tot.trans (st2.up1 (.inr (by omega)))
  clear hB1
  have hB1 := hnew
  clear hnew
  refine WP.sliceZ (o := 0) (m := 8) (k := .u8) (d := d1) (e := 5) (lo := none) (hi := none) hB1 (by kernel_rfl) (0 : Int) (8 : Int) (by kernel_rfl) (.inl ⟨rfl, rfl⟩) (.inl ⟨rfl, rfl⟩) (by decide) ?_
  intro a1 hR1
  rw [sliceI_all (m := 8) (d := d1) (j := (8 : Int)) rfl] at hR1
  replace hs := Option.bind_eq_some_iff.1 hs
  obtain ⟨x1, hk1, hs⟩ := hs
  have hcal1 := P.hash_number g2 d1.1 a1 ((8 : Int).toNat - (0 : Int).toNat) (8 - (0 : Int).toNat) hR1 x1 hk1
  refine WP.callC hcal1 (by kernel_rfl) ?_
  rintro _ g3 st3 rfl
  replace hB1 := hB1.mono st3 (fun x => x)
  replace hR1 := hR1.mono st3 (fun x => x)
  replace tot := tot.trans st3.pure
  refine WP.still 1 (by kernel_rfl) ?_
  refine WP.done (by kernel_rfl) ?_
  refine NX.then_n ?_
  refine CP.ret ?_
  replace hs := Option.some.inj hs
  obtain rfl := hs
  exact NX.fin (v := .int .u64 x1) (Res.still (by kernel_rfl)) tot htL rfl
def F.octet_PutNum.l1 : Nat → Int → (List Int) → Option ((List Int))
  | 0, _, _ => none
  | k + 1, x2, l3 => (if decide (x2 ≥ 128) = true then (if l3.length + ([(bitOr .u8 (IntKind.u8.wrap x2) 128)]).length ≤ 140737488355328 then (F.octet_PutNum.l1 k (shV false .u64 x2 7) (l3 ++ [(bitOr .u8 (IntKind.u8.wrap x2) 128)])) else none) else (if l3.length + ([(IntKind.u8.wrap x2)]).length ≤ 140737488355328 then (some (l3 ++ [(IntKind.u8.wrap x2)])) else none))
def F.octet_PutNum (l1 : List Int) (x1 : Int) : Option ((List Int)) := ((F.slices_Clone_byte_byte l1).bind fun l2 => (F.octet_PutNum.l1 fuel x1 l2))
theorem P.octet_PutNum (g0 : GW) (r0 : Nat) (l1 : List Int) (x1 : Int) (a1 : Option Addr) (n1 : Nat) (c1 : Nat) (hR1 : RdS (Kd.int .u8) g0 5 a1 n1 c1 l1) (o1 : List Int) (hs : F.octet_PutNum l1 x1 = some o1) :
    Calls Try.prog 39 #[.slice a1 n1 c1, .int .u64 x1] g0.w (Ret NoM g0 fun v g => ∃ (a_1 : Option Addr) (n_1 : Nat) (c_1 : Nat), v = .slice a_1 n_1 c_1 ∧ OwnS (Kd.int .u8) g r0 5 a_1 n_1 c_1 o1) := by
  refine calls_of (args := [.slice a1 n1 c1, .int .u64 x1]) Try.func39 rfl (r0 + 0) ?_
  intro t ht htL
  refine ⟨_, rfl, ?_⟩
  refine CP.refr 23 [(0, .slice a1 n1 c1), (1, .int .u64 x1)] (by kernel_rfl) (by kernel_rfl) ?_
  intro ds
  have tot : Step (fun l => NoM l ∨ t ≤ l) g0 g0 := Step.refl _ _
  unfold F.octet_PutNum at hs
  refine CP.seqR ?_
  refine WP.still 1 (by kernel_rfl) ?_
  refine WP.done (by kernel_rfl) ?_
  refine NX.then_n ?_
  refine CP.seqR ?_
  refine WP.still 1 (by kernel_rfl) ?_
  replace hs := Option.bind_eq_some_iff.1 hs
  obtain ⟨l2, hk1, hs⟩ := hs
  have hcal1 := P.slices_Clone_byte_byte g0 (t + 1) l1 a1 n1 c1 hR1 l2 hk1
  refine WP.callC hcal1 (by kernel_rfl) ?_
  rintro _ g1 st1 ⟨a2, n2, c2, rfl, hR2⟩
  replace hR1 := hR1.mono st1 (fun x => x)
  replace tot := tot.trans st1.pure
  refine WP.still 1 (by kernel_rfl) ?_
  refine WP.done (by kernel_rfl) ?_
  refine NX.then_n ?_
  refine CP.seq ?_
  refine CP.block ?_
  generalize fuel = k1 at hs
  refine CP.loop (fun k1 tm g => ∃ (x2 : Int) (l3 : List Int) (a7 : Option Addr) (n3 : Nat) (c5 : Nat), Fr 23 [(1, .int .u64 x2), (5, .slice a7 n3 c5)] tm ∧ Step (fun l => NoM l ∨ t ≤ l) g0 g ∧ OwnS (Kd.int .u8) g (t + 1) 5 a7 n3 c5 l3 ∧ F.octet_PutNum.l1 k1 x2 l3 = some o1) k1 ?_ ?_ ?_
  · exact ⟨x1, l2, a2, n2, c2, ⟨by kernel_rfl, by kernel_rfl⟩, tot, hR2, hs⟩
  · rintro tm g ⟨x2, l3, a7, n3, c5, hF, tot, hR7, hs⟩
    exact absurd hs (by simp [F.octet_PutNum.l1])
  clear tot hs hR2
  rintro k1 tm g ⟨x2, l3, a7, n3, c5, hF, tot, hR7, hs⟩
  clear ds
  obtain ⟨ds, rfl⟩ := hF.open
  clear hF
  unfold F.octet_PutNum.l1 at hs
  refine CP.seq ?_
  refine CP.seqR ?_
  refine WP.still 2 (by kernel_rfl) ?_
  refine WP.done (by kernel_rfl) ?_
  refine NX.then_n ?_
  refine CP.cond (b := decide (x2 ≥ 128)) (by kernel_rfl) (fun h3 => ?_) (fun h3 => ?_)
  · replace hs := of_if_t hs h3
    refine CP.skip ?_
    refine NX.then_n ?_
    refine CP.block ?_
    refine CP.seqR ?_
    refine WP.still 4 (by kernel_rfl) ?_
    refine WP.mkSl (kd := (Kd.int .u8)) (t := 24) (e := 5) (bytes := 1) (t + 6) [.int .u8 (bitOr .u8 (IntKind.u8.wrap x2) 128)] [(bitOr .u8 (IntKind.u8.wrap x2) 128)] (by kernel_rfl) (by kernel_rfl) (Nat.le_of_ble_eq_true rfl) (Nat.le_of_ble_eq_true rfl) (all_cons rfl all_nil) (⟨_, _, rfl, (by exact rfl), rfl⟩) rfl ?_
    intro g10 a13 st10 hR13
    replace hR7 := hR7.mono st10 (fun x => x) (fun x => x)
    replace tot := tot.trans st10.pure
    by_cases hc5 : l3.length + ([(bitOr .u8 (IntKind.u8.wrap x2) 128)]).length ≤ 140737488355328
    case neg => rw [if_neg hc5] at hs; cases hs
    replace hs := of_if_p hs hc5
    refine WP.append (kd := (Kd.int .u8)) (t := 24) (e := 5) (bytes := 1) (a2 := a13) (c2 := 1) hR7 hR13.src hR13.len (by kernel_rfl) (by kernel_rfl) (by omega) (by simp only [maxLen]; omega) (by omega) ?_
    intro g11 a14 c9 st11 hR14
    replace hR13 := hR13.mono st11 (WL.no1 (by omega)) (WL.no1 (by omega))
    replace tot := tot.trans (st11.up1 (.inr (by omega)))
    refine WP.still 1 (by kernel_rfl) ?_
    refine WP.done (by kernel_rfl) ?_
    refine NX.then_n ?_
    refine CP.region ?_
    refine WP.still 3 (by kernel_rfl) ?_
    refine WP.done (by kernel_rfl) ?_
    refine NX.block_n ?_
    refine NX.post ?_
    exact ⟨(shV false .u64 x2 7), (l3 ++ [(bitOr .u8 (IntKind.u8.wrap x2) 128)]), a14, (n3 + 1), c9, ⟨by kernel_rfl, by kernel_rfl⟩, tot, hR14, hs⟩
  replace hs := of_if_f hs h3
  refine CP.exit ?_
  refine NX.then_e ?_
  refine NX.then_e ?_
  refine NX.block_s ?_
  refine NX.then_n ?_
  refine CP.seqR ?_
  refine WP.still 3 (by kernel_rfl) ?_
  refine WP.mkSl (kd := (Kd.int .u8)) (t := 24) (e := 5) (bytes := 1) (t + 7) [.int .u8 (IntKind.u8.wrap x2)] [(IntKind.u8.wrap x2)] (by kernel_rfl) (by kernel_rfl) (Nat.le_of_ble_eq_true rfl) (Nat.le_of_ble_eq_true rfl) (all_cons rfl all_nil) (⟨_, _, rfl, (by exact rfl), rfl⟩) rfl ?_
  intro g12 a15 st12 hR15
  replace hR7 := hR7.mono st12 (fun x => x) (fun x => x)
  replace tot := tot.trans st12.pure
  by_cases hc6 : l3.length + ([(IntKind.u8.wrap x2)]).length ≤ 140737488355328
  case neg => rw [if_neg hc6] at hs; cases hs
  replace hs := of_if_p hs hc6
  refine WP.append (kd := (Kd.int .u8)) (t := 24) (e := 5) (bytes := 1) (a2 := a15) (c2 := 1) hR7 hR15.src hR15.len (by kernel_rfl) (by kernel_rfl) (by omega) (by simp only [maxLen]; omega) (by omega) ?_
  intro g13 a16 c10 st13 hR16
  replace hR15 := hR15.mono st13 (WL.no1 (by omega)) (WL.no1 (by omega))
  replace tot := tot.trans (st13.up1 (.inr (by omega)))
  refine WP.still 1 (by kernel_rfl) ?_
  refine WP.done (by kernel_rfl) ?_
  refine NX.then_n ?_
  refine CP.ret ?_
  obtain ⟨g14, hw1, st14, hnew⟩ := hR16.relab (by omega) r0
  refine NX.regw hw1 ?_
  replace tot := tot.trans (st14.up1 (.inr (by omega)))
  clear hR16
  have hR16 := hnew
  clear hnew
  replace hs := Option.some.inj hs
  obtain rfl := hs
  exact NX.fin (v := .slice a16 (n3 + 1) c10) (Res.still (by kernel_rfl)) tot htL ⟨a16, (n3 + 1), c10, rfl, hR16⟩
def F.tx_key (l1 : List Int) (d1 : Arr Int 8) : Option ((List Int)) := ((F.hash_Num d1).bind fun x1 => ((F.octet_PutNum l1 x1).bind fun l2 => (some l2)))
theorem P.tx_key (g0 : GW) (r0 : Nat) (l1 : List Int) (d1 : Arr Int 8) (a1 : Option Addr) (n1 : Nat) (c1 : Nat) (hR1 : RdS (Kd.int .u8) g0 5 a1 n1 c1 l1) (o1 : List Int) (hs : F.tx_key l1 d1 = some o1) :
    Calls Try.prog 40 #[.slice a1 n1 c1, AG [encA .u8 d1]] g0.w (Ret NoM g0 fun v g => ∃ (a_1 : Option Addr) (n_1 : Nat) (c_1 : Nat), v = .slice a_1 n_1 c_1 ∧ OwnS (Kd.int .u8) g r0 5 a_1 n_1 c_1 o1) := by
  refine calls_of (args := [.slice a1 n1 c1, AG [encA .u8 d1]]) Try.func40 rfl (r0 + 0) ?_
  intro t ht htL
  refine ⟨_, rfl, ?_⟩
  refine CP.refr 9 [(0, .slice a1 n1 c1), (1, AG [encA .u8 d1])] (by kernel_rfl) (by kernel_rfl) ?_
  intro ds
  have tot : Step (fun l => NoM l ∨ t ≤ l) g0 g0 := Step.refl _ _
  unfold F.tx_key at hs
  refine CP.seqR ?_
  refine WP.alloc (T := 23) (t + 1) [encA .u8 d1] [8] (by kernel_rfl) (by simp [len_encA]) ?_
  intro g1 b1 st1 hB1
  replace hR1 := hR1.mono st1 (fun x => x)
  replace tot := tot.trans st1.pure
  refine WP.still 1 (by kernel_rfl) ?_
  refine WP.done (by kernel_rfl) ?_
  refine NX.then_n ?_
  refine CP.seqR ?_
  refine WP.still 1 (by kernel_rfl) ?_
  refine WP.loadB (v := AG [encA .u8 d1]) hB1 (by kernel_rfl) (by kernel_rfl) ?_
  replace hs := Option.bind_eq_some_iff.1 hs
  obtain ⟨x1, hk1, hs⟩ := hs
  have hcal1 := P.hash_Num g1 d1 x1 hk1
  refine WP.callC hcal1 (by kernel_rfl) ?_
  rintro _ g2 st2 rfl
  replace hR1 := hR1.mono st2 (fun x => x)
  replace hB1 := hB1.mono st2 (fun x => x)
  replace tot := tot.trans st2.pure
  replace hs := Option.bind_eq_some_iff.1 hs
  obtain ⟨l2, hk2, hs⟩ := hs
  have hcal2 := P.octet_PutNum g2 (t + 2) l1 x1 a1 n1 c1 hR1 l2 hk2
  refine WP.callC hcal2 (by kernel_rfl) ?_
  rintro _ g3 st3 ⟨a2, n2, c2, rfl, hR2⟩
  replace hR1 := hR1.mono st3 (fun x => x)
  replace hB1 := hB1.mono st3 (fun x => x)
  replace tot := tot.trans st3.pure
  refine WP.still 1 (by kernel_rfl) ?_
  refine WP.done (by kernel_rfl) ?_
  refine NX.then_n ?_
  refine CP.ret ?_
  obtain ⟨g4, hw1, st4, hnew⟩ := hR2.relab (by omega) r0
  refine NX.regw hw1 ?_
  replace tot := tot.trans (st4.up1 (.inr (by omega)))
  clear hR2
  have hR2 := hnew
  clear hnew
  replace hs := Option.some.inj hs
  obtain rfl := hs
  exact NX.fin (v := .slice a2 n2 c2) (Res.still (by kernel_rfl)) tot htL ⟨a2, n2, c2, rfl, hR2⟩
def F.tx_PayTo (d1 : Arr Int 8) (x1 : Int) : Option ((List Int)) := ((F.tx_key ([]) d1).bind fun l1 => ((F.octet_PutNum l1 (IntKind.u64.wrap x1)).bind fun l2 => (some l2)))
theorem P.tx_PayTo (g0 : GW) (r0 : Nat) (d1 : Arr Int 8) (x1 : Int) (o1 : List Int) (hs : F.tx_PayTo d1 x1 = some o1) :
    Calls Try.prog 15 #[AG [encA .u8 d1], .int .i64 x1] g0.w (Ret NoM g0 fun v g => ∃ (a_1 : Option Addr) (n_1 : Nat) (c_1 : Nat), v = .slice a_1 n_1 c_1 ∧ OwnS (Kd.int .u8) g r0 5 a_1 n_1 c_1 o1) := by
  refine calls_of (args := [AG [encA .u8 d1], .int .i64 x1]) Try.func15 rfl (r0 + 0) ?_
  intro t ht htL
  refine ⟨_, rfl, ?_⟩
  refine CP.refr 10 [(0, AG [encA .u8 d1]), (1, .int .i64 x1)] (by kernel_rfl) (by kernel_rfl) ?_
  intro ds
  have tot : Step (fun l => NoM l ∨ t ≤ l) g0 g0 := Step.refl _ _
  unfold F.tx_PayTo at hs
  refine CP.seqR ?_
  refine WP.alloc (T := 23) (t + 1) [encA .u8 d1] [8] (by kernel_rfl) (by simp [len_encA]) ?_
  intro g1 b1 st1 hB1
  replace tot := tot.trans st1.pure
  refine WP.still 1 (by kernel_rfl) ?_
  refine WP.done (by kernel_rfl) ?_
  refine NX.then_n ?_
  refine CP.seqR ?_
  refine WP.loadB (v := AG [encA .u8 d1]) hB1 (by kernel_rfl) (by kernel_rfl) ?_
  replace hs := Option.bind_eq_some_iff.1 hs
  obtain ⟨l1, hk1, hs⟩ := hs
  have hcal1 := P.tx_key g1 (t + 2) ([]) d1 none 0 0 (RdS.nil _ _ _) l1 hk1
  refine WP.callC hcal1 (by kernel_rfl) ?_
  rintro _ g2 st2 ⟨a1, n1, c1, rfl, hR1⟩
  replace hB1 := hB1.mono st2 (fun x => x)
  replace tot := tot.trans st2.pure
  refine WP.still 2 (by kernel_rfl) ?_
  replace hs := Option.bind_eq_some_iff.1 hs
  obtain ⟨l2, hk2, hs⟩ := hs
  obtain ⟨g4, hw1, st4, hnew⟩ := hR1.freeze (by omega)
  refine WP.regw hw1 ?_
  replace hB1 := hB1.mono st4 (WL.no1 (by omega))
  replace tot := tot.trans (st4.up1 (.inr (by omega)))
  clear hR1
  have hR1 := hnew
  clear hnew
  have hcal2 := P.octet_PutNum g4 (t + 3) l1 (IntKind.u64.wrap x1) a1 n1 c1 hR1 l2 hk2
  refine WP.callC hcal2 (by kernel_rfl) ?_
  rintro _ g3 st3 ⟨a2, n2, c2, rfl, hR2⟩
  replace hB1 := hB1.mono st3 (fun x => x)
  replace hR1 := hR1.mono st3 (fun x => x)
  replace tot := tot.trans st3.pure
  refine WP.still 1 (by kernel_rfl) ?_
  refine WP.done (by kernel_rfl) ?_
  refine NX.then_n ?_
  refine CP.ret ?_
  obtain ⟨g5, hw2, st5, hnew⟩ := hR2.relab (by omega) r0
  refine NX.regw hw2 ?_
  replace tot := tot.trans (st5.up1 (.inr (by omega)))
  clear hR2
  have hR2 := hnew
  clear hnew
  replace hs := Option.some.inj hs
  obtain rfl := hs
  exact NX.fin (v := .slice a2 n2 c2) (Res.still (by kernel_rfl)) tot htL ⟨a2, n2, c2, rfl, hR2⟩
def F.baizeref02_Num.l1 (d1 : Arr Int 8) : Nat → Int → Int → Option (Int)
  | 0, _, _ => none
  | k + 1, x1, x2 => (if decide (x2 ≥ 0) = true then (if (0 : Int) ≤ x2 ∧ x2 < (8 : Int) then (F.baizeref02_Num.l1 d1 k (IntKind.u64.wrap ((IntKind.u64.wrap (x1 * 256)) + (IntKind.u64.wrap (aget d1 x2)))) (IntKind.i64.wrap (x2 - 1))) else none) else (some x1))
def F.baizeref02_Num (d1 : Arr Int 8) : Option (Int) := (F.baizeref02_Num.l1 d1 fuel 0 7)
theorem P.baizeref02_Num (g0 : GW) (d1 : Arr Int 8) (o1 : Int) (hs : F.baizeref02_Num d1 = some o1) :
    Calls Try.prog 42 #[AG [encA .u8 d1]] g0.w (Ret NoM g0 fun v g => v = .int .u64 o1) := by
  refine calls_of (args := [AG [encA .u8 d1]]) Try.func42 rfl (0) ?_
  intro t ht htL
  refine ⟨_, rfl, ?_⟩
  refine CP.refr 17 [(0, AG [encA .u8 d1])] (by kernel_rfl) (by kernel_rfl) ?_
  intro ds
  have tot : Step (fun l => NoM l ∨ t ≤ l) g0 g0 := Step.refl _ _
  unfold F.baizeref02_Num at hs
  refine CP.seqR ?_
  refine WP.alloc (T := 22) (t + 1) [encA .u8 d1] [8] (by kernel_rfl) (by simp [len_encA]) ?_
  intro g1 b1 st1 hB1
  replace tot := tot.trans st1.pure
  refine WP.still 1 (by kernel_rfl) ?_
  refine WP.done (by kernel_rfl) ?_
  refine NX.then_n ?_
  refine CP.seqR ?_
  refine WP.still 1 (by kernel_rfl) ?_
  refine WP.done (by kernel_rfl) ?_
  refine NX.then_n ?_
  refine CP.seq ?_
  refine CP.seqR ?_
  refine WP.still 1 (by kernel_rfl) ?_
  refine WP.done (by kernel_rfl) ?_
  refine NX.then_n ?_
  refine CP.block ?_
  generalize fuel = k1 at hs
  refine CP.loop (fun k1 tm g => ∃ (x1 : Int) (x2 : Int), Fr 17 [(1, .pointer (some ⟨b1, 0, none⟩)), (3, .int .u64 x1), (4, .int .i64 x2)] tm ∧ Step (fun l => NoM l ∨ t ≤ l) g0 g ∧ Box g (t + 1) b1 22 [encA .u8 d1] [8] ∧ F.baizeref02_Num.l1 d1 k1 x1 x2 = some o1) k1 ?_ ?_ ?_
  · exact ⟨0, 7, ⟨by kernel_rfl, by kernel_rfl⟩, tot, hB1, hs⟩
  · rintro tm g ⟨x1, x2, hF, tot, hB1, hs⟩
    exact absurd hs (by simp [F.baizeref02_Num.l1])
  clear tot hs hB1
  rintro k1 tm g ⟨x1, x2, hF, tot, hB1, hs⟩
  clear ds
  obtain ⟨ds, rfl⟩ := hF.open
  clear hF
  unfold F.baizeref02_Num.l1 at hs
  refine CP.seq ?_
  refine CP.seqR ?_
  refine WP.still 2 (by kernel_rfl) ?_
  refine WP.done (by kernel_rfl) ?_
  refine NX.then_n ?_
  refine CP.cond (b := decide (x2 ≥ 0)) (by kernel_rfl) (fun h3 => ?_) (fun h3 => ?_)
  · replace hs := of_if_t hs h3
    refine CP.skip ?_
    refine NX.then_n ?_
    refine CP.seq ?_
    refine CP.block ?_
    refine CP.region ?_
    refine WP.still 3 (by kernel_rfl) ?_
    by_cases hc2 : (0 : Int) ≤ x2 ∧ x2 < (8 : Int)
    case neg => rw [if_neg hc2] at hs; cases hs
    replace hs := of_if_p hs hc2
    refine WP.ixBox (t := 22) (e := 5) (m := 8) (size := 1) (b := b1) (off := 0) (k := .i64) (i := x2) (by kernel_rfl) (by kernel_rfl) hc2 ?_
    refine WP.loadE (ty := 5) (o := 0) (m := 8) (k := .u8) (d := d1) (i := x2) hB1 (by kernel_rfl) hc2 (by kernel_rfl) (by kernel_rfl) ?_
    refine WP.still 3 (by kernel_rfl) ?_
    refine WP.done (by kernel_rfl) ?_
    refine NX.block_n ?_
    refine NX.then_n ?_
    refine CP.region ?_
    refine WP.still 3 (by kernel_rfl) ?_
    refine WP.done (by kernel_rfl) ?_
    refine NX.post ?_
    exact ⟨(IntKind.u64.wrap ((IntKind.u64.wrap (x1 * 256)) + (IntKind.u64.wrap (aget d1 x2)))), (IntKind.i64.wrap (x2 - 1)), ⟨by kernel_rfl, by kernel_rfl⟩, tot, hB1, hs⟩
  replace hs := of_if_f hs h3
  refine CP.exit ?_
  refine NX.then_e ?_
  refine NX.then_e ?_
  refine NX.block_s ?_
  refine NX.then_n ?_
  refine CP.seqR ?_
  refine WP.still 2 (by kernel_rfl) ?_
  refine WP.done (by kernel_rfl) ?_
  refine NX.then_n ?_
  refine CP.ret ?_
  replace hs := Option.some.inj hs
  obtain rfl := hs
  exact NX.fin (v := .int .u64 x1) (Res.still (by kernel_rfl)) tot htL rfl
def F.baizeref01_Num.l1 : Nat → Int → (List Int) → Option ((List Int))
  | 0, _, _ => none
  | k + 1, x2, l1 => (if decide (x2 ≥ 128) = true then (if l1.length + ([(IntKind.u8.wrap (IntKind.u64.wrap (128 + (x2.tmod 128))))]).length ≤ 140737488355328 then (F.baizeref01_Num.l1 k (IntKind.u64.wrap (x2.tdiv 128)) (l1 ++ [(IntKind.u8.wrap (IntKind.u64.wrap (128 + (x2.tmod 128))))])) else none) else (if l1.length + ([(IntKind.u8.wrap x2)]).length ≤ 140737488355328 then (some (l1 ++ [(IntKind.u8.wrap x2)])) else none))
def F.baizeref01_Num (x1 : Int) : Option ((List Int)) := (F.baizeref01_Num.l1 fuel x1 ([]))
theorem P.baizeref01_Num (g0 : GW) (r0 : Nat) (x1 : Int) (o1 : List Int) (hs : F.baizeref01_Num x1 = some o1) :
    Calls Try.prog 41 #[.int .u64 x1] g0.w (Ret NoM g0 fun v g => ∃ (a_1 : Option Addr) (n_1 : Nat) (c_1 : Nat), v = .slice a_1 n_1 c_1 ∧ OwnS (Kd.int .u8) g r0 5 a_1 n_1 c_1 o1) := by
  refine calls_of (args := [.int .u64 x1]) Try.func41 rfl (r0 + 0) ?_
  intro t ht htL
  refine ⟨_, rfl, ?_⟩
  refine CP.refr 20 [(0, .int .u64 x1)] (by kernel_rfl) (by kernel_rfl) ?_
  intro ds
  have tot : Step (fun l => NoM l ∨ t ≤ l) g0 g0 := Step.refl _ _
  unfold F.baizeref01_Num at hs
  refine CP.seqR ?_
  refine WP.still 1 (by kernel_rfl) ?_
  refine WP.done (by kernel_rfl) ?_
  refine NX.then_n ?_
  refine CP.seqR ?_
  refine WP.still 1 (by kernel_rfl) ?_
  refine WP.done (by kernel_rfl) ?_
  refine NX.then_n ?_
  refine CP.seq ?_
  refine CP.block ?_
  generalize fuel = k1 at hs
  refine CP.loop (fun k1 tm g => ∃ (x2 : Int) (l1 : List Int) (a5 : Option Addr) (n1 : Nat) (c3 : Nat), Fr 20 [(0, .int .u64 x2), (3, .slice a5 n1 c3)] tm ∧ Step (fun l => NoM l ∨ t ≤ l) g0 g ∧ OwnS (Kd.int .u8) g (t + 2) 5 a5 n1 c3 l1 ∧ F.baizeref01_Num.l1 k1 x2 l1 = some o1) k1 ?_ ?_ ?_
  · exact ⟨x1, [], none, 0, 0, ⟨by kernel_rfl, by kernel_rfl⟩, tot, (OwnS.nil _ _ _ _), hs⟩
  · rintro tm g ⟨x2, l1, a5, n1, c3, hF, tot, hR5, hs⟩
    exact absurd hs (by simp [F.baizeref01_Num.l1])
  clear tot hs
  rintro k1 tm g ⟨x2, l1, a5, n1, c3, hF, tot, hR5, hs⟩
  clear ds
  obtain ⟨ds, rfl⟩ := hF.open
  clear hF
  unfold F.baizeref01_Num.l1 at hs
  refine CP.seq ?_
  refine CP.seqR ?_
  refine WP.still 2 (by kernel_rfl) ?_
  refine WP.done (by kernel_rfl) ?_
  refine NX.then_n ?_
  refine CP.cond (b := decide (x2 ≥ 128)) (by kernel_rfl) (fun h3 => ?_) (fun h3 => ?_)
  · replace hs := of_if_t hs h3
    refine CP.skip ?_
    refine NX.then_n ?_
    refine CP.block ?_
    refine CP.seqR ?_
    refine WP.still 5 (by kernel_rfl) ?_
    refine WP.mkSl (kd := (Kd.int .u8)) (t := 24) (e := 5) (bytes := 1) (t + 7) [.int .u8 (IntKind.u8.wrap (IntKind.u64.wrap (128 + (x2.tmod 128))))] [(IntKind.u8.wrap (IntKind.u64.wrap (128 + (x2.tmod 128))))] (by kernel_rfl) (by kernel_rfl) (Nat.le_of_ble_eq_true rfl) (Nat.le_of_ble_eq_true rfl) (all_cons rfl all_nil) (⟨_, _, rfl, (by exact rfl), rfl⟩) rfl ?_
    intro g9 a11 st9 hR11
    replace hR5 := hR5.mono st9 (fun x => x) (fun x => x)
    replace tot := tot.trans st9.pure
    by_cases hc5 : l1.length + ([(IntKind.u8.wrap (IntKind.u64.wrap (128 + (x2.tmod 128))))]).length ≤ 140737488355328
    case neg => rw [if_neg hc5] at hs; cases hs
    replace hs := of_if_p hs hc5
    refine WP.append (kd := (Kd.int .u8)) (t := 24) (e := 5) (bytes := 1) (a2 := a11) (c2 := 1) hR5 hR11.src hR11.len (by kernel_rfl) (by kernel_rfl) (by omega) (by simp only [maxLen]; omega) (by omega) ?_
    intro g10 a12 c7 st10 hR12
    replace hR11 := hR11.mono st10 (WL.no1 (by omega)) (WL.no1 (by omega))
    replace tot := tot.trans (st10.up1 (.inr (by omega)))
    refine WP.still 1 (by kernel_rfl) ?_
    refine WP.done (by kernel_rfl) ?_
    refine NX.then_n ?_
    refine CP.region ?_
    refine WP.still 3 (by kernel_rfl) ?_
    refine WP.done (by kernel_rfl) ?_
    refine NX.block_n ?_
    refine NX.post ?_
    exact ⟨(IntKind.u64.wrap (x2.tdiv 128)), (l1 ++ [(IntKind.u8.wrap (IntKind.u64.wrap (128 + (x2.tmod 128))))]), a12, (n1 + 1), c7, ⟨by kernel_rfl, by kernel_rfl⟩, tot, hR12, hs⟩
  replace hs := of_if_f hs h3
  refine CP.exit ?_
  refine NX.then_e ?_
  refine NX.then_e ?_
  refine NX.block_s ?_
  refine NX.then_n ?_
  refine CP.seqR ?_
  refine WP.still 3 (by kernel_rfl) ?_
  refine WP.mkSl (kd := (Kd.int .u8)) (t := 24) (e := 5) (bytes := 1) (t + 8) [.int .u8 (IntKind.u8.wrap x2)] [(IntKind.u8.wrap x2)] (by kernel_rfl) (by kernel_rfl) (Nat.le_of_ble_eq_true rfl) (Nat.le_of_ble_eq_true rfl) (all_cons rfl all_nil) (⟨_, _, rfl, (by exact rfl), rfl⟩) rfl ?_
  intro g11 a13 st11 hR13
  replace hR5 := hR5.mono st11 (fun x => x) (fun x => x)
  replace tot := tot.trans st11.pure
  by_cases hc6 : l1.length + ([(IntKind.u8.wrap x2)]).length ≤ 140737488355328
  case neg => rw [if_neg hc6] at hs; cases hs
  replace hs := of_if_p hs hc6
  refine WP.append (kd := (Kd.int .u8)) (t := 24) (e := 5) (bytes := 1) (a2 := a13) (c2 := 1) hR5 hR13.src hR13.len (by kernel_rfl) (by kernel_rfl) (by omega) (by simp only [maxLen]; omega) (by omega) ?_
  intro g12 a14 c8 st12 hR14
  replace hR13 := hR13.mono st12 (WL.no1 (by omega)) (WL.no1 (by omega))
  replace tot := tot.trans (st12.up1 (.inr (by omega)))
  refine WP.still 1 (by kernel_rfl) ?_
  refine WP.done (by kernel_rfl) ?_
  refine NX.then_n ?_
  refine CP.ret ?_
  obtain ⟨g13, hw1, st13, hnew⟩ := hR14.relab (by omega) r0
  refine NX.regw hw1 ?_
  replace tot := tot.trans (st13.up1 (.inr (by omega)))
  clear hR14
  have hR14 := hnew
  clear hnew
  replace hs := Option.some.inj hs
  obtain rfl := hs
  exact NX.fin (v := .slice a14 (n1 + 1) c8) (Res.still (by kernel_rfl)) tot htL ⟨a14, (n1 + 1), c8, rfl, hR14⟩
def F.baizeref25_PayTo (d1 : Arr Int 8) (x1 : Int) : Option ((List Int)) := ((F.baizeref02_Num d1).bind fun x2 => ((F.baizeref01_Num x2).bind fun l1 => ((F.baizeref01_Num (IntKind.u64.wrap x1)).bind fun l2 => (if l1.length + l2.length ≤ 140737488355328 then (some (l1 ++ l2)) else none))))
theorem P.baizeref25_PayTo (g0 : GW) (r0 : Nat) (d1 : Arr Int 8) (x1 : Int) (o1 : List Int) (hs : F.baizeref25_PayTo d1 x1 = some o1) :
    Calls Try.prog 16 #[AG [encA .u8 d1], .int .i64 x1] g0.w (Ret NoM g0 fun v g => ∃ (a_1 : Option Addr) (n_1 : Nat) (c_1 : Nat), v = .slice a_1 n_1 c_1 ∧ OwnS (Kd.int .u8) g r0 5 a_1 n_1 c_1 o1) := by
  refine calls_of (args := [AG [encA .u8 d1], .int .i64 x1]) Try.func16 rfl (r0 + 0) ?_
  intro t ht htL
  refine ⟨_, rfl, ?_⟩
  refine CP.refr 12 [(0, AG [encA .u8 d1]), (1, .int .i64 x1)] (by kernel_rfl) (by kernel_rfl) ?_
  intro ds
  have tot : Step (fun l => NoM l ∨ t ≤ l) g0 g0 := Step.refl _ _
  unfold F.baizeref25_PayTo at hs
  refine CP.seqR ?_
  refine WP.alloc (T := 22) (t + 1) [encA .u8 d1] [8] (by kernel_rfl) (by simp [len_encA]) ?_
  intro g1 b1 st1 hB1
  replace tot := tot.trans st1.pure
  refine WP.still 1 (by kernel_rfl) ?_
  refine WP.done (by kernel_rfl) ?_
  refine NX.then_n ?_
  refine CP.seqR ?_
  refine WP.loadB (v := AG [encA .u8 d1]) hB1 (by kernel_rfl) (by kernel_rfl) ?_
  replace hs := Option.bind_eq_some_iff.1 hs
  obtain ⟨x2, hk1, hs⟩ := hs
  have hcal1 := P.baizeref02_Num g1 d1 x2 hk1
  refine WP.callC hcal1 (by kernel_rfl) ?_
  rintro _ g2 st2 rfl
  replace hB1 := hB1.mono st2 (fun x => x)
  replace tot := tot.trans st2.pure
  replace hs := Option.bind_eq_some_iff.1 hs
  obtain ⟨l1, hk2, hs⟩ := hs
  have hcal2 := P.baizeref01_Num g2 (t + 2) x2 l1 hk2
  refine WP.callC hcal2 (by kernel_rfl) ?_
  rintro _ g3 st3 ⟨a1, n1, c1, rfl, hR1⟩
  replace hB1 := hB1.mono st3 (fun x => x)
  replace tot := tot.trans st3.pure
  refine WP.still 2 (by kernel_rfl) ?_
  replace hs := Option.bind_eq_some_iff.1 hs
  obtain ⟨l2, hk3, hs⟩ := hs
  have hcal3 := P.baizeref01_Num g3 (t + 3) (IntKind.u64.wrap x1) l2 hk3
  refine WP.callC hcal3 (by kernel_rfl) ?_
  rintro _ g4 st4 ⟨a2, n2, c2, rfl, hR2⟩
  replace hB1 := hB1.mono st4 (fun x => x)
  replace hR1 := hR1.mono st4 (fun x => x) (fun x => x)
  replace tot := tot.trans st4.pure
  by_cases hc1 : l1.length + l2.length ≤ 140737488355328
  case neg => rw [if_neg hc1] at hs; cases hs
  replace hs := of_if_p hs hc1
  refine WP.append (kd := (Kd.int .u8)) (t := 24) (e := 5) (bytes := 1) (a2 := a2) (c2 := c2) hR1 hR2.src hR2.len (by kernel_rfl) (by kernel_rfl) (by omega) (by simp only [maxLen]; omega) (by omega) ?_
  intro g5 a3 c3 st5 hR3
  replace hB1 := hB1.mono st5 (WL.no1 (by omega))
  replace hR2 := hR2.mono st5 (WL.no1 (by omega)) (WL.no1 (by omega))
  replace tot := tot.trans (st5.up1 (.inr (by omega)))
  refine WP.still 1 (by kernel_rfl) ?_
  refine WP.done (by kernel_rfl) ?_
  refine NX.then_n ?_
  refine CP.ret ?_
  obtain ⟨g6, hw1, st6, hnew⟩ := hR3.relab (by omega) r0
  refine NX.regw hw1 ?_
  replace tot := tot.trans (st6.up1 (.inr (by omega)))
  clear hR3
  have hR3 := hnew
  clear hnew
  replace hs := Option.some.inj hs
  obtain rfl := hs
  exact NX.fin (v := .slice a3 (n1 + n2) c3) (Res.still (by kernel_rfl)) tot htL ⟨a3, (n1 + n2), c3, rfl, hR3⟩
def N.baizeref01_Same_0 : List (List Nat) := [[], [], [0, 1], [0, 1, 2], [], [], [4, 5], [4, 5, 6], [0, 1, 2, 3, 4, 5, 6, 7]]
def F.baizeref01_Same.l1 (l1 : List Int) (l2 : List Int) : Nat → Int → Option (Bool)
  | 0, _ => none
  | k + 1, x1 => (if decide (x1 < (l1.length : Int)) = true then (if (0 : Int) ≤ x1 ∧ x1 < (l1.length : Int) then (if (0 : Int) ≤ x1 ∧ x1 < (l2.length : Int) then (if ((getI l1 x1) != (getI l2 x1)) = true then (some false) else (F.baizeref01_Same.l1 l1 l2 k (IntKind.i64.wrap (x1 + 1)))) else none) else none) else (some true))
def F.baizeref01_Same (l1 : List Int) (l2 : List Int) : Option (Bool) := (if ((l1.length : Int) != (l2.length : Int)) = true then (some false) else (F.baizeref01_Same.l1 l1 l2 fuel 0))
theorem P.baizeref01_Same (g0 : GW) (l1 : List Int) (l2 : List Int) (a1 : Option Addr) (n1 : Nat) (c1 : Nat) (a2 : Option Addr) (n2 : Nat) (c2 : Nat) (hR1 : RdS (Kd.int .u8) g0 5 a1 n1 c1 l1) (hR2 : RdS (Kd.int .u8) g0 5 a2 n2 c2 l2) (o1 : Bool) (hs : F.baizeref01_Same l1 l2 = some o1) :
    Calls Try.prog 14 #[.slice a1 n1 c1, .slice a2 n2 c2] g0.w (Ret NoM g0 fun v g => v = .bool o1) := by
  refine calls_of (args := [.slice a1 n1 c1, .slice a2 n2 c2]) Try.func14 rfl (0) ?_
  intro t ht htL
  refine ⟨_, rfl, ?_⟩
  refine CP.refr 26 [(0, .slice a1 n1 c1), (1, .slice a2 n2 c2)] (by kernel_rfl) (by kernel_rfl) ?_
  intro ds
  have tot : Step (fun l => NoM l ∨ t ≤ l) g0 g0 := Step.refl _ _
  unfold F.baizeref01_Same at hs
  refine CP.seqR ?_
  refine WP.still 1 (by kernel_rfl) ?_
  refine WP.done (by kernel_rfl) ?_
  refine NX.then_n ?_
  refine CP.seq ?_
  refine CP.seqR ?_
  refine WP.still 1 (by kernel_rfl) ?_
  refine WP.len (a := a1) (cp := c1) hR1.len (by kernel_rfl) ?_
  refine WP.still 1 (by kernel_rfl) ?_
  refine WP.len (a := a2) (cp := c2) hR2.len (by kernel_rfl) ?_
  refine WP.still 1 (by kernel_rfl) ?_
  refine WP.done (by kernel_rfl) ?_
  refine NX.then_n ?_
  refine CP.cond (b := ((l1.length : Int) != (l2.length : Int))) (by kernel_rfl) (fun h1 => ?_) (fun h1 => ?_)
  · replace hs := of_if_t hs h1
    refine CP.seqR ?_
    refine WP.still 1 (by kernel_rfl) ?_
    refine WP.done (by kernel_rfl) ?_
    refine NX.then_n ?_
    refine CP.ret ?_
    refine NX.then_r ?_
    replace hs := Option.some.inj hs
    obtain rfl := hs
    exact NX.fin (v := .bool false) (Res.still (by kernel_rfl)) tot htL rfl
  replace hs := of_if_f hs h1
  refine CP.skip ?_
  refine NX.then_n ?_
  refine CP.seq ?_
  refine CP.seqR ?_
  refine WP.still 1 (by kernel_rfl) ?_
  refine WP.done (by kernel_rfl) ?_
  refine NX.then_n ?_
  refine CP.block ?_
  generalize fuel = k1 at hs
  refine CP.loop (fun k1 tm g => ∃ (x1 : Int), Fr 26 [(0, .slice a1 n1 c1), (1, .slice a2 n2 c2), (5, .int .i64 x1)] tm ∧ Step (fun l => NoM l ∨ t ≤ l) g0 g ∧ RdS (Kd.int .u8) g 5 a1 n1 c1 l1 ∧ RdS (Kd.int .u8) g 5 a2 n2 c2 l2 ∧ F.baizeref01_Same.l1 l1 l2 k1 x1 = some o1) k1 ?_ ?_ ?_
  · exact ⟨0, ⟨by kernel_rfl, by kernel_rfl⟩, tot, hR1, hR2, hs⟩
  · rintro tm g ⟨x1, hF, tot, hR1, hR2, hs⟩
    exact absurd hs (by simp [F.baizeref01_Same.l1])
  clear tot hs hR1 hR2
  rintro k1 tm g ⟨x1, hF, tot, hR1, hR2, hs⟩
  clear ds
  obtain ⟨ds, rfl⟩ := hF.open
  clear hF
  unfold F.baizeref01_Same.l1 at hs
  refine CP.seq ?_
  refine CP.seqR ?_
  refine WP.still 2 (by kernel_rfl) ?_
  refine WP.len (a := a1) (cp := c1) hR1.len (by kernel_rfl) ?_
  refine WP.still 1 (by kernel_rfl) ?_
  refine WP.done (by kernel_rfl) ?_
  refine NX.then_n ?_
  refine CP.cond (b := decide (x1 < (l1.length : Int))) (by kernel_rfl) (fun h6 => ?_) (fun h6 => ?_)
  · replace hs := of_if_t hs h6
    refine CP.skip ?_
    refine NX.then_n ?_
    refine CP.seq ?_
    refine CP.block ?_
    refine CP.seq ?_
    by_cases hc5 : (0 : Int) ≤ x1 ∧ x1 < (l1.length : Int)
    case neg => rw [if_neg hc5] at hs; cases hs
    replace hs := of_if_p hs hc5
    by_cases hc6 : (0 : Int) ≤ x1 ∧ x1 < (l2.length : Int)
    case neg => rw [if_neg hc6] at hs; cases hs
    replace hs := of_if_p hs hc6
    obtain ⟨b5, u5, ha5⟩ := hR1.at hc5
    obtain ⟨b6, u6, ha6⟩ := hR2.at hc6
    refine CP.drawL (by kernel_rfl) [2, 3, 6, 7] N.baizeref01_Same_0 [⟨none, [], [], fun l g => RdS (Kd.int .u8) g 5 a1 n1 c1 l1⟩, ⟨none, [], [], fun l g => RdS (Kd.int .u8) g 5 a2 n2 c2 l2⟩, ⟨some 0, [], [0], fun l g => l.getD 0 undef = .pointer (some ⟨b5, u5 + x1.toNat * 1, none⟩)⟩, ⟨some 1, [], [1], fun l g => l.getD 0 undef = .int .u8 (getI l1 x1)⟩, ⟨some 2, [], [2], fun l g => l.getD 0 undef = .pointer (some ⟨b6, u6 + x1.toNat * 1, none⟩)⟩, ⟨some 3, [], [3], fun l g => l.getD 0 undef = .int .u8 (getI l2 x1)⟩] [[], [], [], []] [] [0, 1, 4, 5] [8] (by kernel_rfl) (by simp) (by simp) ⟨fun _ _ _ _ st h0 hl hj hR1 => (RdS.mono (e := 5) hR1 st h0), fun _ _ _ _ st h0 hl hj hR2 => (RdS.mono (e := 5) hR2 st h0), fun _ _ _ _ st h0 hl hj e => e, fun _ _ _ _ st h0 hl hj e => e, fun _ _ _ _ st h0 hl hj e => e, fun _ _ _ _ st h0 hl hj e => e, trivial⟩ ⟨hR1, hR2, trivial, trivial, trivial, trivial, trivial⟩ (by kernel_rfl) (fun vs => by kernel_rfl) ?_ ?_ ?_
    · intro j hj
      have hq : j = 0 := by have h : j < 1 := hj; omega
      rcases hq with rfl
      · intro vs gq stq hl hf
        replace hl : vs.length = 4 := hl
        obtain ⟨v0, vs0, rfl, hl0⟩ := len_succ hl
        obtain ⟨v1, vs1, rfl, hl1⟩ := len_succ hl0
        obtain ⟨v2, vs2, rfl, hl2⟩ := len_succ hl1
        obtain ⟨v3, vs3, rfl, hl3⟩ := len_succ hl2
        obtain rfl := len_zero hl3
        have e := (show v1 = .int .u8 (getI l1 x1) from hf _ (List.mem_of_getElem? (i := 3) rfl) (by kernel_rfl))
        subst e
        have e := (show v3 = .int .u8 (getI l2 x1) from hf _ (List.mem_of_getElem? (i := 5) rfl) (by kernel_rfl))
        subst e
        show Option.isSome _ = true
        kernel_rfl
    · intro j hj
      have hq : j = 0 ∨ j = 1 ∨ j = 2 ∨ j = 3 := by have h : j < 4 := hj; omega
      rcases hq with rfl | rfl | rfl | rfl
      · intro vs gq stq hl hf
        replace hl : vs.length = 4 := hl
        obtain ⟨v0, vs0, rfl, hl0⟩ := len_succ hl
        obtain ⟨v1, vs1, rfl, hl1⟩ := len_succ hl0
        obtain ⟨v2, vs2, rfl, hl2⟩ := len_succ hl1
        obtain ⟨v3, vs3, rfl, hl3⟩ := len_succ hl2
        obtain rfl := len_zero hl3
        have hR1 := (show RdS (Kd.int .u8) gq 5 a1 n1 c1 l1 from hf _ (List.mem_of_getElem? (i := 0) rfl) (by kernel_rfl))
        refine WP.indexA (t := 24) (e := 5) (sz := 1) (cap := c1) (k := .i64) (i := x1) hR1.len ha5 (by kernel_rfl) (by kernel_rfl) hc5 ?_
        refine WP.done (by kernel_rfl) (Shown.ok (v := .pointer (some ⟨b5, u5 + x1.toNat * 1, none⟩)) (by kernel_rfl) (Step.refl _ _) ?_)
        exact ⟨trivial, trivial, rfl, trivial, trivial, trivial, trivial⟩
      · intro vs gq stq hl hf
        replace hl : vs.length = 4 := hl
        obtain ⟨v0, vs0, rfl, hl0⟩ := len_succ hl
        obtain ⟨v1, vs1, rfl, hl1⟩ := len_succ hl0
        obtain ⟨v2, vs2, rfl, hl2⟩ := len_succ hl1
        obtain ⟨v3, vs3, rfl, hl3⟩ := len_succ hl2
        obtain rfl := len_zero hl3
        have hR1 := (show RdS (Kd.int .u8) gq 5 a1 n1 c1 l1 from hf _ (List.mem_of_getElem? (i := 0) rfl) (by kernel_rfl))
        have e := (show v0 = .pointer (some ⟨b5, u5 + x1.toNat * 1, none⟩) from hf _ (List.mem_of_getElem? (i := 2) rfl) (by kernel_rfl))
        subst e
        obtain ⟨cs5, hcR5, hcV5⟩ := hR1.src.view (getI_some hc5) ha5
        replace hcR5 := Kd.o_int hcR5
        refine WP.loadV [[.int .u8 (getI l1 x1)]] [1] hcV5 hcR5 rfl (f := 0) (ty := 5) (agg := false) (size := 1) (rs := [[.int .u8 (getI l1 x1)]]) (v := .int .u8 (getI l1 x1)) (by kernel_rfl) (by kernel_rfl) (by kernel_rfl) (by kernel_rfl) ?_
        refine WP.done (by kernel_rfl) (Shown.ok (v := .int .u8 (getI l1 x1)) (by kernel_rfl) (Step.refl _ _) ?_)
        exact ⟨trivial, trivial, trivial, rfl, trivial, trivial, trivial⟩
      · intro vs gq stq hl hf
        replace hl : vs.length = 4 := hl
        obtain ⟨v0, vs0, rfl, hl0⟩ := len_succ hl
        obtain ⟨v1, vs1, rfl, hl1⟩ := len_succ hl0
        obtain ⟨v2, vs2, rfl, hl2⟩ := len_succ hl1
        obtain ⟨v3, vs3, rfl, hl3⟩ := len_succ hl2
        obtain rfl := len_zero hl3
        have hR2 := (show RdS (Kd.int .u8) gq 5 a2 n2 c2 l2 from hf _ (List.mem_of_getElem? (i := 1) rfl) (by kernel_rfl))
        refine WP.indexA (t := 24) (e := 5) (sz := 1) (cap := c2) (k := .i64) (i := x1) hR2.len ha6 (by kernel_rfl) (by kernel_rfl) hc6 ?_
        refine WP.done (by kernel_rfl) (Shown.ok (v := .pointer (some ⟨b6, u6 + x1.toNat * 1, none⟩)) (by kernel_rfl) (Step.refl _ _) ?_)
        exact ⟨trivial, trivial, trivial, trivial, rfl, trivial, trivial⟩
      · intro vs gq stq hl hf
        replace hl : vs.length = 4 := hl
        obtain ⟨v0, vs0, rfl, hl0⟩ := len_succ hl
        obtain ⟨v1, vs1, rfl, hl1⟩ := len_succ hl0
        obtain ⟨v2, vs2, rfl, hl2⟩ := len_succ hl1
        obtain ⟨v3, vs3, rfl, hl3⟩ := len_succ hl2
        obtain rfl := len_zero hl3
        have hR2 := (show RdS (Kd.int .u8) gq 5 a2 n2 c2 l2 from hf _ (List.mem_of_getElem? (i := 1) rfl) (by kernel_rfl))
        have e := (show v2 = .pointer (some ⟨b6, u6 + x1.toNat * 1, none⟩) from hf _ (List.mem_of_getElem? (i := 4) rfl) (by kernel_rfl))
        subst e
        obtain ⟨cs6, hcR6, hcV6⟩ := hR2.src.view (getI_some hc6) ha6
        replace hcR6 := Kd.o_int hcR6
        refine WP.loadV [[.int .u8 (getI l2 x1)]] [1] hcV6 hcR6 rfl (f := 0) (ty := 5) (agg := false) (size := 1) (rs := [[.int .u8 (getI l2 x1)]]) (v := .int .u8 (getI l2 x1)) (by kernel_rfl) (by kernel_rfl) (by kernel_rfl) (by kernel_rfl) ?_
        refine WP.done (by kernel_rfl) (Shown.ok (v := .int .u8 (getI l2 x1)) (by kernel_rfl) (Step.refl _ _) ?_)
        exact ⟨trivial, trivial, trivial, trivial, trivial, rfl, trivial⟩
    intro vs g1 st1 hl hf
    replace hl : vs.length = 4 := hl
    obtain ⟨v0, vs0, rfl, hl0⟩ := len_succ hl
    obtain ⟨v1, vs1, rfl, hl1⟩ := len_succ hl0
    obtain ⟨v2, vs2, rfl, hl2⟩ := len_succ hl1
    obtain ⟨v3, vs3, rfl, hl3⟩ := len_succ hl2
    obtain rfl := len_zero hl3
    have e := (show v1 = .int .u8 (getI l1 x1) from hf _ (List.mem_of_getElem? (i := 3) rfl) (by kernel_rfl))
    subst e
    have e := (show v3 = .int .u8 (getI l2 x1) from hf _ (List.mem_of_getElem? (i := 5) rfl) (by kernel_rfl))
    subst e
    replace hR1 := hR1.mono st1.toNo (fun x => x)
    replace hR2 := hR2.mono st1.toNo (fun x => x)
    replace tot := tot.trans st1.toNo.pure
    refine NX.then_n ?_
    refine CP.refr 26 [(0, .slice a1 n1 c1), (1, .slice a2 n2 c2), (5, .int .i64 x1), (25, .bool ((getI l1 x1) != (getI l2 x1)))] (by kernel_rfl) (by kernel_rfl) ?_
    clear ds
    intro ds
    refine CP.cond (b := ((getI l1 x1) != (getI l2 x1))) (by kernel_rfl) (fun h7 => ?_) (fun h7 => ?_)
    · replace hs := of_if_t hs h7
      refine CP.seqR ?_
      refine WP.still 1 (by kernel_rfl) ?_
      refine WP.done (by kernel_rfl) ?_
      refine NX.then_n ?_
      refine CP.ret ?_
      refine NX.block_r ?_
      refine NX.then_r ?_
      refine NX.then_r ?_
      refine NX.block_r ?_
      refine NX.then_r ?_
      replace hs := Option.some.inj hs
      obtain rfl := hs
      exact NX.fin (v := .bool false) (Res.still (by kernel_rfl)) tot htL rfl
    replace hs := of_if_f hs h7
    refine CP.skip ?_
    refine NX.block_n ?_
    refine NX.then_n ?_
    refine CP.region ?_
    refine WP.still 3 (by kernel_rfl) ?_
    refine WP.done (by kernel_rfl) ?_
    refine NX.post ?_
    exact ⟨(IntKind.i64.wrap (x1 + 1)), ⟨by kernel_rfl, by kernel_rfl⟩, tot, hR1, hR2, hs⟩
  replace hs := of_if_f hs h6
  refine CP.exit ?_
  refine NX.then_e ?_
  refine NX.then_e ?_
  refine NX.block_s ?_
  refine NX.then_n ?_
  refine CP.seqR ?_
  refine WP.still 1 (by kernel_rfl) ?_
  refine WP.done (by kernel_rfl) ?_
  refine NX.then_n ?_
  refine CP.ret ?_
  replace hs := Option.some.inj hs
  obtain rfl := hs
  exact NX.fin (v := .bool true) (Res.still (by kernel_rfl)) tot htL rfl
def F.tx_limits : Option ((List FnNo)) := (some ([(63 : FnNo), (65 : FnNo), (66 : FnNo), (67 : FnNo), (68 : FnNo)]))
theorem P.tx_limits (g0 : GW) (r0 : Nat) (o1 : List FnNo) (hs : F.tx_limits = some o1) :
    Calls Try.prog 43 #[] g0.w (Ret NoM g0 fun v g => ∃ (a_1 : Option Addr) (n_1 : Nat) (c_1 : Nat), v = .slice a_1 n_1 c_1 ∧ OwnS Kd.fn g r0 47 a_1 n_1 c_1 o1) := by
  refine calls_of (args := []) Try.func43 rfl (r0 + 0) ?_
  intro t ht htL
  refine ⟨_, rfl, ?_⟩
  refine CP.refr 2 [] (by kernel_rfl) (by kernel_rfl) ?_
  intro ds
  have tot : Step (fun l => NoM l ∨ t ≤ l) g0 g0 := Step.refl _ _
  unfold F.tx_limits at hs
  refine CP.seqR ?_
  refine WP.still 1 (by kernel_rfl) ?_
  refine WP.done (by kernel_rfl) ?_
  refine NX.then_n ?_
  refine CP.seqR ?_
  refine WP.mkSl (kd := Kd.fn) (t := 82) (e := 47) (bytes := 8) (t + 1) [.func (.func 63) #[] #[], .func (.func 65) #[] #[], .func (.func 66) #[] #[], .func (.func 67) #[] #[], .func (.func 68) #[] #[]] [(63 : FnNo), (65 : FnNo), (66 : FnNo), (67 : FnNo), (68 : FnNo)] (by kernel_rfl) (by kernel_rfl) (Nat.le_of_ble_eq_true rfl) (Nat.le_of_ble_eq_true rfl) (all_cons rfl (all_cons rfl (all_cons rfl (all_cons rfl (all_cons rfl all_nil))))) (⟨_, _, rfl, (by exact rfl), ⟨_, _, rfl, (by exact rfl), ⟨_, _, rfl, (by exact rfl), ⟨_, _, rfl, (by exact rfl), ⟨_, _, rfl, (by exact rfl), rfl⟩⟩⟩⟩⟩) rfl ?_
  intro g1 a1 st1 hR1
  replace tot := tot.trans st1.pure
  refine WP.still 1 (by kernel_rfl) ?_
  refine WP.done (by kernel_rfl) ?_
  refine NX.then_n ?_
  refine CP.ret ?_
  obtain ⟨g2, hw1, st2, hnew⟩ := hR1.relab (by omega) r0
  refine NX.regw hw1 ?_
  replace tot := tot.trans (st2.up1 (.inr (by omega)))
  clear hR1
  have hR1 := hnew
  clear hnew
  replace hs := Option.some.inj hs
  obtain rfl := hs
  exact NX.fin (v := .slice a1 5 5) (Res.still (by kernel_rfl)) tot htL ⟨a1, 5, 5, rfl, hR1⟩
def F.tx_in.c1 (q1 : Bool) : Option (Bool) := (some q1)
def F.tx_in (x1 : Int) (x2 : Int) : Option (Bool) := (if decide (x1 ≥ 0) = true then (F.tx_in.c1 (decide (x1 ≤ x2))) else (F.tx_in.c1 false))
theorem P.tx_in (g0 : GW) (x1 : Int) (x2 : Int) (o1 : Bool) (hs : F.tx_in x1 x2 = some o1) :
    Calls Try.prog 64 #[.int .i64 x1, .int .i64 x2] g0.w (Ret NoM g0 fun v g => v = .bool o1) := by
  refine calls_of (args := [.int .i64 x1, .int .i64 x2]) Try.func64 rfl (0) ?_
  intro t ht htL
  refine ⟨_, rfl, ?_⟩
  refine CP.refr 12 [(0, .int .i64 x1), (1, .int .i64 x2)] (by kernel_rfl) (by kernel_rfl) ?_
  intro ds
  have tot : Step (fun l => NoM l ∨ t ≤ l) g0 g0 := Step.refl _ _
  unfold F.tx_in at hs
  refine CP.seqR ?_
  refine WP.still 1 (by kernel_rfl) ?_
  refine WP.done (by kernel_rfl) ?_
  refine NX.then_n ?_
  refine CP.cut (fun tm g => ∃ (q1 : Bool), Fr 12 [(4, .bool q1)] tm ∧ Step (fun l => NoM l ∨ t ≤ l) g0 g ∧ (F.tx_in.c1 q1) = some o1) ?_ ?_
  · refine CP.region ?_
    refine WP.still 3 (by kernel_rfl) ?_
    refine WP.guard 7 (b := decide (x1 ≥ 0)) (by kernel_rfl) (fun h2 => ?_) (fun h2 => ?_)
    · replace hs := of_if_t hs h2
      refine WP.still 5 (by kernel_rfl) ?_
      refine WP.done (by kernel_rfl) ?_
      refine NX.post ?_
      exact ⟨decide (x1 ≤ x2), ⟨by kernel_rfl, by kernel_rfl⟩, tot, hs⟩
    replace hs := of_if_f hs h2
    refine WP.still 5 (by kernel_rfl) ?_
    refine WP.done (by kernel_rfl) ?_
    refine NX.post ?_
    exact ⟨false, ⟨by kernel_rfl, by kernel_rfl⟩, tot, hs⟩
  clear tot hs
  rintro tm g ⟨q1, hF, tot, hs⟩
  clear ds
  obtain ⟨ds, rfl⟩ := hF.open
  clear hF
  unfold F.tx_in.c1 at hs
  refine CP.ret ?_
  replace hs := Option.some.inj hs
  obtain rfl := hs
  exact NX.fin (v := .bool q1) (Res.still (by kernel_rfl)) tot htL rfl
def F.tx_limits_1 (d1 : Arr Int 8) (x1 : Int) (x2 : Int) (x3 : Int) (l1 : List Int) (l2 : List Int) : Option (Bool) := ((F.tx_in x1 1099511627776).bind fun q1 => (some q1))
theorem P.tx_limits_1 (g0 : GW) (d1 : Arr Int 8) (x1 : Int) (x2 : Int) (x3 : Int) (l1 : List Int) (l2 : List Int) (a1 : Option Addr) (n1 : Nat) (c1 : Nat) (a2 : Option Addr) (n2 : Nat) (c2 : Nat) (hR1 : RdS (Kd.int .u8) g0 5 a1 n1 c1 l1) (hR2 : RdS (Kd.int .u8) g0 5 a2 n2 c2 l2) (o1 : Bool) (hs : F.tx_limits_1 d1 x1 x2 x3 l1 l2 = some o1) :
    Calls Try.prog 63 #[AG [encA .u8 d1, [.int .i64 x1], [.int .i64 x2], [.int .i64 x3], [.slice a1 n1 c1], [.slice a2 n2 c2]]] g0.w (Ret NoM g0 fun v g => v = .bool o1) := by
  refine calls_of (args := [AG [encA .u8 d1, [.int .i64 x1], [.int .i64 x2], [.int .i64 x3], [.slice a1 n1 c1], [.slice a2 n2 c2]]]) Try.func63 rfl (0) ?_
  intro t ht htL
  refine ⟨_, rfl, ?_⟩
  refine CP.refr 6 [(0, AG [encA .u8 d1, [.int .i64 x1], [.int .i64 x2], [.int .i64 x3], [.slice a1 n1 c1], [.slice a2 n2 c2]])] (by kernel_rfl) (by kernel_rfl) ?_
  intro ds
  have tot : Step (fun l => NoM l ∨ t ≤ l) g0 g0 := Step.refl _ _
  unfold F.tx_limits_1 at hs
  refine CP.seqR ?_
  refine WP.alloc (T := 26) (t + 1) [encA .u8 d1, [.int .i64 x1], [.int .i64 x2], [.int .i64 x3], [.slice a1 n1 c1], [.slice a2 n2 c2]] [8, 1, 1, 1, 1, 1] (by kernel_rfl) (by simp [len_encA]) ?_
  intro g1 b1 st1 hB1
  replace hR1 := hR1.mono st1 (fun x => x)
  replace hR2 := hR2.mono st1 (fun x => x)
  replace tot := tot.trans st1.pure
  refine WP.still 1 (by kernel_rfl) ?_
  refine WP.done (by kernel_rfl) ?_
  refine NX.then_n ?_
  refine CP.seqR ?_
  refine WP.still 1 (by kernel_rfl) ?_
  refine WP.loadB (v := .int .i64 x1) hB1 (by kernel_rfl) (by kernel_rfl) ?_
  replace hs := Option.bind_eq_some_iff.1 hs
  obtain ⟨q1, hk1, hs⟩ := hs
  have hcal1 := P.tx_in g1 x1 1099511627776 q1 hk1
  refine WP.callC hcal1 (by kernel_rfl) ?_
  rintro _ g2 st2 rfl
  replace hB1 := hB1.mono st2 (fun x => x)
  replace hR1 := hR1.mono st2 (fun x => x)
  replace hR2 := hR2.mono st2 (fun x => x)
  replace tot := tot.trans st2.pure
  refine WP.still 1 (by kernel_rfl) ?_
  refine WP.done (by kernel_rfl) ?_
  refine NX.then_n ?_
  refine CP.ret ?_
  replace hs := Option.some.inj hs
  obtain rfl := hs
  exact NX.fin (v := .bool q1) (Res.still (by kernel_rfl)) tot htL rfl
def F.tx_limits_2 (d1 : Arr Int 8) (x1 : Int) (x2 : Int) (x3 : Int) (l1 : List Int) (l2 : List Int) : Option (Bool) := ((F.tx_in x2 1125899906842624).bind fun q1 => (some q1))
theorem P.tx_limits_2 (g0 : GW) (d1 : Arr Int 8) (x1 : Int) (x2 : Int) (x3 : Int) (l1 : List Int) (l2 : List Int) (a1 : Option Addr) (n1 : Nat) (c1 : Nat) (a2 : Option Addr) (n2 : Nat) (c2 : Nat) (hR1 : RdS (Kd.int .u8) g0 5 a1 n1 c1 l1) (hR2 : RdS (Kd.int .u8) g0 5 a2 n2 c2 l2) (o1 : Bool) (hs : F.tx_limits_2 d1 x1 x2 x3 l1 l2 = some o1) :
    Calls Try.prog 65 #[AG [encA .u8 d1, [.int .i64 x1], [.int .i64 x2], [.int .i64 x3], [.slice a1 n1 c1], [.slice a2 n2 c2]]] g0.w (Ret NoM g0 fun v g => v = .bool o1) := by
  refine calls_of (args := [AG [encA .u8 d1, [.int .i64 x1], [.int .i64 x2], [.int .i64 x3], [.slice a1 n1 c1], [.slice a2 n2 c2]]]) Try.func65 rfl (0) ?_
  intro t ht htL
  refine ⟨_, rfl, ?_⟩
  refine CP.refr 6 [(0, AG [encA .u8 d1, [.int .i64 x1], [.int .i64 x2], [.int .i64 x3], [.slice a1 n1 c1], [.slice a2 n2 c2]])] (by kernel_rfl) (by kernel_rfl) ?_
  intro ds
  have tot : Step (fun l => NoM l ∨ t ≤ l) g0 g0 := Step.refl _ _
  unfold F.tx_limits_2 at hs
  refine CP.seqR ?_
  refine WP.alloc (T := 26) (t + 1) [encA .u8 d1, [.int .i64 x1], [.int .i64 x2], [.int .i64 x3], [.slice a1 n1 c1], [.slice a2 n2 c2]] [8, 1, 1, 1, 1, 1] (by kernel_rfl) (by simp [len_encA]) ?_
  intro g1 b1 st1 hB1
  replace hR1 := hR1.mono st1 (fun x => x)
  replace hR2 := hR2.mono st1 (fun x => x)
  replace tot := tot.trans st1.pure
  refine WP.still 1 (by kernel_rfl) ?_
  refine WP.done (by kernel_rfl) ?_
  refine NX.then_n ?_
  refine CP.seqR ?_
  refine WP.still 1 (by kernel_rfl) ?_
  refine WP.loadB (v := .int .i64 x2) hB1 (by kernel_rfl) (by kernel_rfl) ?_
  replace hs := Option.bind_eq_some_iff.1 hs
  obtain ⟨q1, hk1, hs⟩ := hs
  have hcal1 := P.tx_in g1 x2 1125899906842624 q1 hk1
  refine WP.callC hcal1 (by kernel_rfl) ?_
  rintro _ g2 st2 rfl
  replace hB1 := hB1.mono st2 (fun x => x)
  replace hR1 := hR1.mono st2 (fun x => x)
  replace hR2 := hR2.mono st2 (fun x => x)
  replace tot := tot.trans st2.pure
  refine WP.still 1 (by kernel_rfl) ?_
  refine WP.done (by kernel_rfl) ?_
  refine NX.then_n ?_
  refine CP.ret ?_
  replace hs := Option.some.inj hs
  obtain rfl := hs
  exact NX.fin (v := .bool q1) (Res.still (by kernel_rfl)) tot htL rfl
def F.tx_limits_3 (d1 : Arr Int 8) (x1 : Int) (x2 : Int) (x3 : Int) (l1 : List Int) (l2 : List Int) : Option (Bool) := ((F.tx_in x3 2).bind fun q1 => (some q1))
theorem P.tx_limits_3 (g0 : GW) (d1 : Arr Int 8) (x1 : Int) (x2 : Int) (x3 : Int) (l1 : List Int) (l2 : List Int) (a1 : Option Addr) (n1 : Nat) (c1 : Nat) (a2 : Option Addr) (n2 : Nat) (c2 : Nat) (hR1 : RdS (Kd.int .u8) g0 5 a1 n1 c1 l1) (hR2 : RdS (Kd.int .u8) g0 5 a2 n2 c2 l2) (o1 : Bool) (hs : F.tx_limits_3 d1 x1 x2 x3 l1 l2 = some o1) :
    Calls Try.prog 66 #[AG [encA .u8 d1, [.int .i64 x1], [.int .i64 x2], [.int .i64 x3], [.slice a1 n1 c1], [.slice a2 n2 c2]]] g0.w (Ret NoM g0 fun v g => v = .bool o1) := by
  refine calls_of (args := [AG [encA .u8 d1, [.int .i64 x1], [.int .i64 x2], [.int .i64 x3], [.slice a1 n1 c1], [.slice a2 n2 c2]]]) Try.func66 rfl (0) ?_
  intro t ht htL
  refine ⟨_, rfl, ?_⟩
  refine CP.refr 6 [(0, AG [encA .u8 d1, [.int .i64 x1], [.int .i64 x2], [.int .i64 x3], [.slice a1 n1 c1], [.slice a2 n2 c2]])] (by kernel_rfl) (by kernel_rfl) ?_
  intro ds
  have tot : Step (fun l => NoM l ∨ t ≤ l) g0 g0 := Step.refl _ _
  unfold F.tx_limits_3 at hs
  refine CP.seqR ?_
  refine WP.alloc (T := 26) (t + 1) [encA .u8 d1, [.int .i64 x1], [.int .i64 x2], [.int .i64 x3], [.slice a1 n1 c1], [.slice a2 n2 c2]] [8, 1, 1, 1, 1, 1] (by kernel_rfl) (by simp [len_encA]) ?_
  intro g1 b1 st1 hB1
  replace hR1 := hR1.mono st1 (fun x => x)
  replace hR2 := hR2.mono st1 (fun x => x)
  replace tot := tot.trans st1.pure
  refine WP.still 1 (by kernel_rfl) ?_
  refine WP.done (by kernel_rfl) ?_
  refine NX.then_n ?_
  refine CP.seqR ?_
  refine WP.still 1 (by kernel_rfl) ?_
  refine WP.loadB (v := .int .i64 x3) hB1 (by kernel_rfl) (by kernel_rfl) ?_
  replace hs := Option.bind_eq_some_iff.1 hs
  obtain ⟨q1, hk1, hs⟩ := hs
  have hcal1 := P.tx_in g1 x3 2 q1 hk1
  refine WP.callC hcal1 (by kernel_rfl) ?_
  rintro _ g2 st2 rfl
  replace hB1 := hB1.mono st2 (fun x => x)
  replace hR1 := hR1.mono st2 (fun x => x)
  replace hR2 := hR2.mono st2 (fun x => x)
  replace tot := tot.trans st2.pure
  refine WP.still 1 (by kernel_rfl) ?_
  refine WP.done (by kernel_rfl) ?_
  refine NX.then_n ?_
  refine CP.ret ?_
  replace hs := Option.some.inj hs
  obtain rfl := hs
  exact NX.fin (v := .bool q1) (Res.still (by kernel_rfl)) tot htL rfl
def F.tx_limits_4 (d1 : Arr Int 8) (x1 : Int) (x2 : Int) (x3 : Int) (l1 : List Int) (l2 : List Int) : Option (Bool) := (some (decide ((l1.length : Int) ≤ 32768)))
theorem P.tx_limits_4 (g0 : GW) (d1 : Arr Int 8) (x1 : Int) (x2 : Int) (x3 : Int) (l1 : List Int) (l2 : List Int) (a1 : Option Addr) (n1 : Nat) (c1 : Nat) (a2 : Option Addr) (n2 : Nat) (c2 : Nat) (hR1 : RdS (Kd.int .u8) g0 5 a1 n1 c1 l1) (hR2 : RdS (Kd.int .u8) g0 5 a2 n2 c2 l2) (o1 : Bool) (hs : F.tx_limits_4 d1 x1 x2 x3 l1 l2 = some o1) :
    Calls Try.prog 67 #[AG [encA .u8 d1, [.int .i64 x1], [.int .i64 x2], [.int .i64 x3], [.slice a1 n1 c1], [.slice a2 n2 c2]]] g0.w (Ret NoM g0 fun v g => v = .bool o1) := by
  refine calls_of (args := [AG [encA .u8 d1, [.int .i64 x1], [.int .i64 x2], [.int .i64 x3], [.slice a1 n1 c1], [.slice a2 n2 c2]]]) Try.func67 rfl (0) ?_
  intro t ht htL
  refine ⟨_, rfl, ?_⟩
  refine CP.refr 7 [(0, AG [encA .u8 d1, [.int .i64 x1], [.int .i64 x2], [.int .i64 x3], [.slice a1 n1 c1], [.slice a2 n2 c2]])] (by kernel_rfl) (by kernel_rfl) ?_
  intro ds
  have tot : Step (fun l => NoM l ∨ t ≤ l) g0 g0 := Step.refl _ _
  unfold F.tx_limits_4 at hs
  refine CP.seqR ?_
  refine WP.alloc (T := 26) (t + 1) [encA .u8 d1, [.int .i64 x1], [.int .i64 x2], [.int .i64 x3], [.slice a1 n1 c1], [.slice a2 n2 c2]] [8, 1, 1, 1, 1, 1] (by kernel_rfl) (by simp [len_encA]) ?_
  intro g1 b1 st1 hB1
  replace hR1 := hR1.mono st1 (fun x => x)
  replace hR2 := hR2.mono st1 (fun x => x)
  replace tot := tot.trans st1.pure
  refine WP.still 1 (by kernel_rfl) ?_
  refine WP.done (by kernel_rfl) ?_
  refine NX.then_n ?_
  refine CP.seqR ?_
  refine WP.still 1 (by kernel_rfl) ?_
  refine WP.loadB (v := .slice a1 n1 c1) hB1 (by kernel_rfl) (by kernel_rfl) ?_
  refine WP.len (a := a1) (cp := c1) hR1.len (by kernel_rfl) ?_
  refine WP.still 2 (by kernel_rfl) ?_
  refine WP.done (by kernel_rfl) ?_
  refine NX.then_n ?_
  refine CP.ret ?_
  replace hs := Option.some.inj hs
  obtain rfl := hs
  exact NX.fin (v := .bool (decide ((l1.length : Int) ≤ 32768))) (Res.still (by kernel_rfl)) tot htL rfl
def F.tx_limits_5 (d1 : Arr Int 8) (x1 : Int) (x2 : Int) (x3 : Int) (l1 : List Int) (l2 : List Int) : Option (Bool) := (some (decide ((l2.length : Int) ≤ 1024)))
theorem P.tx_limits_5 (g0 : GW) (d1 : Arr Int 8) (x1 : Int) (x2 : Int) (x3 : Int) (l1 : List Int) (l2 : List Int) (a1 : Option Addr) (n1 : Nat) (c1 : Nat) (a2 : Option Addr) (n2 : Nat) (c2 : Nat) (hR1 : RdS (Kd.int .u8) g0 5 a1 n1 c1 l1) (hR2 : RdS (Kd.int .u8) g0 5 a2 n2 c2 l2) (o1 : Bool) (hs : F.tx_limits_5 d1 x1 x2 x3 l1 l2 = some o1) :
    Calls Try.prog 68 #[AG [encA .u8 d1, [.int .i64 x1], [.int .i64 x2], [.int .i64 x3], [.slice a1 n1 c1], [.slice a2 n2 c2]]] g0.w (Ret NoM g0 fun v g => v = .bool o1) := by
  refine calls_of (args := [AG [encA .u8 d1, [.int .i64 x1], [.int .i64 x2], [.int .i64 x3], [.slice a1 n1 c1], [.slice a2 n2 c2]]]) Try.func68 rfl (0) ?_
  intro t ht htL
  refine ⟨_, rfl, ?_⟩
  refine CP.refr 7 [(0, AG [encA .u8 d1, [.int .i64 x1], [.int .i64 x2], [.int .i64 x3], [.slice a1 n1 c1], [.slice a2 n2 c2]])] (by kernel_rfl) (by kernel_rfl) ?_
  intro ds
  have tot : Step (fun l => NoM l ∨ t ≤ l) g0 g0 := Step.refl _ _
  unfold F.tx_limits_5 at hs
  refine CP.seqR ?_
  refine WP.alloc (T := 26) (t + 1) [encA .u8 d1, [.int .i64 x1], [.int .i64 x2], [.int .i64 x3], [.slice a1 n1 c1], [.slice a2 n2 c2]] [8, 1, 1, 1, 1, 1] (by kernel_rfl) (by simp [len_encA]) ?_
  intro g1 b1 st1 hB1
  replace hR1 := hR1.mono st1 (fun x => x)
  replace hR2 := hR2.mono st1 (fun x => x)
  replace tot := tot.trans st1.pure
  refine WP.still 1 (by kernel_rfl) ?_
  refine WP.done (by kernel_rfl) ?_
  refine NX.then_n ?_
  refine CP.seqR ?_
  refine WP.still 1 (by kernel_rfl) ?_
  refine WP.loadB (v := .slice a2 n2 c2) hB1 (by kernel_rfl) (by kernel_rfl) ?_
  refine WP.len (a := a2) (cp := c2) hR2.len (by kernel_rfl) ?_
  refine WP.still 2 (by kernel_rfl) ?_
  refine WP.done (by kernel_rfl) ?_
  refine NX.then_n ?_
  refine CP.ret ?_
  replace hs := Option.some.inj hs
  obtain rfl := hs
  exact NX.fin (v := .bool (decide ((l2.length : Int) ≤ 1024))) (Res.still (by kernel_rfl)) tot htL rfl
def F.disp_1 (fno : FnNo) (d1 : Arr Int 8) (x1 : Int) (x2 : Int) (x3 : Int) (l1 : List Int) (l2 : List Int) : Option (Bool) := if fno = 63 then F.tx_limits_1 d1 x1 x2 x3 l1 l2 else if fno = 65 then F.tx_limits_2 d1 x1 x2 x3 l1 l2 else if fno = 66 then F.tx_limits_3 d1 x1 x2 x3 l1 l2 else if fno = 67 then F.tx_limits_4 d1 x1 x2 x3 l1 l2 else if fno = 68 then F.tx_limits_5 d1 x1 x2 x3 l1 l2 else none
theorem P.disp_1 (g0 : GW) (fno : FnNo) (d1 : Arr Int 8) (x1 : Int) (x2 : Int) (x3 : Int) (l1 : List Int) (l2 : List Int) (a1 : Option Addr) (n1 : Nat) (c1 : Nat) (a2 : Option Addr) (n2 : Nat) (c2 : Nat) (hR1 : RdS (Kd.int .u8) g0 5 a1 n1 c1 l1) (hR2 : RdS (Kd.int .u8) g0 5 a2 n2 c2 l2) (o1 : Bool) (hs : F.disp_1 fno d1 x1 x2 x3 l1 l2 = some o1) :
    Calls Try.prog fno #[AG [encA .u8 d1, [.int .i64 x1], [.int .i64 x2], [.int .i64 x3], [.slice a1 n1 c1], [.slice a2 n2 c2]]] g0.w (Ret NoM g0 fun v g => v = .bool o1) := by
  unfold F.disp_1 at hs
  by_cases h0 : fno = 63
  · subst h0; rw [if_pos rfl] at hs; exact P.tx_limits_1 g0 d1 x1 x2 x3 l1 l2 a1 n1 c1 a2 n2 c2 hR1 hR2 o1 hs
  rw [if_neg h0] at hs
  by_cases h1 : fno = 65
  · subst h1; rw [if_pos rfl] at hs; exact P.tx_limits_2 g0 d1 x1 x2 x3 l1 l2 a1 n1 c1 a2 n2 c2 hR1 hR2 o1 hs
  rw [if_neg h1] at hs
  by_cases h2 : fno = 66
  · subst h2; rw [if_pos rfl] at hs; exact P.tx_limits_3 g0 d1 x1 x2 x3 l1 l2 a1 n1 c1 a2 n2 c2 hR1 hR2 o1 hs
  rw [if_neg h2] at hs
  by_cases h3 : fno = 67
  · subst h3; rw [if_pos rfl] at hs; exact P.tx_limits_4 g0 d1 x1 x2 x3 l1 l2 a1 n1 c1 a2 n2 c2 hR1 hR2 o1 hs
  rw [if_neg h3] at hs
  by_cases h4 : fno = 68
  · subst h4; rw [if_pos rfl] at hs; exact P.tx_limits_5 g0 d1 x1 x2 x3 l1 l2 a1 n1 c1 a2 n2 c2 hR1 hR2 o1 hs
  rw [if_neg h4] at hs
  cases hs
theorem D.disp_1 {fno : FnNo} {d1 : Arr Int 8} {x1 : Int} {x2 : Int} {x3 : Int} {l1 : List Int} {l2 : List Int} {o1 : Bool} (hs : F.disp_1 fno d1 x1 x2 x3 l1 l2 = some o1) : fno = 63 ∨ fno = 65 ∨ fno = 66 ∨ fno = 67 ∨ fno = 68 := by
  unfold F.disp_1 at hs
  by_cases h0 : fno = 63
  · simp [h0]
  rw [if_neg h0] at hs
  by_cases h1 : fno = 65
  · simp [h1]
  rw [if_neg h1] at hs
  by_cases h2 : fno = 66
  · simp [h2]
  rw [if_neg h2] at hs
  by_cases h3 : fno = 67
  · simp [h3]
  rw [if_neg h3] at hs
  by_cases h4 : fno = 68
  · simp [h4]
  rw [if_neg h4] at hs
  cases hs
def F.tx_Tx_Check.l1 (d1 : Arr Int 8) (x1 : Int) (x2 : Int) (x3 : Int) (l1 : List Int) (l2 : List Int) (l3 : List FnNo) : Nat → Int → Option (Int)
  | 0, _ => none
  | k + 1, x6 => (if decide (x6 < (l3.length : Int)) = true then (if (0 : Int) ≤ x6 ∧ x6 < (l3.length : Int) then ((F.disp_1 (getI l3 x6) d1 x1 x2 x3 l1 l2).bind fun q3 => (if (!q3) = true then (some 2) else (F.tx_Tx_Check.l1 d1 x1 x2 x3 l1 l2 l3 k (IntKind.i64.wrap (x6 + 1))))) else none) else (if (x3 != 0) = true then (some 0) else ((F.tx_Tx_Paid d1 x1 x2 x3 l1 l2).bind fun (d4, x10, x11) => (some x11))))
def F.tx_Tx_Check (d1 : Arr Int 8) (x1 : Int) (x2 : Int) (x3 : Int) (l1 : List Int) (l2 : List Int) : Option (Int) := ((F.tx_limits).bind fun l3 => (F.tx_Tx_Check.l1 d1 x1 x2 x3 l1 l2 l3 fuel 0))
theorem P.tx_Tx_Check (g0 : GW) (d1 : Arr Int 8) (x1 : Int) (x2 : Int) (x3 : Int) (l1 : List Int) (l2 : List Int) (a1 : Option Addr) (n1 : Nat) (c1 : Nat) (a2 : Option Addr) (n2 : Nat) (c2 : Nat) (hR1 : RdS (Kd.int .u8) g0 5 a1 n1 c1 l1) (hR2 : RdS (Kd.int .u8) g0 5 a2 n2 c2 l2) (o1 : Int) (hs : F.tx_Tx_Check d1 x1 x2 x3 l1 l2 = some o1) :
    Calls Try.prog 18 #[AG [encA .u8 d1, [.int .i64 x1], [.int .i64 x2], [.int .i64 x3], [.slice a1 n1 c1], [.slice a2 n2 c2]]] g0.w (Ret NoM g0 fun v g => v = .int .i64 o1) := by
  refine calls_of (args := [AG [encA .u8 d1, [.int .i64 x1], [.int .i64 x2], [.int .i64 x3], [.slice a1 n1 c1], [.slice a2 n2 c2]]]) Try.func18 rfl (0) ?_
  intro t ht htL
  refine ⟨_, rfl, ?_⟩
  refine CP.refr 29 [(0, AG [encA .u8 d1, [.int .i64 x1], [.int .i64 x2], [.int .i64 x3], [.slice a1 n1 c1], [.slice a2 n2 c2]])] (by kernel_rfl) (by kernel_rfl) ?_
  intro ds
  have tot : Step (fun l => NoM l ∨ t ≤ l) g0 g0 := Step.refl _ _
  unfold F.tx_Tx_Check at hs
  refine CP.seqR ?_
  refine WP.alloc (T := 26) (t + 1) [encA .u8 d1, [.int .i64 x1], [.int .i64 x2], [.int .i64 x3], [.slice a1 n1 c1], [.slice a2 n2 c2]] [8, 1, 1, 1, 1, 1] (by kernel_rfl) (by simp [len_encA]) ?_
  intro g1 b1 st1 hB1
  replace hR1 := hR1.mono st1 (fun x => x)
  replace hR2 := hR2.mono st1 (fun x => x)
  replace tot := tot.trans st1.pure
  refine WP.still 1 (by kernel_rfl) ?_
  refine WP.done (by kernel_rfl) ?_
  refine NX.then_n ?_
  refine CP.seq ?_
  refine CP.seqR ?_
  replace hs := Option.bind_eq_some_iff.1 hs
  obtain ⟨l3, hk1, hs⟩ := hs
  have hcal1 := P.tx_limits g1 (t + 2) l3 hk1
  refine WP.callC hcal1 (by kernel_rfl) ?_
  rintro _ g2 st2 ⟨a3, n3, c3, rfl, hR3⟩
  replace hB1 := hB1.mono st2 (fun x => x)
  replace hR1 := hR1.mono st2 (fun x => x)
  replace hR2 := hR2.mono st2 (fun x => x)
  replace tot := tot.trans st2.pure
  refine WP.len (a := a3) (cp := c3) hR3.len (by kernel_rfl) ?_
  refine WP.still 1 (by kernel_rfl) ?_
  refine WP.done (by kernel_rfl) ?_
  refine NX.then_n ?_
  refine CP.block ?_
  generalize fuel = k1 at hs
  refine CP.loop (fun k1 tm g => ∃ (x6 : Int), Fr 29 [(1, .pointer (some ⟨b1, 0, none⟩)), (8, .slice a3 n3 c3), (9, .int .i64 (l3.length : Int)), (10, .int .i64 x6)] tm ∧ Step (fun l => NoM l ∨ t ≤ l) g0 g ∧ Box g (t + 1) b1 26 [encA .u8 d1, [.int .i64 x1], [.int .i64 x2], [.int .i64 x3], [.slice a1 n1 c1], [.slice a2 n2 c2]] [8, 1, 1, 1, 1, 1] ∧ RdS (Kd.int .u8) g 5 a1 n1 c1 l1 ∧ RdS (Kd.int .u8) g 5 a2 n2 c2 l2 ∧ OwnS Kd.fn g (t + 2) 47 a3 n3 c3 l3 ∧ F.tx_Tx_Check.l1 d1 x1 x2 x3 l1 l2 l3 k1 x6 = some o1) k1 ?_ ?_ ?_
  · exact ⟨0, ⟨by kernel_rfl, by kernel_rfl⟩, tot, hB1, hR1, hR2, hR3, hs⟩
  · rintro tm g ⟨x6, hF, tot, hB1, hR1, hR2, hR3, hs⟩
    exact absurd hs (by simp [F.tx_Tx_Check.l1])
  clear tot hs hB1 hR1 hR2 hR3
  rintro k1 tm g ⟨x6, hF, tot, hB1, hR1, hR2, hR3, hs⟩
  clear ds
  obtain ⟨ds, rfl⟩ := hF.open
  clear hF
  unfold F.tx_Tx_Check.l1 at hs
  refine CP.seqR ?_
  refine WP.still 1 (by kernel_rfl) ?_
  refine WP.done (by kernel_rfl) ?_
  refine NX.then_n ?_
  refine CP.seq ?_
  refine CP.cond (b := decide (x6 < (l3.length : Int))) (by kernel_rfl) (fun h7 => ?_) (fun h7 => ?_)
  · replace hs := of_if_t hs h7
    refine CP.skip ?_
    refine NX.then_n ?_
    refine CP.seq ?_
    refine CP.block ?_
    refine CP.seqR ?_
    by_cases hc3 : (0 : Int) ≤ x6 ∧ x6 < (l3.length : Int)
    case neg => rw [if_neg hc3] at hs; cases hs
    replace hs := of_if_p hs hc3
    obtain ⟨b6, u3, ha3⟩ := hR3.at hc3
    refine WP.indexA (t := 82) (e := 47) (sz := 1) (cap := c3) (k := .i64) (i := x6) hR3.len ha3 (by kernel_rfl) (by kernel_rfl) hc3 ?_
    obtain ⟨cs3, hcR3, hcV3⟩ := hR3.src.view (getI_some hc3) ha3
    replace hcR3 := Kd.o_fn hcR3
    refine WP.loadV [[.func (.func (getI l3 x6)) #[] #[]]] [1] hcV3 hcR3 rfl (f := 0) (ty := 47) (agg := false) (size := 1) (rs := [[.func (.func (getI l3 x6)) #[] #[]]]) (v := .func (.func (getI l3 x6)) #[] #[]) (by kernel_rfl) (by kernel_rfl) (by kernel_rfl) (by kernel_rfl) ?_
    refine WP.still 1 (by kernel_rfl) ?_
    refine WP.done (by kernel_rfl) ?_
    refine NX.then_n ?_
    refine CP.seqR ?_
    refine WP.still 1 (by kernel_rfl) ?_
    refine WP.loadB (v := AG [encA .u8 d1, [.int .i64 x1], [.int .i64 x2], [.int .i64 x3], [.slice a1 n1 c1], [.slice a2 n2 c2]]) hB1 (by kernel_rfl) (by kernel_rfl) ?_
    replace hs := Option.bind_eq_some_iff.1 hs
    obtain ⟨q3, hk6, hs⟩ := hs
    have hcal6 := P.disp_1 g (getI l3 x6) d1 x1 x2 x3 l1 l2 a1 n1 c1 a2 n2 c2 hR1 hR2 q3 hk6
    refine WP.callC hcal6 (by have hm := D.disp_1 hk6; generalize (getI l3 x6) = ff at hm ⊢; rcases hm with rfl | rfl | rfl | rfl | rfl <;> (show _ = _; kernel_rfl)) ?_
    rintro _ g11 st11 rfl
    replace hB1 := hB1.mono st11 (fun x => x)
    replace hR1 := hR1.mono st11 (fun x => x)
    replace hR2 := hR2.mono st11 (fun x => x)
    replace hR3 := hR3.mono st11 (fun x => x) (fun x => x)
    replace tot := tot.trans st11.pure
    refine WP.still 1 (by kernel_rfl) ?_
    refine WP.done (by kernel_rfl) ?_
    refine NX.then_n ?_
    refine CP.cond (b := (!q3)) (by kernel_rfl) (fun h8 => ?_) (fun h8 => ?_)
    · replace hs := of_if_t hs h8
      refine CP.seqR ?_
      refine WP.still 1 (by kernel_rfl) ?_
      refine WP.done (by kernel_rfl) ?_
      refine NX.then_n ?_
      refine CP.ret ?_
      refine NX.block_r ?_
      refine NX.then_r ?_
      refine NX.then_r ?_
      refine NX.block_r ?_
      refine NX.then_r ?_
      replace hs := Option.some.inj hs
      obtain rfl := hs
      exact NX.fin (v := .int .i64 2) (Res.still (by kernel_rfl)) tot htL rfl
    replace hs := of_if_f hs h8
    refine CP.skip ?_
    refine NX.block_n ?_
    refine NX.then_n ?_
    refine CP.region ?_
    refine WP.still 2 (by kernel_rfl) ?_
    refine WP.done (by kernel_rfl) ?_
    refine NX.post ?_
    exact ⟨(IntKind.i64.wrap (x6 + 1)), ⟨by kernel_rfl, by kernel_rfl⟩, tot, hB1, hR1, hR2, hR3, hs⟩
  replace hs := of_if_f hs h7
  refine CP.exit ?_
  refine NX.then_e ?_
  refine NX.then_e ?_
  refine NX.block_s ?_
  refine NX.then_n ?_
  refine CP.seq ?_
  refine CP.seqR ?_
  refine WP.still 1 (by kernel_rfl) ?_
  refine WP.loadB (v := .int .i64 x3) hB1 (by kernel_rfl) (by kernel_rfl) ?_
  refine WP.still 1 (by kernel_rfl) ?_
  refine WP.done (by kernel_rfl) ?_
  refine NX.then_n ?_
  refine CP.cond (b := (x3 != 0)) (by kernel_rfl) (fun h9 => ?_) (fun h9 => ?_)
  · replace hs := of_if_t hs h9
    refine CP.seqR ?_
    refine WP.still 1 (by kernel_rfl) ?_
    refine WP.done (by kernel_rfl) ?_
    refine NX.then_n ?_
    refine CP.ret ?_
    refine NX.then_r ?_
    replace hs := Option.some.inj hs
    obtain rfl := hs
    exact NX.fin (v := .int .i64 0) (Res.still (by kernel_rfl)) tot htL rfl
  replace hs := of_if_f hs h9
  refine CP.skip ?_
  refine NX.then_n ?_
  refine CP.seqR ?_
  refine WP.loadB (v := AG [encA .u8 d1, [.int .i64 x1], [.int .i64 x2], [.int .i64 x3], [.slice a1 n1 c1], [.slice a2 n2 c2]]) hB1 (by kernel_rfl) (by kernel_rfl) ?_
  replace hs := Option.bind_eq_some_iff.1 hs
  obtain ⟨⟨d4, x10, x11⟩, hk7, hs⟩ := hs
  dsimp only at hs
  have hcal7 := P.tx_Tx_Paid g d1 x1 x2 x3 l1 l2 a1 n1 c1 a2 n2 c2 hR1 hR2 d4 x10 x11 hk7
  refine WP.callC hcal7 (by kernel_rfl) ?_
  rintro _ g12 st12 rfl
  replace hB1 := hB1.mono st12 (fun x => x)
  replace hR1 := hR1.mono st12 (fun x => x)
  replace hR2 := hR2.mono st12 (fun x => x)
  replace tot := tot.trans st12.pure
  refine WP.still 4 (by kernel_rfl) ?_
  refine WP.alloc (T := 23) (t + 5) [encA .u8 (zA 8)] [8] (by kernel_rfl) (by simp [len_encA]) ?_
  intro g13 b7 st13 hB6
  replace hB1 := hB1.mono st13 (fun x => x)
  replace hR1 := hR1.mono st13 (fun x => x)
  replace hR2 := hR2.mono st13 (fun x => x)
  replace tot := tot.trans st13.pure
  refine WP.storeB (ty := 23) (off := 0) (v := AG [encA .u8 d4]) hB6 [encA .u8 d4] [8] (by kernel_rfl) (by kernel_rfl) (by simp [len_encA]) (by kernel_rfl) [encA .u8 d4] (by kernel_rfl) (.arr .nil) ?_
  intro g14 st14 hB7
  replace hB1 := hB1.mono st14 (WL.no1 (by omega))
  replace hR1 := hR1.mono st14 (WL.no1 (by omega))
  replace hR2 := hR2.mono st14 (WL.no1 (by omega))
  replace tot := tot.trans (st14.up1 (.inr (by omega)))
  clear hB6
  have hB6 := hB7
  clear hB7
  refine WP.still 2 (by kernel_rfl) ?_
  refine WP.done (by kernel_rfl) ?_
  refine NX.then_n ?_
  refine CP.refr 29 [(7, .int .i64 x11)] (by kernel_rfl) (by kernel_rfl) ?_
  clear ds
  intro ds
  refine CP.seqR ?_
  refine WP.still 2 (by kernel_rfl) ?_
  refine WP.done (by kernel_rfl) ?_
  refine NX.then_n ?_
  refine CP.ret ?_
  replace hs := Option.some.inj hs
  obtain rfl := hs
  exact NX.fin (v := .int .i64 x11) (Res.still (by kernel_rfl)) tot htL rfl
def F.octet_PutBytes (l1 : List Int) (l2 : List Int) : Option ((List Int)) := ((F.octet_PutNum l1 (IntKind.u64.wrap (l2.length : Int))).bind fun l3 => (if l3.length + l2.length ≤ 140737488355328 then (some (l3 ++ l2)) else none))
theorem P.octet_PutBytes (g0 : GW) (r0 : Nat) (l1 : List Int) (l2 : List Int) (a1 : Option Addr) (n1 : Nat) (c1 : Nat) (a2 : Option Addr) (n2 : Nat) (c2 : Nat) (hR1 : RdS (Kd.int .u8) g0 5 a1 n1 c1 l1) (hR2 : RdS (Kd.int .u8) g0 5 a2 n2 c2 l2) (o1 : List Int) (hs : F.octet_PutBytes l1 l2 = some o1) :
    Calls Try.prog 69 #[.slice a1 n1 c1, .slice a2 n2 c2] g0.w (Ret NoM g0 fun v g => ∃ (a_1 : Option Addr) (n_1 : Nat) (c_1 : Nat), v = .slice a_1 n_1 c_1 ∧ OwnS (Kd.int .u8) g r0 5 a_1 n_1 c_1 o1) := by
  refine calls_of (args := [.slice a1 n1 c1, .slice a2 n2 c2]) Try.func69 rfl (r0 + 0) ?_
  intro t ht htL
  refine ⟨_, rfl, ?_⟩
  refine CP.refr 12 [(0, .slice a1 n1 c1), (1, .slice a2 n2 c2)] (by kernel_rfl) (by kernel_rfl) ?_
  intro ds
  have tot : Step (fun l => NoM l ∨ t ≤ l) g0 g0 := Step.refl _ _
  unfold F.octet_PutBytes at hs
  refine CP.seqR ?_
  refine WP.still 1 (by kernel_rfl) ?_
  refine WP.done (by kernel_rfl) ?_
  refine NX.then_n ?_
  refine CP.seqR ?_
  refine WP.still 2 (by kernel_rfl) ?_
  refine WP.len (a := a2) (cp := c2) hR2.len (by kernel_rfl) ?_
  refine WP.still 1 (by kernel_rfl) ?_
  replace hs := Option.bind_eq_some_iff.1 hs
  obtain ⟨l3, hk1, hs⟩ := hs
  have hcal1 := P.octet_PutNum g0 (t + 1) l1 (IntKind.u64.wrap (l2.length : Int)) a1 n1 c1 hR1 l3 hk1
  refine WP.callC hcal1 (by kernel_rfl) ?_
  rintro _ g1 st1 ⟨a3, n3, c3, rfl, hR3⟩
  replace hR1 := hR1.mono st1 (fun x => x)
  replace hR2 := hR2.mono st1 (fun x => x)
  replace tot := tot.trans st1.pure
  refine WP.still 1 (by kernel_rfl) ?_
  by_cases hc1 : l3.length + l2.length ≤ 140737488355328
  case neg => rw [if_neg hc1] at hs; cases hs
  replace hs := of_if_p hs hc1
  refine WP.append (kd := (Kd.int .u8)) (t := 24) (e := 5) (bytes := 1) (a2 := a2) (c2 := c2) hR3 hR2.src hR2.len (by kernel_rfl) (by kernel_rfl) (by omega) (by simp only [maxLen]; omega) (by omega) ?_
  intro g2 a4 c4 st2 hR4
  replace hR1 := hR1.mono st2 (WL.no1 (by omega))
  replace hR2 := hR2.mono st2 (WL.no1 (by omega))
  replace tot := tot.trans (st2.up1 (.inr (by omega)))
  refine WP.still 1 (by kernel_rfl) ?_
  refine WP.done (by kernel_rfl) ?_
  refine NX.then_n ?_
  refine CP.ret ?_
  obtain ⟨g3, hw1, st3, hnew⟩ := hR4.relab (by omega) r0
  refine NX.regw hw1 ?_
  replace tot := tot.trans (st3.up1 (.inr (by omega)))
  clear hR4
  have hR4 := hnew
  clear hnew
  replace hs := Option.some.inj hs
  obtain rfl := hs
  exact NX.fin (v := .slice a4 (n3 + n2) c4) (Res.still (by kernel_rfl)) tot htL ⟨a4, (n3 + n2), c4, rfl, hR4⟩
end Go.Proofs.Ytjcmjedphijhjaa
