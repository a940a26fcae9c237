/-
  Walks, written by program: each Go function computes the plain function of its name, in whatever world its arguments' facts hold.
-/
import Derived.Test.YthfmgobnanifnaaWSu2
namespace Go.Proofs.Ythfmgobnanifnaa
open Go.RowKit Go.Lab
attribute [local irreducible] WP CP NX wpList Code.wp Calls
set_option maxRecDepth 100000
set_option maxHeartbeats 4000000
set_option linter.unusedVariables false

def N.baizelaw32_StateUnlike_0 : List (List Nat) := [[], [0], [0, 1], [], [3], [0, 1, 2, 3, 4], [], [], [7], [7, 8], [6, 7, 8, 9], [0, 1, 2], [0, 1, 2, 3, 4, 5, 11], [0, 1, 2, 3, 4, 5, 11, 12], [0, 1, 2, 3, 4, 5, 11, 12, 13], [0, 1, 2, 3, 4, 5, 6, 7, 8, 9, 10, 11, 12, 13, 14]]
def N.baizelaw32_StateUnlike_1 : List (List Nat) := [[], [0], [], [2], [], [4], [0, 1, 2, 3, 4, 5], [], [7], [], [9], [], [11], [0, 1, 2, 3, 4, 5, 6, 7, 8, 9, 10, 11, 12], [0, 1, 2, 3, 4, 5, 6, 7, 8, 9, 10, 11, 12, 13], [0, 1, 2, 3, 4, 5, 6, 7, 8, 9, 10, 11, 12, 13, 14]]
def N.baizelaw32_StateUnlike_2 : List (List Nat) := [[], [0], [], [2], [], [4], [], [6], [0, 1, 2, 3, 4, 5, 6, 7], [], [9], [], [0, 1, 2, 3, 4, 5, 6, 7, 8, 9, 10, 11], [0, 1, 2, 3, 4, 5, 6, 7, 8, 9, 10, 11, 12], [0, 1, 2, 3, 4, 5, 6, 7, 8, 9, 10, 11, 12, 13]]
def F.baizelaw32_StateUnlike.c3 (q4 : Bool) : Option (Bool) := (some q4)
def N.baizelaw32_StateUnlike_3 : List (List Nat) := [[], [0], [0, 1], [0, 1, 2], [0, 1], [0, 1, 2, 3, 4], [0, 1, 2, 3, 4, 5], [0, 1, 2, 3, 4, 5, 6], [0, 1, 2, 3, 4, 5, 6, 7], [0, 1, 2, 3, 4, 5, 6, 7, 8], [0, 1, 2, 3, 4, 5, 6, 7, 8, 9], [0, 1, 2, 3, 4, 5, 6, 7, 8, 9, 10], [0, 1, 2, 3, 4, 5, 6, 7, 8, 9, 10, 11], [0, 1, 2, 3, 4, 5, 6, 7, 8, 9, 10, 11, 12], [0, 1, 2, 3, 4, 5, 6, 7, 8, 9, 10, 11], [0, 1, 2, 3, 4, 5, 6, 7, 8, 9, 10, 11, 12, 13, 14], [0, 1, 2, 3, 4, 5, 6, 7, 8, 9, 10, 11, 12, 13, 14, 15], [0, 1, 2, 3, 4, 5, 6, 7, 8, 9, 10, 11, 12, 13, 14, 15, 16], [0, 1, 2, 3, 4, 5, 6, 7, 8, 9, 10, 11, 12, 13, 14, 15, 16, 17], [0, 1, 2, 3, 4, 5, 6, 7, 8, 9, 10, 11, 12, 13, 14, 15, 16, 17, 18]]
def F.baizelaw32_StateUnlike.c2 (d1 : Arr Int 8) (x1 : Int) (d2 : Arr Int 8) (x2 : Int) (l4 : List Int) (l5 : List Int) (l6 : List Int) (q1 : Bool) (q2 : Bool) : Option (Bool) := (if q2 = true then (some false) else ((F.baizelaw32_told).bind fun q5 => (if q5 = true then ((F.state_State_Digest d1 x1 l4).bind fun d7 => ((F.baizeref32_Of l6).bind fun d8 => (if (d7.1 == d8.1) = true then (if (!q1) = true then (F.baizelaw32_StateUnlike.c3 true) else ((F.state_State_Digest d1 x1 l4).bind fun d9 => ((F.state_State_Digest d2 x2 l5).bind fun d10 => (F.baizelaw32_StateUnlike.c3 (d9.1 == d10.1))))) else (F.baizelaw32_StateUnlike.c3 false)))) else (F.baizelaw32_StateUnlike.c3 false))))
def F.baizelaw32_StateUnlike.c1 (d1 : Arr Int 8) (x1 : Int) (d2 : Arr Int 8) (x2 : Int) (l4 : List Int) (l5 : List Int) (l6 : List Int) (l7 : List Int) (l8 : List Int) (l9 : List Int) (q1 : Bool) : Option (Bool) := (if (!(((bytesStr l6).toList == (bytesStr l7).toList) == q1)) = true then (F.baizelaw32_StateUnlike.c2 d1 x1 d2 x2 l4 l5 l6 q1 true) else (if ((bytesStr l6).toList == (bytesStr l8).toList) = true then (F.baizelaw32_StateUnlike.c2 d1 x1 d2 x2 l4 l5 l6 q1 true) else (if ((bytesStr l6).toList == (bytesStr l9).toList) = true then (F.baizelaw32_StateUnlike.c2 d1 x1 d2 x2 l4 l5 l6 q1 true) else (F.baizelaw32_StateUnlike.c2 d1 x1 d2 x2 l4 l5 l6 q1 ((bytesStr l8).toList == (bytesStr l9).toList)))))
def F.baizelaw32_StateUnlike (d1 : Arr Int 8) (x1 : Int) (l1 : List Int) (d2 : Arr Int 8) (x2 : Int) (l2 : List Int) (l3 : List Int) : Option (Bool) := ((F.baizelaw32_few l1).bind fun l4 => ((F.baizelaw32_few l2).bind fun l5 => (if (0 : Int) ≤ 0 ∧ 0 ≤ (imin (l3.length : Int) 20) ∧ (imin (l3.length : Int) 20) ≤ (l3.length : Int) then ((F.baizeref32_Bytes d1 x1 l4).bind fun l6 => ((F.baizeref32_Bytes d2 x2 l5).bind fun l7 => ((F.baizeref32_Act d2 x2 d1 l5).bind fun l8 => ((F.baizeref32_Pays d2 (sliceI l3 0 (imin (l3.length : Int) 20))).bind fun l9 => (if (d1.1 == d2.1) = true then (if (x1 == x2) = true then (F.baizelaw32_StateUnlike.c1 d1 x1 d2 x2 l4 l5 l6 l7 l8 l9 ((bytesStr l4).toList == (bytesStr l5).toList)) else (F.baizelaw32_StateUnlike.c1 d1 x1 d2 x2 l4 l5 l6 l7 l8 l9 false)) else (F.baizelaw32_StateUnlike.c1 d1 x1 d2 x2 l4 l5 l6 l7 l8 l9 false)))))) else none)))
theorem P.baizelaw32_StateUnlike (g0 : GW) (d1 : Arr Int 8) (x1 : Int) (l1 : List Int) (d2 : Arr Int 8) (x2 : Int) (l2 : List Int) (l3 : List Int) (a1 : Option Addr) (n1 : Nat) (c1 : Nat) (a2 : Option Addr) (n2 : Nat) (c2 : Nat) (a3 : Option Addr) (n3 : Nat) (c3 : Nat) (hR1 : RdS (Kd.int .u8) g0 5 a1 n1 c1 l1) (hR2 : RdS (Kd.int .u8) g0 5 a2 n2 c2 l2) (hR3 : RdS (Kd.int .i64) g0 3 a3 n3 c3 l3) (o1 : Bool) (hs : F.baizelaw32_StateUnlike d1 x1 l1 d2 x2 l2 l3 = some o1) :
  Calls Try.prog 3 #[AG [encA .u8 d1, [.int .i64 x1], [.slice a1 n1 c1]], AG [encA .u8 d2, [.int .i64 x2], [.slice a2 n2 c2]], .slice a3 n3 c3] g0.w (Ret NoM g0 fun v g => v = .bool o1) := by
 refine calls_of (args := [AG [encA .u8 d1, [.int .i64 x1], [.slice a1 n1 c1]], AG [encA .u8 d2, [.int .i64 x2], [.slice a2 n2 c2]], .slice a3 n3 c3]) Try.func3 rfl (0) ?_
 intro t ht htL
 refine ⟨_, rfl, ?_⟩
 refine CP.refr 120 [(0, AG [encA .u8 d1, [.int .i64 x1], [.slice a1 n1 c1]]), (1, AG [encA .u8 d2, [.int .i64 x2], [.slice a2 n2 c2]]), (2, .slice a3 n3 c3)] (by kernel_rfl) (by kernel_rfl) ?_
 intro ds
 have tot : Step (fun l => NoM l ∨ t ≤ l) g0 g0 := Step.refl _ _
 unfold F.baizelaw32_StateUnlike at hs
 refine CP.seqR ?_
 refine WP.alloc (T := 26) (t + 1) [encA .u8 d1, [.int .i64 x1], [.slice a1 n1 c1]] [8, 1, 1] (by kernel_rfl) (by simp [len_encA]) ?_
 intro g1 b1 st1 hB1
 replace hR1 := hR1.mono st1 (fun x => x)
 replace hR2 := hR2.mono st1 (fun x => x)
 replace hR3 := hR3.mono st1 (fun x => x)
 replace tot := tot.trans st1.pure
 refine WP.alloc (T := 26) (t + 2) [encA .u8 d2, [.int .i64 x2], [.slice a2 n2 c2]] [8, 1, 1] (by kernel_rfl) (by simp [len_encA]) ?_
 intro g2 b2 st2 hB2
 replace hR1 := hR1.mono st2 (fun x => x)
 replace hR2 := hR2.mono st2 (fun x => x)
 replace hR3 := hR3.mono st2 (fun x => x)
 replace hB1 := hB1.mono st2 (fun x => x)
 replace tot := tot.trans st2.pure
 refine WP.stl 1 ?_
 refine WP.dn ?_
 refine NX.then_n ?_
 refine CP.seq ?_
 replace hs := Option.bind_eq_some_iff.1 hs
 obtain ⟨l4, hk1, hs⟩ := hs
 replace hs := Option.bind_eq_some_iff.1 hs
 obtain ⟨l5, hk2, hs⟩ := hs
 by_cases hc1 : (0 : Int) ≤ 0 ∧ 0 ≤ (imin (l3.length : Int) 20) ∧ (imin (l3.length : Int) 20) ≤ (l3.length : Int)
 case neg => rw [if_neg hc1] at hs; cases hs
 replace hs := of_if_p hs hc1
 refine CP.drawL (by kernel_rfl) [1, 2, 4, 5, 8, 10, 12, 14] N.baizelaw32_StateUnlike_0 [⟨none, [], [], fun l g => RdS (Kd.int .i64) g 3 a3 n3 c3 l3⟩, ⟨none, [0], [], fun l g => Box g (t + 1) b1 26 [encA .u8 d1, [.int .i64 x1], [.slice a1 n1 c1]] [8, 1, 1]⟩, ⟨none, [], [], fun l g => RdS (Kd.int .u8) g 5 a1 n1 c1 l1⟩, ⟨none, [1], [], fun l g => Box g (t + 2) b2 26 [encA .u8 d2, [.int .i64 x2], [.slice a2 n2 c2]] [8, 1, 1]⟩, ⟨none, [], [], fun l g => RdS (Kd.int .u8) g 5 a2 n2 c2 l2⟩, ⟨some 0, [], [0], fun l g => l.getD 0 undef = .slice a1 n1 c1⟩, ⟨some 1, [], [1], fun l g => ∃ (a4 : Option Addr) (c4 : Nat), l.getD 0 undef = .slice a4 l4.length c4 ∧ RdS (Kd.int .u8) g 5 a4 l4.length c4 l4⟩, ⟨some 2, [], [2], fun l g => l.getD 0 undef = .slice a2 n2 c2⟩, ⟨some 3, [], [3], fun l g => ∃ (a5 : Option Addr) (c5 : Nat), l.getD 0 undef = .slice a5 l5.length c5 ∧ RdS (Kd.int .u8) g 5 a5 l5.length c5 l5⟩, ⟨some 4, [], [4], fun l g => l.getD 0 undef = .int .i64 (l3.length : Int)⟩, ⟨some 5, [], [5], fun l g => ∃ (a6 : Option Addr) (c6 : Nat), l.getD 0 undef = .slice a6 ((imin (l3.length : Int) 20).toNat - (0 : Int).toNat) c6 ∧ RdS (Kd.int .i64) g 3 a6 ((imin (l3.length : Int) 20).toNat - (0 : Int).toNat) c6 (sliceI l3 0 (imin (l3.length : Int) 20))⟩, ⟨some 6, [0], [1], fun l g => ∃ (a4 : Option Addr) (c4 : Nat), l.getD 0 undef = .slice a4 l4.length c4 ∧ RdS (Kd.int .u8) g 5 a4 l4.length c4 l4 ∧ Box g (t + 1) b1 26 [encA .u8 d1, [.int .i64 x1], [.slice a4 l4.length c4]] [8, 1, 1]⟩, ⟨some 7, [1], [3], fun l g => ∃ (a5 : Option Addr) (c5 : Nat), l.getD 0 undef = .slice a5 l5.length c5 ∧ RdS (Kd.int .u8) g 5 a5 l5.length c5 l5 ∧ Box g (t + 2) b2 26 [encA .u8 d2, [.int .i64 x2], [.slice a5 l5.length c5]] [8, 1, 1]⟩] [[], [], [], [], [], [], [0], [1]] [(t + 1), (t + 2)] [0, 3, 6, 7, 11, 13] [9, 15] (by kernel_rfl) (by simp <;> omega) (by simp <;> omega) ⟨fun _ _ _ _ st h0 hl hj hR3 => (RdS.mono (e := 3) hR3 st h0), fun _ _ _ _ st h0 hl hj hB1 => (hB1.mono st (hj 0 (by simp) _ rfl)), fun _ _ _ _ st h0 hl hj hR1 => (RdS.mono (e := 5) hR1 st h0), fun _ _ _ _ st h0 hl hj hB2 => (hB2.mono st (hj 1 (by simp) _ rfl)), fun _ _ _ _ st h0 hl hj hR2 => (RdS.mono (e := 5) hR2 st h0), fun _ _ _ _ st h0 hl hj e0 => e0, fun _ _ _ _ st h0 hl hj ⟨a4, c4, e1, hR4⟩ => ⟨a4, c4, e1, (RdS.mono (e := 5) hR4 st h0)⟩, fun _ _ _ _ st h0 hl hj e2 => e2, fun _ _ _ _ st h0 hl hj ⟨a5, c5, e3, hR5⟩ => ⟨a5, c5, e3, (RdS.mono (e := 5) hR5 st h0)⟩, fun _ _ _ _ st h0 hl hj e4 => e4, fun _ _ _ _ st h0 hl hj ⟨a6, c6, e5, hR6⟩ => ⟨a6, c6, e5, (RdS.mono (e := 3) hR6 st h0)⟩, fun _ _ _ _ st h0 hl hj ⟨a4, c4, e1, hR4, hB1⟩ => ⟨a4, c4, e1, (RdS.mono (e := 5) hR4 st h0), (hB1.mono st (hj 0 (by simp) _ rfl))⟩, fun _ _ _ _ st h0 hl hj ⟨a5, c5, e3, hR5, hB2⟩ => ⟨a5, c5, e3, (RdS.mono (e := 5) hR5 st h0), (hB2.mono st (hj 1 (by simp) _ rfl))⟩, tv⟩ ⟨hR3, hB1, hR1, hB2, hR2, tv, tv, tv, tv, tv, tv, tv, tv, tv⟩ (by kernel_rfl) (fun vs => by kernel_rfl) ?_ ?_ ?_
 ·intro j hj
  have hq : j = 0 ∨ j = 1 := by have h : j < 2 := hj; omega
  rcases hq with rfl | rfl
  ·intro vs gq stq hl hf
   obtain ⟨v0, v1, v2, v3, v4, v5, v6, v7, rfl⟩ := len_k8 hl
   have e4 := (show v4 = .int .i64 (l3.length : Int) from hf _ (memI 9 rfl) (by kernel_rfl))
   subst e4
   show Option.isSome _ = true
   kernel_rfl
  ·intro vs gq stq hl hf
   obtain ⟨v0, v1, v2, v3, v4, v5, v6, v7, rfl⟩ := len_k8 hl
   obtain ⟨a6, c6, e5, hR6⟩ := (show ∃ (a6 : Option Addr) (c6 : Nat), v5 = .slice a6 ((imin (l3.length : Int) 20).toNat - (0 : Int).toNat) c6 ∧ RdS (Kd.int .i64) gq 3 a6 ((imin (l3.length : Int) 20).toNat - (0 : Int).toNat) c6 (sliceI l3 0 (imin (l3.length : Int) 20)) from hf _ (memI 10 rfl) (by kernel_rfl))
   subst e5
   show Option.isSome _ = true
   kernel_rfl
 ·intro j hj
  have hq : j = 0 ∨ j = 1 ∨ j = 2 ∨ j = 3 ∨ j = 4 ∨ j = 5 ∨ j = 6 ∨ j = 7 := by have h : j < 8 := hj; omega
  rcases hq with rfl | rfl | rfl | rfl | rfl | rfl | rfl | rfl
  ·intro vs gq stq hl hf
   obtain ⟨v0, v1, v2, v3, v4, v5, v6, v7, rfl⟩ := len_k8 hl
   have hB1 := (show Box gq (t + 1) b1 26 [encA .u8 d1, [.int .i64 x1], [.slice a1 n1 c1]] [8, 1, 1] from hf _ (memI 1 rfl) (by kernel_rfl))
   refine WP.loadB (v := .slice a1 n1 c1) hB1 (by kernel_rfl) (by kernel_rfl) ?_
   refine WP.dn (Shown.ok (v := .slice a1 n1 c1) (by kernel_rfl) (Step.refl _ _) ?_)
   exact ⟨tv, tv, tv, tv, tv, rfl, tv, tv, tv, tv, tv, tv, tv, tv⟩
  ·intro vs gq stq hl hf
   obtain ⟨v0, v1, v2, v3, v4, v5, v6, v7, rfl⟩ := len_k8 hl
   have hR1 := (show RdS (Kd.int .u8) gq 5 a1 n1 c1 l1 from hf _ (memI 2 rfl) (by kernel_rfl))
   have e0 := (show v0 = .slice a1 n1 c1 from hf _ (memI 5 rfl) (by kernel_rfl))
   subst e0
   have hcal1 := P.baizelaw32_few gq l1 a1 n1 c1 hR1 l4 hk1
   refine WP.callC hcal1 (by kernel_rfl) ?_
   rintro _ g3 st3 ⟨a4, n4, c4, rfl, hR4⟩
   obtain rfl := hR4.len
   refine WP.dn (Shown.o (v := .slice a4 l4.length c4) st3.pure ?_)
   exact ⟨tv, tv, tv, tv, tv, tv, ⟨a4, c4, rfl, hR4⟩, tv, tv, tv, tv, tv, tv, tv⟩
  ·intro vs gq stq hl hf
   obtain ⟨v0, v1, v2, v3, v4, v5, v6, v7, rfl⟩ := len_k8 hl
   have hB2 := (show Box gq (t + 2) b2 26 [encA .u8 d2, [.int .i64 x2], [.slice a2 n2 c2]] [8, 1, 1] from hf _ (memI 3 rfl) (by kernel_rfl))
   refine WP.loadB (v := .slice a2 n2 c2) hB2 (by kernel_rfl) (by kernel_rfl) ?_
   refine WP.dn (Shown.ok (v := .slice a2 n2 c2) (by kernel_rfl) (Step.refl _ _) ?_)
   exact ⟨tv, tv, tv, tv, tv, tv, tv, rfl, tv, tv, tv, tv, tv, tv⟩
  ·intro vs gq stq hl hf
   obtain ⟨v0, v1, v2, v3, v4, v5, v6, v7, rfl⟩ := len_k8 hl
   have hR2 := (show RdS (Kd.int .u8) gq 5 a2 n2 c2 l2 from hf _ (memI 4 rfl) (by kernel_rfl))
   have e2 := (show v2 = .slice a2 n2 c2 from hf _ (memI 7 rfl) (by kernel_rfl))
   subst e2
   have hcal2 := P.baizelaw32_few gq l2 a2 n2 c2 hR2 l5 hk2
   refine WP.callC hcal2 (by kernel_rfl) ?_
   rintro _ g4 st4 ⟨a5, n5, c5, rfl, hR5⟩
   obtain rfl := hR5.len
   refine WP.dn (Shown.o (v := .slice a5 l5.length c5) st4.pure ?_)
   exact ⟨tv, tv, tv, tv, tv, tv, tv, tv, ⟨a5, c5, rfl, hR5⟩, tv, tv, tv, tv, tv⟩
  ·intro vs gq stq hl hf
   obtain ⟨v0, v1, v2, v3, v4, v5, v6, v7, rfl⟩ := len_k8 hl
   have hR3 := (show RdS (Kd.int .i64) gq 3 a3 n3 c3 l3 from hf _ (memI 0 rfl) (by kernel_rfl))
   refine WP.len (a := a3) (cp := c3) hR3.len (by kernel_rfl) ?_
   refine WP.dn (Shown.ok (v := .int .i64 (l3.length : Int)) (by kernel_rfl) (Step.refl _ _) ?_)
   exact ⟨tv, tv, tv, tv, tv, tv, tv, tv, tv, rfl, tv, tv, tv, tv⟩
  ·intro vs gq stq hl hf
   obtain ⟨v0, v1, v2, v3, v4, v5, v6, v7, rfl⟩ := len_k8 hl
   have hR3 := (show RdS (Kd.int .i64) gq 3 a3 n3 c3 l3 from hf _ (memI 0 rfl) (by kernel_rfl))
   have e4 := (show v4 = .int .i64 (l3.length : Int) from hf _ (memI 9 rfl) (by kernel_rfl))
   subst e4
   refine WP.sliceR (lo := none) (hi := some (.int .i64 (imin (l3.length : Int) 20))) hR3 0 (imin (l3.length : Int) 20) (by kernel_rfl) (.inl ⟨rfl, rfl⟩) (.inr ⟨_, rfl⟩) hc1 ?_
   intro a6 c6 hR6
   refine WP.dn (Shown.ok (v := .slice a6 ((imin (l3.length : Int) 20).toNat - (0 : Int).toNat) c6) (by kernel_rfl) (Step.refl _ _) ?_)
   exact ⟨tv, tv, tv, tv, tv, tv, tv, tv, tv, tv, ⟨a6, c6, rfl, hR6⟩, tv, tv, tv⟩
  ·intro vs gq stq hl hf
   obtain ⟨v0, v1, v2, v3, v4, v5, v6, v7, rfl⟩ := len_k8 hl
   have hB1 := (show Box gq (t + 1) b1 26 [encA .u8 d1, [.int .i64 x1], [.slice a1 n1 c1]] [8, 1, 1] from hf _ (memI 1 rfl) (by kernel_rfl))
   obtain ⟨a4, c4, e1, hR4⟩ := (show ∃ (a4 : Option Addr) (c4 : Nat), v1 = .slice a4 l4.length c4 ∧ RdS (Kd.int .u8) gq 5 a4 l4.length c4 l4 from hf _ (memI 6 rfl) (by kernel_rfl))
   subst e1
   refine WP.storeB (ty := 24) (off := 9) (v := .slice a4 l4.length c4) hB1 [[.slice a4 l4.length c4]] [1] (by kernel_rfl) (by kernel_rfl) rfl (by kernel_rfl) [encA .u8 d1, [.int .i64 x1], [.slice a4 l4.length c4]] (by kernel_rfl) (.one rfl .nil) ?_
   intro g5 st5 hB3
   refine WP.dn (Shown.o (v := undef) st5 ?_)
   exact ⟨tv, tv, tv, tv, tv, tv, tv, tv, tv, tv, tv, ⟨a4, c4, rfl, (hR4.mono st5 (WL.no (by simp <;> omega))), hB3⟩, tv, tv⟩
  ·intro vs gq stq hl hf
   obtain ⟨v0, v1, v2, v3, v4, v5, v6, v7, rfl⟩ := len_k8 hl
   have hB2 := (show Box gq (t + 2) b2 26 [encA .u8 d2, [.int .i64 x2], [.slice a2 n2 c2]] [8, 1, 1] from hf _ (memI 3 rfl) (by kernel_rfl))
   obtain ⟨a5, c5, e3, hR5⟩ := (show ∃ (a5 : Option Addr) (c5 : Nat), v3 = .slice a5 l5.length c5 ∧ RdS (Kd.int .u8) gq 5 a5 l5.length c5 l5 from hf _ (memI 8 rfl) (by kernel_rfl))
   subst e3
   refine WP.storeB (ty := 24) (off := 9) (v := .slice a5 l5.length c5) hB2 [[.slice a5 l5.length c5]] [1] (by kernel_rfl) (by kernel_rfl) rfl (by kernel_rfl) [encA .u8 d2, [.int .i64 x2], [.slice a5 l5.length c5]] (by kernel_rfl) (.one rfl .nil) ?_
   intro g6 st6 hB4
   refine WP.dn (Shown.o (v := undef) st6 ?_)
   exact ⟨tv, tv, tv, tv, tv, tv, tv, tv, tv, tv, tv, tv, ⟨a5, c5, rfl, (hR5.mono st6 (WL.no (by simp <;> omega))), hB4⟩, tv⟩
 intro vs g7 st7 hl hf
 obtain ⟨v0, v1, v2, v3, v4, v5, v6, v7, rfl⟩ := len_k8 hl
 obtain ⟨a6, c6, e5, hR6⟩ := (show ∃ (a6 : Option Addr) (c6 : Nat), v5 = .slice a6 ((imin (l3.length : Int) 20).toNat - (0 : Int).toNat) c6 ∧ RdS (Kd.int .i64) g7 3 a6 ((imin (l3.length : Int) 20).toNat - (0 : Int).toNat) c6 (sliceI l3 0 (imin (l3.length : Int) 20)) from hf _ (memI 10 rfl) (by kernel_rfl))
 subst e5
 obtain ⟨a4, c4, e1, hR4, hB1⟩ := (show ∃ (a4 : Option Addr) (c4 : Nat), v1 = .slice a4 l4.length c4 ∧ RdS (Kd.int .u8) g7 5 a4 l4.length c4 l4 ∧ Box g7 (t + 1) b1 26 [encA .u8 d1, [.int .i64 x1], [.slice a4 l4.length c4]] [8, 1, 1] from hf _ (memI 11 rfl) (by kernel_rfl))
 subst e1
 obtain ⟨a5, c5, e3, hR5, hB2⟩ := (show ∃ (a5 : Option Addr) (c5 : Nat), v3 = .slice a5 l5.length c5 ∧ RdS (Kd.int .u8) g7 5 a5 l5.length c5 l5 ∧ Box g7 (t + 2) b2 26 [encA .u8 d2, [.int .i64 x2], [.slice a5 l5.length c5]] [8, 1, 1] from hf _ (memI 12 rfl) (by kernel_rfl))
 subst e3
 replace tot := tot.trans (st7.up2 (.inr (by omega)) (.inr (by omega)))
 refine NX.then_n ?_
 refine CP.refr 120 [(2, .slice a6 ((imin (l3.length : Int) 20).toNat - (0 : Int).toNat) c6), (3, .pointer (some ⟨b1, 0, none⟩)), (4, .pointer (some ⟨b2, 0, none⟩))] (by kernel_rfl) (by kernel_rfl) ?_
 clear ds
 intro ds
 refine CP.seq ?_
 replace hs := Option.bind_eq_some_iff.1 hs
 obtain ⟨l6, hk3, hs⟩ := hs
 replace hs := Option.bind_eq_some_iff.1 hs
 obtain ⟨l7, hk4, hs⟩ := hs
 refine CP.drawL (by kernel_rfl) [1, 3, 5, 6, 8, 10, 12, 13] N.baizelaw32_StateUnlike_1 [⟨none, [], [], fun l g => Box g (t + 1) b1 26 [encA .u8 d1, [.int .i64 x1], [.slice a4 l4.length c4]] [8, 1, 1]⟩, ⟨none, [], [], fun l g => RdS (Kd.int .u8) g 5 a4 l4.length c4 l4⟩, ⟨none, [], [], fun l g => Box g (t + 2) b2 26 [encA .u8 d2, [.int .i64 x2], [.slice a5 l5.length c5]] [8, 1, 1]⟩, ⟨none, [], [], fun l g => RdS (Kd.int .u8) g 5 a5 l5.length c5 l5⟩, ⟨some 0, [], [0], fun l g => l.getD 0 undef = AG [encA .u8 d1]⟩, ⟨some 1, [], [1], fun l g => l.getD 0 undef = .int .i64 x1⟩, ⟨some 2, [], [2], fun l g => l.getD 0 undef = .slice a4 l4.length c4⟩, ⟨some 3, [], [3], fun l g => ∃ (a7 : Option Addr) (c7 : Nat), l.getD 0 undef = .slice a7 l6.length c7 ∧ OwnS (Kd.int .u8) g (t + 3) 5 a7 l6.length c7 l6⟩, ⟨some 4, [], [4], fun l g => l.getD 0 undef = AG [encA .u8 d2]⟩, ⟨some 5, [], [5], fun l g => l.getD 0 undef = .int .i64 x2⟩, ⟨some 6, [], [6], fun l g => l.getD 0 undef = .slice a5 l5.length c5⟩, ⟨some 7, [], [7], fun l g => ∃ (a8 : Option Addr) (c8 : Nat), l.getD 0 undef = .slice a8 l7.length c8 ∧ OwnS (Kd.int .u8) g (t + 4) 5 a8 l7.length c8 l7⟩] [[], [], [], [], [], [], [], []] [] [0, 2, 4, 7, 9, 11] [14, 15] (by kernel_rfl) (by simp) (by simp) ⟨fun _ _ _ _ st h0 hl hj hB1 => (hB1.mono st (fun h => absurd (hl _ h) (by simp))), fun _ _ _ _ st h0 hl hj hR4 => (RdS.mono (e := 5) hR4 st h0), fun _ _ _ _ st h0 hl hj hB2 => (hB2.mono st (fun h => absurd (hl _ h) (by simp))), fun _ _ _ _ st h0 hl hj hR5 => (RdS.mono (e := 5) hR5 st h0), fun _ _ _ _ st h0 hl hj e0 => e0, fun _ _ _ _ st h0 hl hj e1 => e1, fun _ _ _ _ st h0 hl hj e2 => e2, fun _ _ _ _ st h0 hl hj ⟨a7, c7, e3, hR7⟩ => ⟨a7, c7, e3, (hR7.mono st h0 (fun h => absurd (hl _ h) (by simp)))⟩, fun _ _ _ _ st h0 hl hj e4 => e4, fun _ _ _ _ st h0 hl hj e5 => e5, fun _ _ _ _ st h0 hl hj e6 => e6, fun _ _ _ _ st h0 hl hj ⟨a8, c8, e7, hR8⟩ => ⟨a8, c8, e7, (hR8.mono st h0 (fun h => absurd (hl _ h) (by simp)))⟩, tv⟩ ⟨hB1, hR4, hB2, hR5, tv, tv, tv, tv, tv, tv, tv, tv, tv⟩ (by kernel_rfl) (fun vs => by kernel_rfl) ?_ ?_ ?_
 ·intro j hj
  have hq : j = 0 ∨ j = 1 := by have h : j < 2 := hj; omega
  rcases hq with rfl | rfl
  ·intro vs gq stq hl hf
   obtain ⟨v0, v1, v2, v3, v4, v5, v6, v7, rfl⟩ := len_k8 hl
   obtain ⟨a7, c7, e3, hR7⟩ := (show ∃ (a7 : Option Addr) (c7 : Nat), v3 = .slice a7 l6.length c7 ∧ OwnS (Kd.int .u8) gq (t + 3) 5 a7 l6.length c7 l6 from hf _ (memI 7 rfl) (by kernel_rfl))
   subst e3
   show Option.isSome _ = true
   kernel_rfl
  ·intro vs gq stq hl hf
   obtain ⟨v0, v1, v2, v3, v4, v5, v6, v7, rfl⟩ := len_k8 hl
   obtain ⟨a8, c8, e7, hR8⟩ := (show ∃ (a8 : Option Addr) (c8 : Nat), v7 = .slice a8 l7.length c8 ∧ OwnS (Kd.int .u8) gq (t + 4) 5 a8 l7.length c8 l7 from hf _ (memI 11 rfl) (by kernel_rfl))
   subst e7
   show Option.isSome _ = true
   kernel_rfl
 ·intro j hj
  have hq : j = 0 ∨ j = 1 ∨ j = 2 ∨ j = 3 ∨ j = 4 ∨ j = 5 ∨ j = 6 ∨ j = 7 := by have h : j < 8 := hj; omega
  rcases hq with rfl | rfl | rfl | rfl | rfl | rfl | rfl | rfl
  ·intro vs gq stq hl hf
   obtain ⟨v0, v1, v2, v3, v4, v5, v6, v7, rfl⟩ := len_k8 hl
   have hB1 := (show Box gq (t + 1) b1 26 [encA .u8 d1, [.int .i64 x1], [.slice a4 l4.length c4]] [8, 1, 1] from hf _ (memI 0 rfl) (by kernel_rfl))
   refine WP.loadB (v := AG [encA .u8 d1]) hB1 (by kernel_rfl) (by kernel_rfl) ?_
   refine WP.dn (Shown.ok (v := AG [encA .u8 d1]) (by kernel_rfl) (Step.refl _ _) ?_)
   exact ⟨tv, tv, tv, tv, rfl, tv, tv, tv, tv, tv, tv, tv, tv⟩
  ·intro vs gq stq hl hf
   obtain ⟨v0, v1, v2, v3, v4, v5, v6, v7, rfl⟩ := len_k8 hl
   have hB1 := (show Box gq (t + 1) b1 26 [encA .u8 d1, [.int .i64 x1], [.slice a4 l4.length c4]] [8, 1, 1] from hf _ (memI 0 rfl) (by kernel_rfl))
   refine WP.loadB (v := .int .i64 x1) hB1 (by kernel_rfl) (by kernel_rfl) ?_
   refine WP.dn (Shown.ok (v := .int .i64 x1) (by kernel_rfl) (Step.refl _ _) ?_)
   exact ⟨tv, tv, tv, tv, tv, rfl, tv, tv, tv, tv, tv, tv, tv⟩
  ·intro vs gq stq hl hf
   obtain ⟨v0, v1, v2, v3, v4, v5, v6, v7, rfl⟩ := len_k8 hl
   have hB1 := (show Box gq (t + 1) b1 26 [encA .u8 d1, [.int .i64 x1], [.slice a4 l4.length c4]] [8, 1, 1] from hf _ (memI 0 rfl) (by kernel_rfl))
   refine WP.loadB (v := .slice a4 l4.length c4) hB1 (by kernel_rfl) (by kernel_rfl) ?_
   refine WP.dn (Shown.ok (v := .slice a4 l4.length c4) (by kernel_rfl) (Step.refl _ _) ?_)
   exact ⟨tv, tv, tv, tv, tv, tv, rfl, tv, tv, tv, tv, tv, tv⟩
  ·intro vs gq stq hl hf
   obtain ⟨v0, v1, v2, v3, v4, v5, v6, v7, rfl⟩ := len_k8 hl
   have hR4 := (show RdS (Kd.int .u8) gq 5 a4 l4.length c4 l4 from hf _ (memI 1 rfl) (by kernel_rfl))
   have e0 := (show v0 = AG [encA .u8 d1] from hf _ (memI 4 rfl) (by kernel_rfl))
   subst e0
   have e1 := (show v1 = .int .i64 x1 from hf _ (memI 5 rfl) (by kernel_rfl))
   subst e1
   have e2 := (show v2 = .slice a4 l4.length c4 from hf _ (memI 6 rfl) (by kernel_rfl))
   subst e2
   have hcal3 := P.baizeref32_Bytes gq (t + 3) d1 x1 l4 a4 l4.length c4 hR4 l6 hk3
   refine WP.callC hcal3 (by kernel_rfl) ?_
   rintro _ g8 st8 ⟨a7, n6, c7, rfl, hR7⟩
   obtain rfl := hR7.len
   refine WP.dn (Shown.o (v := .slice a7 l6.length c7) st8.pure ?_)
   exact ⟨tv, tv, tv, tv, tv, tv, tv, ⟨a7, c7, rfl, hR7⟩, tv, tv, tv, tv, tv⟩
  ·intro vs gq stq hl hf
   obtain ⟨v0, v1, v2, v3, v4, v5, v6, v7, rfl⟩ := len_k8 hl
   have hB2 := (show Box gq (t + 2) b2 26 [encA .u8 d2, [.int .i64 x2], [.slice a5 l5.length c5]] [8, 1, 1] from hf _ (memI 2 rfl) (by kernel_rfl))
   refine WP.loadB (v := AG [encA .u8 d2]) hB2 (by kernel_rfl) (by kernel_rfl) ?_
   refine WP.dn (Shown.ok (v := AG [encA .u8 d2]) (by kernel_rfl) (Step.refl _ _) ?_)
   exact ⟨tv, tv, tv, tv, tv, tv, tv, tv, rfl, tv, tv, tv, tv⟩
  ·intro vs gq stq hl hf
   obtain ⟨v0, v1, v2, v3, v4, v5, v6, v7, rfl⟩ := len_k8 hl
   have hB2 := (show Box gq (t + 2) b2 26 [encA .u8 d2, [.int .i64 x2], [.slice a5 l5.length c5]] [8, 1, 1] from hf _ (memI 2 rfl) (by kernel_rfl))
   refine WP.loadB (v := .int .i64 x2) hB2 (by kernel_rfl) (by kernel_rfl) ?_
   refine WP.dn (Shown.ok (v := .int .i64 x2) (by kernel_rfl) (Step.refl _ _) ?_)
   exact ⟨tv, tv, tv, tv, tv, tv, tv, tv, tv, rfl, tv, tv, tv⟩
  ·intro vs gq stq hl hf
   obtain ⟨v0, v1, v2, v3, v4, v5, v6, v7, rfl⟩ := len_k8 hl
   have hB2 := (show Box gq (t + 2) b2 26 [encA .u8 d2, [.int .i64 x2], [.slice a5 l5.length c5]] [8, 1, 1] from hf _ (memI 2 rfl) (by kernel_rfl))
   refine WP.loadB (v := .slice a5 l5.length c5) hB2 (by kernel_rfl) (by kernel_rfl) ?_
   refine WP.dn (Shown.ok (v := .slice a5 l5.length c5) (by kernel_rfl) (Step.refl _ _) ?_)
   exact ⟨tv, tv, tv, tv, tv, tv, tv, tv, tv, tv, rfl, tv, tv⟩
  ·intro vs gq stq hl hf
   obtain ⟨v0, v1, v2, v3, v4, v5, v6, v7, rfl⟩ := len_k8 hl
   have hR5 := (show RdS (Kd.int .u8) gq 5 a5 l5.length c5 l5 from hf _ (memI 3 rfl) (by kernel_rfl))
   have e4 := (show v4 = AG [encA .u8 d2] from hf _ (memI 8 rfl) (by kernel_rfl))
   subst e4
   have e5 := (show v5 = .int .i64 x2 from hf _ (memI 9 rfl) (by kernel_rfl))
   subst e5
   have e6 := (show v6 = .slice a5 l5.length c5 from hf _ (memI 10 rfl) (by kernel_rfl))
   subst e6
   have hcal4 := P.baizeref32_Bytes gq (t + 4) d2 x2 l5 a5 l5.length c5 hR5 l7 hk4
   refine WP.callC hcal4 (by kernel_rfl) ?_
   rintro _ g9 st9 ⟨a8, n7, c8, rfl, hR8⟩
   obtain rfl := hR8.len
   refine WP.dn (Shown.o (v := .slice a8 l7.length c8) st9.pure ?_)
   exact ⟨tv, tv, tv, tv, tv, tv, tv, tv, tv, tv, tv, ⟨a8, c8, rfl, hR8⟩, tv⟩
 intro vs g10 st10 hl hf
 obtain ⟨v0, v1, v2, v3, v4, v5, v6, v7, rfl⟩ := len_k8 hl
 obtain ⟨a7, c7, e3, hR7⟩ := (show ∃ (a7 : Option Addr) (c7 : Nat), v3 = .slice a7 l6.length c7 ∧ OwnS (Kd.int .u8) g10 (t + 3) 5 a7 l6.length c7 l6 from hf _ (memI 7 rfl) (by kernel_rfl))
 subst e3
 obtain ⟨a8, c8, e7, hR8⟩ := (show ∃ (a8 : Option Addr) (c8 : Nat), v7 = .slice a8 l7.length c8 ∧ OwnS (Kd.int .u8) g10 (t + 4) 5 a8 l7.length c8 l7 from hf _ (memI 11 rfl) (by kernel_rfl))
 subst e7
 replace hR6 := hR6.mono st10.toNo (fun x => x)
 replace hB1 := hB1.mono st10.toNo (fun x => x)
 replace hR4 := hR4.mono st10.toNo (fun x => x)
 replace hB2 := hB2.mono st10.toNo (fun x => x)
 replace hR5 := hR5.mono st10.toNo (fun x => x)
 replace tot := tot.trans st10.toNo.pure
 refine NX.then_n ?_
 refine CP.refr 120 [(2, .slice a6 ((imin (l3.length : Int) 20).toNat - (0 : Int).toNat) c6), (3, .pointer (some ⟨b1, 0, none⟩)), (4, .pointer (some ⟨b2, 0, none⟩)), (7, .slice a7 l6.length c7), (8, .slice a8 l7.length c8)] (by kernel_rfl) (by kernel_rfl) ?_
 clear ds
 intro ds
 refine CP.seq ?_
 replace hs := Option.bind_eq_some_iff.1 hs
 obtain ⟨l8, hk5, hs⟩ := hs
 replace hs := Option.bind_eq_some_iff.1 hs
 obtain ⟨l9, hk6, hs⟩ := hs
 refine CP.drawL (by kernel_rfl) [1, 3, 5, 7, 8, 10, 12] N.baizelaw32_StateUnlike_2 [⟨none, [], [], fun l g => RdS (Kd.int .i64) g 3 a6 ((imin (l3.length : Int) 20).toNat - (0 : Int).toNat) c6 (sliceI l3 0 (imin (l3.length : Int) 20))⟩, ⟨none, [], [], fun l g => Box g (t + 1) b1 26 [encA .u8 d1, [.int .i64 x1], [.slice a4 l4.length c4]] [8, 1, 1]⟩, ⟨none, [], [], fun l g => Box g (t + 2) b2 26 [encA .u8 d2, [.int .i64 x2], [.slice a5 l5.length c5]] [8, 1, 1]⟩, ⟨none, [], [], fun l g => RdS (Kd.int .u8) g 5 a5 l5.length c5 l5⟩, ⟨some 0, [], [0], fun l g => l.getD 0 undef = AG [encA .u8 d2]⟩, ⟨some 1, [], [1], fun l g => l.getD 0 undef = .int .i64 x2⟩, ⟨some 2, [], [2], fun l g => l.getD 0 undef = AG [encA .u8 d1]⟩, ⟨some 3, [], [3], fun l g => l.getD 0 undef = .slice a5 l5.length c5⟩, ⟨some 4, [], [4], fun l g => ∃ (a9 : Option Addr) (c9 : Nat), l.getD 0 undef = .slice a9 l8.length c9 ∧ OwnS (Kd.int .u8) g (t + 5) 5 a9 l8.length c9 l8⟩, ⟨some 5, [], [5], fun l g => l.getD 0 undef = AG [encA .u8 d2]⟩, ⟨some 6, [], [6], fun l g => ∃ (a10 : Option Addr) (c10 : Nat), l.getD 0 undef = .slice a10 l9.length c10 ∧ OwnS (Kd.int .u8) g (t + 6) 5 a10 l9.length c10 l9⟩] [[], [], [], [], [], [], []] [] [0, 2, 4, 6, 9, 11] [13, 14] (by kernel_rfl) (by simp) (by simp) ⟨fun _ _ _ _ st h0 hl hj hR6 => (RdS.mono (e := 3) hR6 st h0), fun _ _ _ _ st h0 hl hj hB1 => (hB1.mono st (fun h => absurd (hl _ h) (by simp))), fun _ _ _ _ st h0 hl hj hB2 => (hB2.mono st (fun h => absurd (hl _ h) (by simp))), fun _ _ _ _ st h0 hl hj hR5 => (RdS.mono (e := 5) hR5 st h0), fun _ _ _ _ st h0 hl hj e0 => e0, fun _ _ _ _ st h0 hl hj e1 => e1, fun _ _ _ _ st h0 hl hj e2 => e2, fun _ _ _ _ st h0 hl hj e3 => e3, fun _ _ _ _ st h0 hl hj ⟨a9, c9, e4, hR9⟩ => ⟨a9, c9, e4, (hR9.mono st h0 (fun h => absurd (hl _ h) (by simp)))⟩, fun _ _ _ _ st h0 hl hj e5 => e5, fun _ _ _ _ st h0 hl hj ⟨a10, c10, e6, hR10⟩ => ⟨a10, c10, e6, (hR10.mono st h0 (fun h => absurd (hl _ h) (by simp)))⟩, tv⟩ ⟨hR6, hB1, hB2, hR5, tv, tv, tv, tv, tv, tv, tv, tv⟩ (by kernel_rfl) (fun vs => by kernel_rfl) ?_ ?_ ?_
 ·intro j hj
  have hq : j = 0 ∨ j = 1 := by have h : j < 2 := hj; omega
  rcases hq with rfl | rfl
  ·intro vs gq stq hl hf
   obtain ⟨v0, v1, v2, v3, v4, v5, v6, rfl⟩ := len_k7 hl
   obtain ⟨a9, c9, e4, hR9⟩ := (show ∃ (a9 : Option Addr) (c9 : Nat), v4 = .slice a9 l8.length c9 ∧ OwnS (Kd.int .u8) gq (t + 5) 5 a9 l8.length c9 l8 from hf _ (memI 8 rfl) (by kernel_rfl))
   subst e4
   show Option.isSome _ = true
   kernel_rfl
  ·intro vs gq stq hl hf
   obtain ⟨v0, v1, v2, v3, v4, v5, v6, rfl⟩ := len_k7 hl
   obtain ⟨a10, c10, e6, hR10⟩ := (show ∃ (a10 : Option Addr) (c10 : Nat), v6 = .slice a10 l9.length c10 ∧ OwnS (Kd.int .u8) gq (t + 6) 5 a10 l9.length c10 l9 from hf _ (memI 10 rfl) (by kernel_rfl))
   subst e6
   show Option.isSome _ = true
   kernel_rfl
 ·intro j hj
  have hq : j = 0 ∨ j = 1 ∨ j = 2 ∨ j = 3 ∨ j = 4 ∨ j = 5 ∨ j = 6 := by have h : j < 7 := hj; omega
  rcases hq with rfl | rfl | rfl | rfl | rfl | rfl | rfl
  ·intro vs gq stq hl hf
   obtain ⟨v0, v1, v2, v3, v4, v5, v6, rfl⟩ := len_k7 hl
   have hB2 := (show Box gq (t + 2) b2 26 [encA .u8 d2, [.int .i64 x2], [.slice a5 l5.length c5]] [8, 1, 1] from hf _ (memI 2 rfl) (by kernel_rfl))
   refine WP.loadB (v := AG [encA .u8 d2]) hB2 (by kernel_rfl) (by kernel_rfl) ?_
   refine WP.dn (Shown.ok (v := AG [encA .u8 d2]) (by kernel_rfl) (Step.refl _ _) ?_)
   exact ⟨tv, tv, tv, tv, rfl, tv, tv, tv, tv, tv, tv, tv⟩
  ·intro vs gq stq hl hf
   obtain ⟨v0, v1, v2, v3, v4, v5, v6, rfl⟩ := len_k7 hl
   have hB2 := (show Box gq (t + 2) b2 26 [encA .u8 d2, [.int .i64 x2], [.slice a5 l5.length c5]] [8, 1, 1] from hf _ (memI 2 rfl) (by kernel_rfl))
   refine WP.loadB (v := .int .i64 x2) hB2 (by kernel_rfl) (by kernel_rfl) ?_
   refine WP.dn (Shown.ok (v := .int .i64 x2) (by kernel_rfl) (Step.refl _ _) ?_)
   exact ⟨tv, tv, tv, tv, tv, rfl, tv, tv, tv, tv, tv, tv⟩
  ·intro vs gq stq hl hf
   obtain ⟨v0, v1, v2, v3, v4, v5, v6, rfl⟩ := len_k7 hl
   have hB1 := (show Box gq (t + 1) b1 26 [encA .u8 d1, [.int .i64 x1], [.slice a4 l4.length c4]] [8, 1, 1] from hf _ (memI 1 rfl) (by kernel_rfl))
   refine WP.loadB (v := AG [encA .u8 d1]) hB1 (by kernel_rfl) (by kernel_rfl) ?_
   refine WP.dn (Shown.ok (v := AG [encA .u8 d1]) (by kernel_rfl) (Step.refl _ _) ?_)
   exact ⟨tv, tv, tv, tv, tv, tv, rfl, tv, tv, tv, tv, tv⟩
  ·intro vs gq stq hl hf
   obtain ⟨v0, v1, v2, v3, v4, v5, v6, rfl⟩ := len_k7 hl
   have hB2 := (show Box gq (t + 2) b2 26 [encA .u8 d2, [.int .i64 x2], [.slice a5 l5.length c5]] [8, 1, 1] from hf _ (memI 2 rfl) (by kernel_rfl))
   refine WP.loadB (v := .slice a5 l5.length c5) hB2 (by kernel_rfl) (by kernel_rfl) ?_
   refine WP.dn (Shown.ok (v := .slice a5 l5.length c5) (by kernel_rfl) (Step.refl _ _) ?_)
   exact ⟨tv, tv, tv, tv, tv, tv, tv, rfl, tv, tv, tv, tv⟩
  ·intro vs gq stq hl hf
   obtain ⟨v0, v1, v2, v3, v4, v5, v6, rfl⟩ := len_k7 hl
   have hR5 := (show RdS (Kd.int .u8) gq 5 a5 l5.length c5 l5 from hf _ (memI 3 rfl) (by kernel_rfl))
   have e0 := (show v0 = AG [encA .u8 d2] from hf _ (memI 4 rfl) (by kernel_rfl))
   subst e0
   have e1 := (show v1 = .int .i64 x2 from hf _ (memI 5 rfl) (by kernel_rfl))
   subst e1
   have e2 := (show v2 = AG [encA .u8 d1] from hf _ (memI 6 rfl) (by kernel_rfl))
   subst e2
   have e3 := (show v3 = .slice a5 l5.length c5 from hf _ (memI 7 rfl) (by kernel_rfl))
   subst e3
   have hcal5 := P.baizeref32_Act gq (t + 5) d2 x2 d1 l5 a5 l5.length c5 hR5 l8 hk5
   refine WP.callC hcal5 (by kernel_rfl) ?_
   rintro _ g11 st11 ⟨a9, n8, c9, rfl, hR9⟩
   obtain rfl := hR9.len
   refine WP.dn (Shown.o (v := .slice a9 l8.length c9) st11.pure ?_)
   exact ⟨tv, tv, tv, tv, tv, tv, tv, tv, ⟨a9, c9, rfl, hR9⟩, tv, tv, tv⟩
  ·intro vs gq stq hl hf
   obtain ⟨v0, v1, v2, v3, v4, v5, v6, rfl⟩ := len_k7 hl
   have hB2 := (show Box gq (t + 2) b2 26 [encA .u8 d2, [.int .i64 x2], [.slice a5 l5.length c5]] [8, 1, 1] from hf _ (memI 2 rfl) (by kernel_rfl))
   refine WP.loadB (v := AG [encA .u8 d2]) hB2 (by kernel_rfl) (by kernel_rfl) ?_
   refine WP.dn (Shown.ok (v := AG [encA .u8 d2]) (by kernel_rfl) (Step.refl _ _) ?_)
   exact ⟨tv, tv, tv, tv, tv, tv, tv, tv, tv, rfl, tv, tv⟩
  ·intro vs gq stq hl hf
   obtain ⟨v0, v1, v2, v3, v4, v5, v6, rfl⟩ := len_k7 hl
   have hR6 := (show RdS (Kd.int .i64) gq 3 a6 ((imin (l3.length : Int) 20).toNat - (0 : Int).toNat) c6 (sliceI l3 0 (imin (l3.length : Int) 20)) from hf _ (memI 0 rfl) (by kernel_rfl))
   have e5 := (show v5 = AG [encA .u8 d2] from hf _ (memI 9 rfl) (by kernel_rfl))
   subst e5
   have hcal6 := P.baizeref32_Pays gq (t + 6) d2 (sliceI l3 0 (imin (l3.length : Int) 20)) a6 ((imin (l3.length : Int) 20).toNat - (0 : Int).toNat) c6 hR6 l9 hk6
   refine WP.callC hcal6 (by kernel_rfl) ?_
   rintro _ g12 st12 ⟨a10, n9, c10, rfl, hR10⟩
   obtain rfl := hR10.len
   refine WP.dn (Shown.o (v := .slice a10 l9.length c10) st12.pure ?_)
   exact ⟨tv, tv, tv, tv, tv, tv, tv, tv, tv, tv, ⟨a10, c10, rfl, hR10⟩, tv⟩
 intro vs g13 st13 hl hf
 obtain ⟨v0, v1, v2, v3, v4, v5, v6, rfl⟩ := len_k7 hl
 obtain ⟨a9, c9, e4, hR9⟩ := (show ∃ (a9 : Option Addr) (c9 : Nat), v4 = .slice a9 l8.length c9 ∧ OwnS (Kd.int .u8) g13 (t + 5) 5 a9 l8.length c9 l8 from hf _ (memI 8 rfl) (by kernel_rfl))
 subst e4
 obtain ⟨a10, c10, e6, hR10⟩ := (show ∃ (a10 : Option Addr) (c10 : Nat), v6 = .slice a10 l9.length c10 ∧ OwnS (Kd.int .u8) g13 (t + 6) 5 a10 l9.length c10 l9 from hf _ (memI 10 rfl) (by kernel_rfl))
 subst e6
 replace hB1 := hB1.mono st13.toNo (fun x => x)
 replace hR4 := hR4.mono st13.toNo (fun x => x)
 replace hB2 := hB2.mono st13.toNo (fun x => x)
 replace hR5 := hR5.mono st13.toNo (fun x => x)
 replace hR7 := hR7.mono st13.toNo (fun x => x) (fun x => x)
 replace hR8 := hR8.mono st13.toNo (fun x => x) (fun x => x)
 replace tot := tot.trans st13.toNo.pure
 refine NX.then_n ?_
 refine CP.refr 120 [(3, .pointer (some ⟨b1, 0, none⟩)), (4, .pointer (some ⟨b2, 0, none⟩)), (7, .slice a7 l6.length c7), (8, .slice a8 l7.length c8), (9, .slice a9 l8.length c9), (10, .slice a10 l9.length c10)] (by kernel_rfl) (by kernel_rfl) ?_
 clear ds
 intro ds
 refine CP.cut (fun tm g => ∃ (q1 : Bool), Fr 120 [(3, .pointer (some ⟨b1, 0, none⟩)), (4, .pointer (some ⟨b2, 0, none⟩)), (7, .slice a7 l6.length c7), (8, .slice a8 l7.length c8), (9, .slice a9 l8.length c9), (10, .slice a10 l9.length c10), (11, .bool q1)] tm ∧ Step (fun l => NoM l ∨ t ≤ l) g0 g ∧ Box g (t + 1) b1 26 [encA .u8 d1, [.int .i64 x1], [.slice a4 l4.length c4]] [8, 1, 1] ∧ RdS (Kd.int .u8) g 5 a4 l4.length c4 l4 ∧ Box g (t + 2) b2 26 [encA .u8 d2, [.int .i64 x2], [.slice a5 l5.length c5]] [8, 1, 1] ∧ RdS (Kd.int .u8) g 5 a5 l5.length c5 l5 ∧ OwnS (Kd.int .u8) g (t + 3) 5 a7 l6.length c7 l6 ∧ OwnS (Kd.int .u8) g (t + 4) 5 a8 l7.length c8 l7 ∧ OwnS (Kd.int .u8) g (t + 5) 5 a9 l8.length c9 l8 ∧ OwnS (Kd.int .u8) g (t + 6) 5 a10 l9.length c10 l9 ∧ (F.baizelaw32_StateUnlike.c1 d1 x1 d2 x2 l4 l5 l6 l7 l8 l9 q1) = some o1) ?_ ?_
 ·refine CP.region ?_
  refine WP.stl 1 ?_
  refine WP.loadB (v := AG [encA .u8 d1]) hB1 (by kernel_rfl) (by kernel_rfl) ?_
  refine WP.stl 1 ?_
  refine WP.loadB (v := AG [encA .u8 d2]) hB2 (by kernel_rfl) (by kernel_rfl) ?_
  refine WP.eqV (by kernel_rfl) (by kernel_rfl) (EqV.arr (d := 9998) (t := 23) (e := 5) (m := 8) (k := .u8) (x := d1) (y := d2) (by kernel_rfl) (by kernel_rfl)) ?_
  refine WP.stl 1 ?_
  refine WP.guard 57 (b := (d1.1 == d2.1)) (by kernel_rfl) (fun h16 => ?_) (fun h16 => ?_)
  ·replace hs := of_if_t hs h16
   refine WP.stl 1 ?_
   refine WP.loadB (v := .int .i64 x1) hB1 (by kernel_rfl) (by kernel_rfl) ?_
   refine WP.stl 1 ?_
   refine WP.loadB (v := .int .i64 x2) hB2 (by kernel_rfl) (by kernel_rfl) ?_
   refine WP.stl 3 ?_
   refine WP.guard 64 (b := (x1 == x2)) (by kernel_rfl) (fun h17 => ?_) (fun h17 => ?_)
   ·replace hs := of_if_t hs h17
    refine WP.stl 1 ?_
    refine WP.loadB (v := .slice a4 l4.length c4) hB1 (by kernel_rfl) (by kernel_rfl) ?_
    refine WP.toStr (a := a4) (cp := c4) hR4.src hR4.len (by kernel_rfl) ?_
    refine WP.stl 1 ?_
    refine WP.loadB (v := .slice a5 l5.length c5) hB2 (by kernel_rfl) (by kernel_rfl) ?_
    refine WP.toStr (a := a5) (cp := c5) hR5.src hR5.len (by kernel_rfl) ?_
    refine WP.stl 3 ?_
    refine WP.dn ?_
    refine NX.post ?_
    exact ⟨((bytesStr l4).toList == (bytesStr l5).toList), ⟨by kernel_rfl, by kernel_rfl⟩, tot, hB1, hR4, hB2, hR5, hR7, hR8, hR9, hR10, hs⟩
   replace hs := of_if_f hs h17
   refine WP.stl 9 ?_
   refine WP.dn ?_
   refine NX.post ?_
   exact ⟨false, ⟨by kernel_rfl, by kernel_rfl⟩, tot, hB1, hR4, hB2, hR5, hR7, hR8, hR9, hR10, hs⟩
  replace hs := of_if_f hs h16
  refine WP.stl 16 ?_
  refine WP.dn ?_
  refine NX.post ?_
  exact ⟨false, ⟨by kernel_rfl, by kernel_rfl⟩, tot, hB1, hR4, hB2, hR5, hR7, hR8, hR9, hR10, hs⟩
 clear tot hs hB1 hR4 hB2 hR5 hR7 hR8 hR9 hR10
 rintro tm g ⟨q1, hF, tot, hB1, hR4, hB2, hR5, hR7, hR8, hR9, hR10, hs⟩
 clear ds
 obtain ⟨ds, rfl⟩ := hF.open
 clear hF
 unfold F.baizelaw32_StateUnlike.c1 at hs
 refine CP.seq ?_
 refine CP.cut (fun tm g => ∃ (q2 : Bool), Fr 120 [(3, .pointer (some ⟨b1, 0, none⟩)), (4, .pointer (some ⟨b2, 0, none⟩)), (7, .slice a7 l6.length c7), (11, .bool q1), (100, .bool q2)] tm ∧ Step (fun l => NoM l ∨ t ≤ l) g0 g ∧ Box g (t + 1) b1 26 [encA .u8 d1, [.int .i64 x1], [.slice a4 l4.length c4]] [8, 1, 1] ∧ RdS (Kd.int .u8) g 5 a4 l4.length c4 l4 ∧ Box g (t + 2) b2 26 [encA .u8 d2, [.int .i64 x2], [.slice a5 l5.length c5]] [8, 1, 1] ∧ RdS (Kd.int .u8) g 5 a5 l5.length c5 l5 ∧ OwnS (Kd.int .u8) g (t + 3) 5 a7 l6.length c7 l6 ∧ (F.baizelaw32_StateUnlike.c2 d1 x1 d2 x2 l4 l5 l6 q1 q2) = some o1) ?_ ?_
 ·refine CP.region ?_
  refine WP.stl 1 ?_
  refine WP.toStr (a := a7) (cp := c7) hR7.src hR7.len (by kernel_rfl) ?_
  refine WP.stl 1 ?_
  refine WP.toStr (a := a8) (cp := c8) hR8.src hR8.len (by kernel_rfl) ?_
  refine WP.stl 4 ?_
  refine WP.guard 80 (b := (!(((bytesStr l6).toList == (bytesStr l7).toList) == q1))) (by kernel_rfl) (fun h13 => ?_) (fun h13 => ?_)
  ·replace hs := of_if_t hs h13
   refine WP.stl 20 ?_
   refine WP.dn ?_
   refine NX.post ?_
   exact ⟨true, ⟨by kernel_rfl, by kernel_rfl⟩, tot, hB1, hR4, hB2, hR5, hR7, hs⟩
  replace hs := of_if_f hs h13
  refine WP.stl 1 ?_
  refine WP.toStr (a := a7) (cp := c7) hR7.src hR7.len (by kernel_rfl) ?_
  refine WP.stl 1 ?_
  refine WP.toStr (a := a9) (cp := c9) hR9.src hR9.len (by kernel_rfl) ?_
  refine WP.stl 3 ?_
  refine WP.guard 87 (b := ((bytesStr l6).toList == (bytesStr l8).toList)) (by kernel_rfl) (fun h14 => ?_) (fun h14 => ?_)
  ·replace hs := of_if_t hs h14
   refine WP.stl 13 ?_
   refine WP.dn ?_
   refine NX.post ?_
   exact ⟨true, ⟨by kernel_rfl, by kernel_rfl⟩, tot, hB1, hR4, hB2, hR5, hR7, hs⟩
  replace hs := of_if_f hs h14
  refine WP.stl 1 ?_
  refine WP.toStr (a := a7) (cp := c7) hR7.src hR7.len (by kernel_rfl) ?_
  refine WP.stl 1 ?_
  refine WP.toStr (a := a10) (cp := c10) hR10.src hR10.len (by kernel_rfl) ?_
  refine WP.stl 3 ?_
  refine WP.guard 94 (b := ((bytesStr l6).toList == (bytesStr l9).toList)) (by kernel_rfl) (fun h15 => ?_) (fun h15 => ?_)
  ·replace hs := of_if_t hs h15
   refine WP.stl 6 ?_
   refine WP.dn ?_
   refine NX.post ?_
   exact ⟨true, ⟨by kernel_rfl, by kernel_rfl⟩, tot, hB1, hR4, hB2, hR5, hR7, hs⟩
  replace hs := of_if_f hs h15
  refine WP.stl 1 ?_
  refine WP.toStr (a := a9) (cp := c9) hR9.src hR9.len (by kernel_rfl) ?_
  refine WP.stl 1 ?_
  refine WP.toStr (a := a10) (cp := c10) hR10.src hR10.len (by kernel_rfl) ?_
  refine WP.stl 2 ?_
  refine WP.dn ?_
  refine NX.post ?_
  exact ⟨((bytesStr l8).toList == (bytesStr l9).toList), ⟨by kernel_rfl, by kernel_rfl⟩, tot, hB1, hR4, hB2, hR5, hR7, hs⟩
 clear tot hs hB1 hR4 hB2 hR5 hR7 hR8 hR9 hR10
 rintro tm g ⟨q2, hF, tot, hB1, hR4, hB2, hR5, hR7, hs⟩
 clear ds
 obtain ⟨ds, rfl⟩ := hF.open
 clear hF
 unfold F.baizelaw32_StateUnlike.c2 at hs
 refine CP.cond (b := q2) (by kernel_rfl) (fun h6 => ?_) (fun h6 => ?_)
 ·replace hs := of_if_t hs h6
  refine CP.seqR ?_
  refine WP.stl 1 ?_
  refine WP.dn ?_
  refine NX.then_n ?_
  refine CP.ret ?_
  refine NX.then_r ?_
  replace hs := Option.some.inj hs
  obtain rfl := hs
  exact NX.fin (v := .bool false) (Res.still (by kernel_rfl)) tot htL rfl
 replace hs := of_if_f hs h6
 refine CP.skip ?_
 refine NX.then_n ?_
 refine CP.cut (fun tm g => ∃ (q4 : Bool), Fr 120 [(6, .bool q4)] tm ∧ Step (fun l => NoM l ∨ t ≤ l) g0 g ∧ (F.baizelaw32_StateUnlike.c3 q4) = some o1) ?_ ?_
 ·replace hs := Option.bind_eq_some_iff.1 hs
  obtain ⟨q5, hk12, hs⟩ := hs
  refine bool_split (b := q5) (fun h10 => ?_) (fun h10 => ?_)
  ·replace hs := of_if_t hs h10
   replace hs := Option.bind_eq_some_iff.1 hs
   obtain ⟨d7, hk13, hs⟩ := hs
   replace hs := Option.bind_eq_some_iff.1 hs
   obtain ⟨d8, hk14, hs⟩ := hs
   refine bool_split (b := (d7.1 == d8.1)) (fun h11 => ?_) (fun h11 => ?_)
   ·replace hs := of_if_t hs h11
    refine bool_split (b := (!q1)) (fun h12 => ?_) (fun h12 => ?_)
    ·replace hs := of_if_t hs h12
     refine CP.drawL (by kernel_rfl) [0, 1, 2, 3, 5, 6, 8, 11] N.baizelaw32_StateUnlike_3 [⟨none, [], [], fun l g => Box g (t + 1) b1 26 [encA .u8 d1, [.int .i64 x1], [.slice a4 l4.length c4]] [8, 1, 1]⟩, ⟨none, [], [], fun l g => RdS (Kd.int .u8) g 5 a4 l4.length c4 l4⟩, ⟨none, [0], [], fun l g => OwnS (Kd.int .u8) g (t + 3) 5 a7 l6.length c7 l6⟩, ⟨some 0, [], [0], fun l g => l.getD 0 undef = .bool q5⟩, ⟨some 1, [], [1], fun l g => l.getD 0 undef = .bool true⟩, ⟨some 2, [], [2], fun l g => l.getD 0 undef = AG [encA .u8 d1, [.int .i64 x1], [.slice a4 l4.length c4]]⟩, ⟨some 3, [], [3], fun l g => l.getD 0 undef = AG [encA .u8 d7]⟩, ⟨some 4, [], [4], fun l g => l.getD 0 undef = AG [encA .u8 d8]⟩, ⟨some 4, [0], [], fun l g => OwnS (Kd.int .u8) g (t + 3) 5 a7 l6.length c7 l6⟩, ⟨some 5, [], [5], fun l g => l.getD 0 undef = .bool (d7.1 == d8.1)⟩, ⟨some 6, [], [6], fun l g => l.getD 0 undef = .bool true⟩, ⟨some 7, [], [7], fun l g => l.getD 0 undef = .bool true⟩] [[], [], [], [], [0], [], [], []] [(t + 3)] [] [4, 7, 9, 10, 12, 13, 14, 15, 16, 17, 18, 19] (by kernel_rfl) (by simp <;> omega) (by simp) ⟨fun _ _ _ _ st h0 hl hj hB1 => (hB1.mono st (fun h => absurd (hl _ h) (by simp <;> omega))), fun _ _ _ _ st h0 hl hj hR4 => (RdS.mono (e := 5) hR4 st h0), fun _ _ _ _ st h0 hl hj hR7 => (hR7.mono st h0 (hj 0 (by simp) _ rfl)), fun _ _ _ _ st h0 hl hj e0 => e0, fun _ _ _ _ st h0 hl hj e1 => e1, fun _ _ _ _ st h0 hl hj e2 => e2, fun _ _ _ _ st h0 hl hj e3 => e3, fun _ _ _ _ st h0 hl hj e4 => e4, fun _ _ _ _ st h0 hl hj hR7 => (hR7.mono st h0 (hj 0 (by simp) _ rfl)), fun _ _ _ _ st h0 hl hj e5 => e5, fun _ _ _ _ st h0 hl hj e6 => e6, fun _ _ _ _ st h0 hl hj e7 => e7, tv⟩ ⟨hB1, hR4, hR7, tv, tv, tv, tv, tv, tv, tv, tv, tv, tv⟩ (by kernel_rfl) (fun vs => by kernel_rfl) ?_ ?_ ?_
     ·intro j hj
      have hq : j = 0 ∨ j = 1 ∨ j = 2 ∨ j = 3 ∨ j = 4 ∨ j = 5 ∨ j = 6 ∨ j = 7 ∨ j = 8 ∨ j = 9 ∨ j = 10 ∨ j = 11 := by have h : j < 12 := hj; omega
      rcases hq with rfl | rfl | rfl | rfl | rfl | rfl | rfl | rfl | rfl | rfl | rfl | rfl
      ·intro vs gq stq hl hf
       obtain ⟨v0, v1, v2, v3, v4, v5, v6, v7, rfl⟩ := len_k8 hl
       have e1 := (show v1 = .bool true from hf _ (memI 4 rfl) (by kernel_rfl))
       subst e1
       show Option.isSome _ = true
       kernel_rfl
      ·intro vs gq stq hl hf
       obtain ⟨v0, v1, v2, v3, v4, v5, v6, v7, rfl⟩ := len_k8 hl
       have e1 := (show v1 = .bool true from hf _ (memI 4 rfl) (by kernel_rfl))
       subst e1
       have e5 := (show v5 = .bool (d7.1 == d8.1) from hf _ (memI 9 rfl) (by kernel_rfl))
       subst e5
       show Option.isSome _ = true
       kernel_rfl
      ·intro vs gq stq hl hf
       obtain ⟨v0, v1, v2, v3, v4, v5, v6, v7, rfl⟩ := len_k8 hl
       have e6 := (show v6 = .bool true from hf _ (memI 10 rfl) (by kernel_rfl))
       subst e6
       show Option.isSome _ = true
       kernel_rfl
      ·intro vs gq stq hl hf
       obtain ⟨v0, v1, v2, v3, v4, v5, v6, v7, rfl⟩ := len_k8 hl
       have e6 := (show v6 = .bool true from hf _ (memI 10 rfl) (by kernel_rfl))
       subst e6
       show Option.isSome _ = true
       kernel_rfl
      ·intro vs gq stq hl hf
       obtain ⟨v0, v1, v2, v3, v4, v5, v6, v7, rfl⟩ := len_k8 hl
       have e7 := (show v7 = .bool true from hf _ (memI 11 rfl) (by kernel_rfl))
       subst e7
       show Option.isSome _ = true
       kernel_rfl
      ·intro vs gq stq hl hf
       obtain ⟨v0, v1, v2, v3, v4, v5, v6, v7, rfl⟩ := len_k8 hl
       have e7 := (show v7 = .bool true from hf _ (memI 11 rfl) (by kernel_rfl))
       subst e7
       show Option.isSome _ = true
       kernel_rfl
      ·intro vs gq stq hl hf
       obtain ⟨v0, v1, v2, v3, v4, v5, v6, v7, rfl⟩ := len_k8 hl
       have e7 := (show v7 = .bool true from hf _ (memI 11 rfl) (by kernel_rfl))
       subst e7
       show Option.isSome _ = true
       kernel_rfl
      ·intro vs gq stq hl hf
       obtain ⟨v0, v1, v2, v3, v4, v5, v6, v7, rfl⟩ := len_k8 hl
       have e7 := (show v7 = .bool true from hf _ (memI 11 rfl) (by kernel_rfl))
       subst e7
       show Option.isSome _ = true
       kernel_rfl
      ·intro vs gq stq hl hf
       obtain ⟨v0, v1, v2, v3, v4, v5, v6, v7, rfl⟩ := len_k8 hl
       have e7 := (show v7 = .bool true from hf _ (memI 11 rfl) (by kernel_rfl))
       subst e7
       show Option.isSome _ = true
       kernel_rfl
      ·intro vs gq stq hl hf
       obtain ⟨v0, v1, v2, v3, v4, v5, v6, v7, rfl⟩ := len_k8 hl
       have e6 := (show v6 = .bool true from hf _ (memI 10 rfl) (by kernel_rfl))
       subst e6
       have e7 := (show v7 = .bool true from hf _ (memI 11 rfl) (by kernel_rfl))
       subst e7
       show Option.isSome _ = true
       kernel_rfl
      ·intro vs gq stq hl hf
       obtain ⟨v0, v1, v2, v3, v4, v5, v6, v7, rfl⟩ := len_k8 hl
       have e6 := (show v6 = .bool true from hf _ (memI 10 rfl) (by kernel_rfl))
       subst e6
       have e7 := (show v7 = .bool true from hf _ (memI 11 rfl) (by kernel_rfl))
       subst e7
       show Option.isSome _ = true
       kernel_rfl
      ·intro vs gq stq hl hf
       obtain ⟨v0, v1, v2, v3, v4, v5, v6, v7, rfl⟩ := len_k8 hl
       have e6 := (show v6 = .bool true from hf _ (memI 10 rfl) (by kernel_rfl))
       subst e6
       have e7 := (show v7 = .bool true from hf _ (memI 11 rfl) (by kernel_rfl))
       subst e7
       show Option.isSome _ = true
       kernel_rfl
     ·intro j hj
      have hq : j = 0 ∨ j = 1 ∨ j = 2 ∨ j = 3 ∨ j = 4 ∨ j = 5 ∨ j = 6 ∨ j = 7 := by have h : j < 8 := hj; omega
      rcases hq with rfl | rfl | rfl | rfl | rfl | rfl | rfl | rfl
      ·intro vs gq stq hl hf
       obtain ⟨v0, v1, v2, v3, v4, v5, v6, v7, rfl⟩ := len_k8 hl
       have hcal12 := P.baizelaw32_told gq q5 hk12
       refine WP.callC hcal12 (by kernel_rfl) ?_
       rintro _ g20 st20 rfl
       refine WP.dn (Shown.o (v := .bool q5) st20.pure ?_)
       exact ⟨tv, tv, tv, rfl, tv, tv, tv, tv, tv, tv, tv, tv, tv⟩
      ·intro vs gq stq hl hf
       obtain ⟨v0, v1, v2, v3, v4, v5, v6, v7, rfl⟩ := len_k8 hl
       have e0 := (show v0 = .bool q5 from hf _ (memI 3 rfl) (by kernel_rfl))
       subst e0
       refine WP.stl 1 ?_
       refine WP.dn (Shown.ok (v := .bool q5) (by kernel_rfl) (Step.refl _ _) ?_)
       exact ⟨tv, tv, tv, tv, congrArg Value.bool h10, tv, tv, tv, tv, tv, tv, tv, tv⟩
      ·intro vs gq stq hl hf
       obtain ⟨v0, v1, v2, v3, v4, v5, v6, v7, rfl⟩ := len_k8 hl
       have hB1 := (show Box gq (t + 1) b1 26 [encA .u8 d1, [.int .i64 x1], [.slice a4 l4.length c4]] [8, 1, 1] from hf _ (memI 0 rfl) (by kernel_rfl))
       have e1 := (show v1 = .bool true from hf _ (memI 4 rfl) (by kernel_rfl))
       subst e1
       refine WP.loadB (v := AG [encA .u8 d1, [.int .i64 x1], [.slice a4 l4.length c4]]) hB1 (by kernel_rfl) (by kernel_rfl) ?_
       refine WP.dn (Shown.ok (v := AG [encA .u8 d1, [.int .i64 x1], [.slice a4 l4.length c4]]) (by kernel_rfl) (Step.refl _ _) ?_)
       exact ⟨tv, tv, tv, tv, tv, rfl, tv, tv, tv, tv, tv, tv, tv⟩
      ·intro vs gq stq hl hf
       obtain ⟨v0, v1, v2, v3, v4, v5, v6, v7, rfl⟩ := len_k8 hl
       have hR4 := (show RdS (Kd.int .u8) gq 5 a4 l4.length c4 l4 from hf _ (memI 1 rfl) (by kernel_rfl))
       have e1 := (show v1 = .bool true from hf _ (memI 4 rfl) (by kernel_rfl))
       subst e1
       have e2 := (show v2 = AG [encA .u8 d1, [.int .i64 x1], [.slice a4 l4.length c4]] from hf _ (memI 5 rfl) (by kernel_rfl))
       subst e2
       have hcal13 := P.state_State_Digest gq d1 x1 l4 a4 l4.length c4 hR4 d7 hk13
       refine WP.callC hcal13 (by kernel_rfl) ?_
       rintro _ g21 st21 rfl
       refine WP.dn (Shown.o (v := AG [encA .u8 d7]) st21.pure ?_)
       exact ⟨tv, tv, tv, tv, tv, tv, rfl, tv, tv, tv, tv, tv, tv⟩
      ·intro vs gq stq hl hf
       obtain ⟨v0, v1, v2, v3, v4, v5, v6, v7, rfl⟩ := len_k8 hl
       have hR7 := (show OwnS (Kd.int .u8) gq (t + 3) 5 a7 l6.length c7 l6 from hf _ (memI 2 rfl) (by kernel_rfl))
       have e1 := (show v1 = .bool true from hf _ (memI 4 rfl) (by kernel_rfl))
       subst e1
       have hS2 : 0 ∉ ([(t + 3)] : List Nat) := by simp <;> omega
       have stl2 := GW.lend_step gq [(t + 3)]
       have hRl2 := hR7.lendTo hS2 (by simp)
       refine WP.regw (g' := GW.lend gq [(t + 3)]) rfl ?_
       have hcal14 := P.baizeref32_Of (GW.lend gq [(t + 3)]) l6 a7 l6.length c7 hRl2 d8 hk14
       refine WP.callC hcal14 (by kernel_rfl) ?_
       rintro _ g22 st22 rfl
       have st23 := (GW.back_step st22).lentS
       have hO2 := hR7.backTo hS2 (by simp) st22 (fun x => x)
       refine WP.regw (g' := GW.back gq g22 [(t + 3)]) rfl ?_
       generalize GW.back gq g22 [(t + 3)] = g23 at *
       refine WP.dn (Shown.o (v := AG [encA .u8 d8]) st23 ?_)
       exact ⟨tv, tv, tv, tv, tv, tv, tv, rfl, hO2, tv, tv, tv, tv⟩
      ·intro vs gq stq hl hf
       obtain ⟨v0, v1, v2, v3, v4, v5, v6, v7, rfl⟩ := len_k8 hl
       have e1 := (show v1 = .bool true from hf _ (memI 4 rfl) (by kernel_rfl))
       subst e1
       have e3 := (show v3 = AG [encA .u8 d7] from hf _ (memI 6 rfl) (by kernel_rfl))
       subst e3
       have e4 := (show v4 = AG [encA .u8 d8] from hf _ (memI 7 rfl) (by kernel_rfl))
       subst e4
       refine WP.eqV (by kernel_rfl) (by kernel_rfl) (EqV.arr (d := 9998) (t := 23) (e := 5) (m := 8) (k := .u8) (x := d7) (y := d8) (by kernel_rfl) (by kernel_rfl)) ?_
       refine WP.dn (Shown.ok (v := .bool (d7.1 == d8.1)) (by kernel_rfl) (Step.refl _ _) ?_)
       exact ⟨tv, tv, tv, tv, tv, tv, tv, tv, tv, rfl, tv, tv, tv⟩
      ·intro vs gq stq hl hf
       obtain ⟨v0, v1, v2, v3, v4, v5, v6, v7, rfl⟩ := len_k8 hl
       have e1 := (show v1 = .bool true from hf _ (memI 4 rfl) (by kernel_rfl))
       subst e1
       have e5 := (show v5 = .bool (d7.1 == d8.1) from hf _ (memI 9 rfl) (by kernel_rfl))
       subst e5
       refine WP.stl 1 ?_
       refine WP.dn (Shown.ok (v := .bool (d7.1 == d8.1)) (by kernel_rfl) (Step.refl _ _) ?_)
       exact ⟨tv, tv, tv, tv, tv, tv, tv, tv, tv, tv, congrArg Value.bool h11, tv, tv⟩
      ·intro vs gq stq hl hf
       obtain ⟨v0, v1, v2, v3, v4, v5, v6, v7, rfl⟩ := len_k8 hl
       have e6 := (show v6 = .bool true from hf _ (memI 10 rfl) (by kernel_rfl))
       subst e6
       refine WP.stl 1 ?_
       refine WP.dn (Shown.ok (v := .bool (!q1)) (by kernel_rfl) (Step.refl _ _) ?_)
       exact ⟨tv, tv, tv, tv, tv, tv, tv, tv, tv, tv, tv, congrArg Value.bool h12, tv⟩
     intro vs g24 st24 hl hf
     obtain ⟨v0, v1, v2, v3, v4, v5, v6, v7, rfl⟩ := len_k8 hl
     have e6 := (show v6 = .bool true from hf _ (memI 10 rfl) (by kernel_rfl))
     subst e6
     have e7 := (show v7 = .bool true from hf _ (memI 11 rfl) (by kernel_rfl))
     subst e7
     replace tot := tot.trans (st24.up1 (.inr (by omega)))
     refine NX.post ?_
     exact ⟨true, ⟨by kernel_rfl, by kernel_rfl⟩, tot, hs⟩
    replace hs := of_if_f hs h12
    replace hs := Option.bind_eq_some_iff.1 hs
    obtain ⟨d9, hk15, hs⟩ := hs
    replace hs := Option.bind_eq_some_iff.1 hs
    obtain ⟨d10, hk16, hs⟩ := hs
    refine CP.drawL (by kernel_rfl) [0, 1, 2, 3, 5, 6, 8, 11, 12, 13, 14, 15, 16] N.baizelaw32_StateUnlike_3 [⟨none, [], [], fun l g => Box g (t + 1) b1 26 [encA .u8 d1, [.int .i64 x1], [.slice a4 l4.length c4]] [8, 1, 1]⟩, ⟨none, [], [], fun l g => RdS (Kd.int .u8) g 5 a4 l4.length c4 l4⟩, ⟨none, [], [], fun l g => Box g (t + 2) b2 26 [encA .u8 d2, [.int .i64 x2], [.slice a5 l5.length c5]] [8, 1, 1]⟩, ⟨none, [], [], fun l g => RdS (Kd.int .u8) g 5 a5 l5.length c5 l5⟩, ⟨none, [0], [], fun l g => OwnS (Kd.int .u8) g (t + 3) 5 a7 l6.length c7 l6⟩, ⟨some 0, [], [0], fun l g => l.getD 0 undef = .bool q5⟩, ⟨some 1, [], [1], fun l g => l.getD 0 undef = .bool true⟩, ⟨some 2, [], [2], fun l g => l.getD 0 undef = AG [encA .u8 d1, [.int .i64 x1], [.slice a4 l4.length c4]]⟩, ⟨some 3, [], [3], fun l g => l.getD 0 undef = AG [encA .u8 d7]⟩, ⟨some 4, [], [4], fun l g => l.getD 0 undef = AG [encA .u8 d8]⟩, ⟨some 4, [0], [], fun l g => OwnS (Kd.int .u8) g (t + 3) 5 a7 l6.length c7 l6⟩, ⟨some 5, [], [5], fun l g => l.getD 0 undef = .bool (d7.1 == d8.1)⟩, ⟨some 6, [], [6], fun l g => l.getD 0 undef = .bool true⟩, ⟨some 7, [], [7], fun l g => l.getD 0 undef = .bool false⟩, ⟨some 8, [], [8], fun l g => l.getD 0 undef = AG [encA .u8 d1, [.int .i64 x1], [.slice a4 l4.length c4]]⟩, ⟨some 9, [], [9], fun l g => l.getD 0 undef = AG [encA .u8 d9]⟩, ⟨some 10, [], [10], fun l g => l.getD 0 undef = AG [encA .u8 d2, [.int .i64 x2], [.slice a5 l5.length c5]]⟩, ⟨some 11, [], [11], fun l g => l.getD 0 undef = AG [encA .u8 d10]⟩, ⟨some 12, [], [12], fun l g => l.getD 0 undef = .bool (d9.1 == d10.1)⟩] [[], [], [], [], [0], [], [], [], [], [], [], [], []] [(t + 3)] [] [4, 7, 9, 10, 17, 18, 19] (by kernel_rfl) (by simp <;> omega) (by simp) ⟨fun _ _ _ _ st h0 hl hj hB1 => (hB1.mono st (fun h => absurd (hl _ h) (by simp <;> omega))), fun _ _ _ _ st h0 hl hj hR4 => (RdS.mono (e := 5) hR4 st h0), fun _ _ _ _ st h0 hl hj hB2 => (hB2.mono st (fun h => absurd (hl _ h) (by simp <;> omega))), fun _ _ _ _ st h0 hl hj hR5 => (RdS.mono (e := 5) hR5 st h0), fun _ _ _ _ st h0 hl hj hR7 => (hR7.mono st h0 (hj 0 (by simp) _ rfl)), fun _ _ _ _ st h0 hl hj e0 => e0, fun _ _ _ _ st h0 hl hj e1 => e1, fun _ _ _ _ st h0 hl hj e2 => e2, fun _ _ _ _ st h0 hl hj e3 => e3, fun _ _ _ _ st h0 hl hj e4 => e4, fun _ _ _ _ st h0 hl hj hR7 => (hR7.mono st h0 (hj 0 (by simp) _ rfl)), fun _ _ _ _ st h0 hl hj e5 => e5, fun _ _ _ _ st h0 hl hj e6 => e6, fun _ _ _ _ st h0 hl hj e7 => e7, fun _ _ _ _ st h0 hl hj e8 => e8, fun _ _ _ _ st h0 hl hj e9 => e9, fun _ _ _ _ st h0 hl hj e10 => e10, fun _ _ _ _ st h0 hl hj e11 => e11, fun _ _ _ _ st h0 hl hj e12 => e12, tv⟩ ⟨hB1, hR4, hB2, hR5, hR7, tv, tv, tv, tv, tv, tv, tv, tv, tv, tv, tv, tv, tv, tv, tv⟩ (by kernel_rfl) (fun vs => by kernel_rfl) ?_ ?_ ?_
    ·intro j hj
     have hq : j = 0 ∨ j = 1 ∨ j = 2 ∨ j = 3 ∨ j = 4 ∨ j = 5 ∨ j = 6 := by have h : j < 7 := hj; omega
     rcases hq with rfl | rfl | rfl | rfl | rfl | rfl | rfl
     ·intro vs gq stq hl hf
      obtain ⟨v0, v1, v2, v3, v4, v5, v6, v7, v8, v9, v10, v11, v12, rfl⟩ := len_k13 hl
      have e1 := (show v1 = .bool true from hf _ (memI 6 rfl) (by kernel_rfl))
      subst e1
      show Option.isSome _ = true
      kernel_rfl
     ·intro vs gq stq hl hf
      obtain ⟨v0, v1, v2, v3, v4, v5, v6, v7, v8, v9, v10, v11, v12, rfl⟩ := len_k13 hl
      have e1 := (show v1 = .bool true from hf _ (memI 6 rfl) (by kernel_rfl))
      subst e1
      have e5 := (show v5 = .bool (d7.1 == d8.1) from hf _ (memI 11 rfl) (by kernel_rfl))
      subst e5
      show Option.isSome _ = true
      kernel_rfl
     ·intro vs gq stq hl hf
      obtain ⟨v0, v1, v2, v3, v4, v5, v6, v7, v8, v9, v10, v11, v12, rfl⟩ := len_k13 hl
      have e6 := (show v6 = .bool true from hf _ (memI 12 rfl) (by kernel_rfl))
      subst e6
      show Option.isSome _ = true
      kernel_rfl
     ·intro vs gq stq hl hf
      obtain ⟨v0, v1, v2, v3, v4, v5, v6, v7, v8, v9, v10, v11, v12, rfl⟩ := len_k13 hl
      have e6 := (show v6 = .bool true from hf _ (memI 12 rfl) (by kernel_rfl))
      subst e6
      show Option.isSome _ = true
      kernel_rfl
     ·intro vs gq stq hl hf
      obtain ⟨v0, v1, v2, v3, v4, v5, v6, v7, v8, v9, v10, v11, v12, rfl⟩ := len_k13 hl
      have e6 := (show v6 = .bool true from hf _ (memI 12 rfl) (by kernel_rfl))
      subst e6
      have e7 := (show v7 = .bool false from hf _ (memI 13 rfl) (by kernel_rfl))
      subst e7
      have e12 := (show v12 = .bool (d9.1 == d10.1) from hf _ (memI 18 rfl) (by kernel_rfl))
      subst e12
      show Option.isSome _ = true
      kernel_rfl
     ·intro vs gq stq hl hf
      obtain ⟨v0, v1, v2, v3, v4, v5, v6, v7, v8, v9, v10, v11, v12, rfl⟩ := len_k13 hl
      have e6 := (show v6 = .bool true from hf _ (memI 12 rfl) (by kernel_rfl))
      subst e6
      have e7 := (show v7 = .bool false from hf _ (memI 13 rfl) (by kernel_rfl))
      subst e7
      have e12 := (show v12 = .bool (d9.1 == d10.1) from hf _ (memI 18 rfl) (by kernel_rfl))
      subst e12
      show Option.isSome _ = true
      kernel_rfl
     ·intro vs gq stq hl hf
      obtain ⟨v0, v1, v2, v3, v4, v5, v6, v7, v8, v9, v10, v11, v12, rfl⟩ := len_k13 hl
      have e6 := (show v6 = .bool true from hf _ (memI 12 rfl) (by kernel_rfl))
      subst e6
      have e7 := (show v7 = .bool false from hf _ (memI 13 rfl) (by kernel_rfl))
      subst e7
      have e12 := (show v12 = .bool (d9.1 == d10.1) from hf _ (memI 18 rfl) (by kernel_rfl))
      subst e12
      show Option.isSome _ = true
      kernel_rfl
    ·intro j hj
     have hq : j = 0 ∨ j = 1 ∨ j = 2 ∨ j = 3 ∨ j = 4 ∨ j = 5 ∨ j = 6 ∨ j = 7 ∨ j = 8 ∨ j = 9 ∨ j = 10 ∨ j = 11 ∨ j = 12 := by have h : j < 13 := hj; omega
     rcases hq with rfl | rfl | rfl | rfl | rfl | rfl | rfl | rfl | rfl | rfl | rfl | rfl | rfl
     ·intro vs gq stq hl hf
      obtain ⟨v0, v1, v2, v3, v4, v5, v6, v7, v8, v9, v10, v11, v12, rfl⟩ := len_k13 hl
      have hcal12 := P.baizelaw32_told gq q5 hk12
      refine WP.callC hcal12 (by kernel_rfl) ?_
      rintro _ g20 st20 rfl
      refine WP.dn (Shown.o (v := .bool q5) st20.pure ?_)
      exact ⟨tv, tv, tv, tv, tv, rfl, tv, tv, tv, tv, tv, tv, tv, tv, tv, tv, tv, tv, tv, tv⟩
     ·intro vs gq stq hl hf
      obtain ⟨v0, v1, v2, v3, v4, v5, v6, v7, v8, v9, v10, v11, v12, rfl⟩ := len_k13 hl
      have e0 := (show v0 = .bool q5 from hf _ (memI 5 rfl) (by kernel_rfl))
      subst e0
      refine WP.stl 1 ?_
      refine WP.dn (Shown.ok (v := .bool q5) (by kernel_rfl) (Step.refl _ _) ?_)
      exact ⟨tv, tv, tv, tv, tv, tv, congrArg Value.bool h10, tv, tv, tv, tv, tv, tv, tv, tv, tv, tv, tv, tv, tv⟩
     ·intro vs gq stq hl hf
      obtain ⟨v0, v1, v2, v3, v4, v5, v6, v7, v8, v9, v10, v11, v12, rfl⟩ := len_k13 hl
      have hB1 := (show Box gq (t + 1) b1 26 [encA .u8 d1, [.int .i64 x1], [.slice a4 l4.length c4]] [8, 1, 1] from hf _ (memI 0 rfl) (by kernel_rfl))
      have e1 := (show v1 = .bool true from hf _ (memI 6 rfl) (by kernel_rfl))
      subst e1
      refine WP.loadB (v := AG [encA .u8 d1, [.int .i64 x1], [.slice a4 l4.length c4]]) hB1 (by kernel_rfl) (by kernel_rfl) ?_
      refine WP.dn (Shown.ok (v := AG [encA .u8 d1, [.int .i64 x1], [.slice a4 l4.length c4]]) (by kernel_rfl) (Step.refl _ _) ?_)
      exact ⟨tv, tv, tv, tv, tv, tv, tv, rfl, tv, tv, tv, tv, tv, tv, tv, tv, tv, tv, tv, tv⟩
     ·intro vs gq stq hl hf
      obtain ⟨v0, v1, v2, v3, v4, v5, v6, v7, v8, v9, v10, v11, v12, rfl⟩ := len_k13 hl
      have hR4 := (show RdS (Kd.int .u8) gq 5 a4 l4.length c4 l4 from hf _ (memI 1 rfl) (by kernel_rfl))
      have e1 := (show v1 = .bool true from hf _ (memI 6 rfl) (by kernel_rfl))
      subst e1
      have e2 := (show v2 = AG [encA .u8 d1, [.int .i64 x1], [.slice a4 l4.length c4]] from hf _ (memI 7 rfl) (by kernel_rfl))
      subst e2
      have hcal13 := P.state_State_Digest gq d1 x1 l4 a4 l4.length c4 hR4 d7 hk13
      refine WP.callC hcal13 (by kernel_rfl) ?_
      rintro _ g21 st21 rfl
      refine WP.dn (Shown.o (v := AG [encA .u8 d7]) st21.pure ?_)
      exact ⟨tv, tv, tv, tv, tv, tv, tv, tv, rfl, tv, tv, tv, tv, tv, tv, tv, tv, tv, tv, tv⟩
     ·intro vs gq stq hl hf
      obtain ⟨v0, v1, v2, v3, v4, v5, v6, v7, v8, v9, v10, v11, v12, rfl⟩ := len_k13 hl
      have hR7 := (show OwnS (Kd.int .u8) gq (t + 3) 5 a7 l6.length c7 l6 from hf _ (memI 4 rfl) (by kernel_rfl))
      have e1 := (show v1 = .bool true from hf _ (memI 6 rfl) (by kernel_rfl))
      subst e1
      have hS2 : 0 ∉ ([(t + 3)] : List Nat) := by simp <;> omega
      have stl2 := GW.lend_step gq [(t + 3)]
      have hRl2 := hR7.lendTo hS2 (by simp)
      refine WP.regw (g' := GW.lend gq [(t + 3)]) rfl ?_
      have hcal14 := P.baizeref32_Of (GW.lend gq [(t + 3)]) l6 a7 l6.length c7 hRl2 d8 hk14
      refine WP.callC hcal14 (by kernel_rfl) ?_
      rintro _ g22 st22 rfl
      have st23 := (GW.back_step st22).lentS
      have hO2 := hR7.backTo hS2 (by simp) st22 (fun x => x)
      refine WP.regw (g' := GW.back gq g22 [(t + 3)]) rfl ?_
      generalize GW.back gq g22 [(t + 3)] = g23 at *
      refine WP.dn (Shown.o (v := AG [encA .u8 d8]) st23 ?_)
      exact ⟨tv, tv, tv, tv, tv, tv, tv, tv, tv, rfl, hO2, tv, tv, tv, tv, tv, tv, tv, tv, tv⟩
     ·intro vs gq stq hl hf
      obtain ⟨v0, v1, v2, v3, v4, v5, v6, v7, v8, v9, v10, v11, v12, rfl⟩ := len_k13 hl
      have e1 := (show v1 = .bool true from hf _ (memI 6 rfl) (by kernel_rfl))
      subst e1
      have e3 := (show v3 = AG [encA .u8 d7] from hf _ (memI 8 rfl) (by kernel_rfl))
      subst e3
      have e4 := (show v4 = AG [encA .u8 d8] from hf _ (memI 9 rfl) (by kernel_rfl))
      subst e4
      refine WP.eqV (by kernel_rfl) (by kernel_rfl) (EqV.arr (d := 9998) (t := 23) (e := 5) (m := 8) (k := .u8) (x := d7) (y := d8) (by kernel_rfl) (by kernel_rfl)) ?_
      refine WP.dn (Shown.ok (v := .bool (d7.1 == d8.1)) (by kernel_rfl) (Step.refl _ _) ?_)
      exact ⟨tv, tv, tv, tv, tv, tv, tv, tv, tv, tv, tv, rfl, tv, tv, tv, tv, tv, tv, tv, tv⟩
     ·intro vs gq stq hl hf
      obtain ⟨v0, v1, v2, v3, v4, v5, v6, v7, v8, v9, v10, v11, v12, rfl⟩ := len_k13 hl
      have e1 := (show v1 = .bool true from hf _ (memI 6 rfl) (by kernel_rfl))
      subst e1
      have e5 := (show v5 = .bool (d7.1 == d8.1) from hf _ (memI 11 rfl) (by kernel_rfl))
      subst e5
      refine WP.stl 1 ?_
      refine WP.dn (Shown.ok (v := .bool (d7.1 == d8.1)) (by kernel_rfl) (Step.refl _ _) ?_)
      exact ⟨tv, tv, tv, tv, tv, tv, tv, tv, tv, tv, tv, tv, congrArg Value.bool h11, tv, tv, tv, tv, tv, tv, tv⟩
     ·intro vs gq stq hl hf
      obtain ⟨v0, v1, v2, v3, v4, v5, v6, v7, v8, v9, v10, v11, v12, rfl⟩ := len_k13 hl
      have e6 := (show v6 = .bool true from hf _ (memI 12 rfl) (by kernel_rfl))
      subst e6
      refine WP.stl 1 ?_
      refine WP.dn (Shown.ok (v := .bool (!q1)) (by kernel_rfl) (Step.refl _ _) ?_)
      exact ⟨tv, tv, tv, tv, tv, tv, tv, tv, tv, tv, tv, tv, tv, congrArg Value.bool h12, tv, tv, tv, tv, tv, tv⟩
     ·intro vs gq stq hl hf
      obtain ⟨v0, v1, v2, v3, v4, v5, v6, v7, v8, v9, v10, v11, v12, rfl⟩ := len_k13 hl
      have hB1 := (show Box gq (t + 1) b1 26 [encA .u8 d1, [.int .i64 x1], [.slice a4 l4.length c4]] [8, 1, 1] from hf _ (memI 0 rfl) (by kernel_rfl))
      have e7 := (show v7 = .bool false from hf _ (memI 13 rfl) (by kernel_rfl))
      subst e7
      refine WP.loadB (v := AG [encA .u8 d1, [.int .i64 x1], [.slice a4 l4.length c4]]) hB1 (by kernel_rfl) (by kernel_rfl) ?_
      refine WP.dn (Shown.ok (v := AG [encA .u8 d1, [.int .i64 x1], [.slice a4 l4.length c4]]) (by kernel_rfl) (Step.refl _ _) ?_)
      exact ⟨tv, tv, tv, tv, tv, tv, tv, tv, tv, tv, tv, tv, tv, tv, rfl, tv, tv, tv, tv, tv⟩
     ·intro vs gq stq hl hf
      obtain ⟨v0, v1, v2, v3, v4, v5, v6, v7, v8, v9, v10, v11, v12, rfl⟩ := len_k13 hl
      have hR4 := (show RdS (Kd.int .u8) gq 5 a4 l4.length c4 l4 from hf _ (memI 1 rfl) (by kernel_rfl))
      have e7 := (show v7 = .bool false from hf _ (memI 13 rfl) (by kernel_rfl))
      subst e7
      have e8 := (show v8 = AG [encA .u8 d1, [.int .i64 x1], [.slice a4 l4.length c4]] from hf _ (memI 14 rfl) (by kernel_rfl))
      subst e8
      have hcal15 := P.state_State_Digest gq d1 x1 l4 a4 l4.length c4 hR4 d9 hk15
      refine WP.callC hcal15 (by kernel_rfl) ?_
      rintro _ g25 st25 rfl
      refine WP.dn (Shown.o (v := AG [encA .u8 d9]) st25.pure ?_)
      exact ⟨tv, tv, tv, tv, tv, tv, tv, tv, tv, tv, tv, tv, tv, tv, tv, rfl, tv, tv, tv, tv⟩
     ·intro vs gq stq hl hf
      obtain ⟨v0, v1, v2, v3, v4, v5, v6, v7, v8, v9, v10, v11, v12, rfl⟩ := len_k13 hl
      have hB2 := (show Box gq (t + 2) b2 26 [encA .u8 d2, [.int .i64 x2], [.slice a5 l5.length c5]] [8, 1, 1] from hf _ (memI 2 rfl) (by kernel_rfl))
      have e7 := (show v7 = .bool false from hf _ (memI 13 rfl) (by kernel_rfl))
      subst e7
      refine WP.loadB (v := AG [encA .u8 d2, [.int .i64 x2], [.slice a5 l5.length c5]]) hB2 (by kernel_rfl) (by kernel_rfl) ?_
      refine WP.dn (Shown.ok (v := AG [encA .u8 d2, [.int .i64 x2], [.slice a5 l5.length c5]]) (by kernel_rfl) (Step.refl _ _) ?_)
      exact ⟨tv, tv, tv, tv, tv, tv, tv, tv, tv, tv, tv, tv, tv, tv, tv, tv, rfl, tv, tv, tv⟩
     ·intro vs gq stq hl hf
      obtain ⟨v0, v1, v2, v3, v4, v5, v6, v7, v8, v9, v10, v11, v12, rfl⟩ := len_k13 hl
      have hR5 := (show RdS (Kd.int .u8) gq 5 a5 l5.length c5 l5 from hf _ (memI 3 rfl) (by kernel_rfl))
      have e7 := (show v7 = .bool false from hf _ (memI 13 rfl) (by kernel_rfl))
      subst e7
      have e10 := (show v10 = AG [encA .u8 d2, [.int .i64 x2], [.slice a5 l5.length c5]] from hf _ (memI 16 rfl) (by kernel_rfl))
      subst e10
      have hcal16 := P.state_State_Digest gq d2 x2 l5 a5 l5.length c5 hR5 d10 hk16
      refine WP.callC hcal16 (by kernel_rfl) ?_
      rintro _ g26 st26 rfl
      refine WP.dn (Shown.o (v := AG [encA .u8 d10]) st26.pure ?_)
      exact ⟨tv, tv, tv, tv, tv, tv, tv, tv, tv, tv, tv, tv, tv, tv, tv, tv, tv, rfl, tv, tv⟩
     ·intro vs gq stq hl hf
      obtain ⟨v0, v1, v2, v3, v4, v5, v6, v7, v8, v9, v10, v11, v12, rfl⟩ := len_k13 hl
      have e7 := (show v7 = .bool false from hf _ (memI 13 rfl) (by kernel_rfl))
      subst e7
      have e9 := (show v9 = AG [encA .u8 d9] from hf _ (memI 15 rfl) (by kernel_rfl))
      subst e9
      have e11 := (show v11 = AG [encA .u8 d10] from hf _ (memI 17 rfl) (by kernel_rfl))
      subst e11
      refine WP.eqV (by kernel_rfl) (by kernel_rfl) (EqV.arr (d := 9998) (t := 23) (e := 5) (m := 8) (k := .u8) (x := d9) (y := d10) (by kernel_rfl) (by kernel_rfl)) ?_
      refine WP.dn (Shown.ok (v := .bool (d9.1 == d10.1)) (by kernel_rfl) (Step.refl _ _) ?_)
      exact ⟨tv, tv, tv, tv, tv, tv, tv, tv, tv, tv, tv, tv, tv, tv, tv, tv, tv, tv, rfl, tv⟩
    intro vs g27 st27 hl hf
    obtain ⟨v0, v1, v2, v3, v4, v5, v6, v7, v8, v9, v10, v11, v12, rfl⟩ := len_k13 hl
    have e6 := (show v6 = .bool true from hf _ (memI 12 rfl) (by kernel_rfl))
    subst e6
    have e7 := (show v7 = .bool false from hf _ (memI 13 rfl) (by kernel_rfl))
    subst e7
    have e12 := (show v12 = .bool (d9.1 == d10.1) from hf _ (memI 18 rfl) (by kernel_rfl))
    subst e12
    replace tot := tot.trans (st27.up1 (.inr (by omega)))
    refine NX.post ?_
    exact ⟨(d9.1 == d10.1), ⟨by kernel_rfl, by kernel_rfl⟩, tot, hs⟩
   replace hs := of_if_f hs h11
   refine CP.drawL (by kernel_rfl) [0, 1, 2, 3, 5, 6, 8] N.baizelaw32_StateUnlike_3 [⟨none, [], [], fun l g => Box g (t + 1) b1 26 [encA .u8 d1, [.int .i64 x1], [.slice a4 l4.length c4]] [8, 1, 1]⟩, ⟨none, [], [], fun l g => RdS (Kd.int .u8) g 5 a4 l4.length c4 l4⟩, ⟨none, [0], [], fun l g => OwnS (Kd.int .u8) g (t + 3) 5 a7 l6.length c7 l6⟩, ⟨some 0, [], [0], fun l g => l.getD 0 undef = .bool q5⟩, ⟨some 1, [], [1], fun l g => l.getD 0 undef = .bool true⟩, ⟨some 2, [], [2], fun l g => l.getD 0 undef = AG [encA .u8 d1, [.int .i64 x1], [.slice a4 l4.length c4]]⟩, ⟨some 3, [], [3], fun l g => l.getD 0 undef = AG [encA .u8 d7]⟩, ⟨some 4, [], [4], fun l g => l.getD 0 undef = AG [encA .u8 d8]⟩, ⟨some 4, [0], [], fun l g => OwnS (Kd.int .u8) g (t + 3) 5 a7 l6.length c7 l6⟩, ⟨some 5, [], [5], fun l g => l.getD 0 undef = .bool (d7.1 == d8.1)⟩, ⟨some 6, [], [6], fun l g => l.getD 0 undef = .bool false⟩] [[], [], [], [], [0], [], []] [(t + 3)] [] [4, 7, 9, 10, 11, 12, 13, 14, 15, 16, 17, 18, 19] (by kernel_rfl) (by simp <;> omega) (by simp) ⟨fun _ _ _ _ st h0 hl hj hB1 => (hB1.mono st (fun h => absurd (hl _ h) (by simp <;> omega))), fun _ _ _ _ st h0 hl hj hR4 => (RdS.mono (e := 5) hR4 st h0), fun _ _ _ _ st h0 hl hj hR7 => (hR7.mono st h0 (hj 0 (by simp) _ rfl)), fun _ _ _ _ st h0 hl hj e0 => e0, fun _ _ _ _ st h0 hl hj e1 => e1, fun _ _ _ _ st h0 hl hj e2 => e2, fun _ _ _ _ st h0 hl hj e3 => e3, fun _ _ _ _ st h0 hl hj e4 => e4, fun _ _ _ _ st h0 hl hj hR7 => (hR7.mono st h0 (hj 0 (by simp) _ rfl)), fun _ _ _ _ st h0 hl hj e5 => e5, fun _ _ _ _ st h0 hl hj e6 => e6, tv⟩ ⟨hB1, hR4, hR7, tv, tv, tv, tv, tv, tv, tv, tv, tv⟩ (by kernel_rfl) (fun vs => by kernel_rfl) ?_ ?_ ?_
   ·intro j hj
    have hq : j = 0 ∨ j = 1 ∨ j = 2 ∨ j = 3 ∨ j = 4 ∨ j = 5 ∨ j = 6 ∨ j = 7 ∨ j = 8 ∨ j = 9 ∨ j = 10 ∨ j = 11 ∨ j = 12 := by have h : j < 13 := hj; omega
    rcases hq with rfl | rfl | rfl | rfl | rfl | rfl | rfl | rfl | rfl | rfl | rfl | rfl | rfl
    ·intro vs gq stq hl hf
     obtain ⟨v0, v1, v2, v3, v4, v5, v6, rfl⟩ := len_k7 hl
     have e1 := (show v1 = .bool true from hf _ (memI 4 rfl) (by kernel_rfl))
     subst e1
     show Option.isSome _ = true
     kernel_rfl
    ·intro vs gq stq hl hf
     obtain ⟨v0, v1, v2, v3, v4, v5, v6, rfl⟩ := len_k7 hl
     have e1 := (show v1 = .bool true from hf _ (memI 4 rfl) (by kernel_rfl))
     subst e1
     have e5 := (show v5 = .bool (d7.1 == d8.1) from hf _ (memI 9 rfl) (by kernel_rfl))
     subst e5
     show Option.isSome _ = true
     kernel_rfl
    ·intro vs gq stq hl hf
     obtain ⟨v0, v1, v2, v3, v4, v5, v6, rfl⟩ := len_k7 hl
     have e6 := (show v6 = .bool false from hf _ (memI 10 rfl) (by kernel_rfl))
     subst e6
     show Option.isSome _ = true
     kernel_rfl
    ·intro vs gq stq hl hf
     obtain ⟨v0, v1, v2, v3, v4, v5, v6, rfl⟩ := len_k7 hl
     have e6 := (show v6 = .bool false from hf _ (memI 10 rfl) (by kernel_rfl))
     subst e6
     show Option.isSome _ = true
     kernel_rfl
    ·intro vs gq stq hl hf
     obtain ⟨v0, v1, v2, v3, v4, v5, v6, rfl⟩ := len_k7 hl
     have e6 := (show v6 = .bool false from hf _ (memI 10 rfl) (by kernel_rfl))
     subst e6
     show Option.isSome _ = true
     kernel_rfl
    ·intro vs gq stq hl hf
     obtain ⟨v0, v1, v2, v3, v4, v5, v6, rfl⟩ := len_k7 hl
     have e6 := (show v6 = .bool false from hf _ (memI 10 rfl) (by kernel_rfl))
     subst e6
     show Option.isSome _ = true
     kernel_rfl
    ·intro vs gq stq hl hf
     obtain ⟨v0, v1, v2, v3, v4, v5, v6, rfl⟩ := len_k7 hl
     have e6 := (show v6 = .bool false from hf _ (memI 10 rfl) (by kernel_rfl))
     subst e6
     show Option.isSome _ = true
     kernel_rfl
    ·intro vs gq stq hl hf
     obtain ⟨v0, v1, v2, v3, v4, v5, v6, rfl⟩ := len_k7 hl
     have e6 := (show v6 = .bool false from hf _ (memI 10 rfl) (by kernel_rfl))
     subst e6
     show Option.isSome _ = true
     kernel_rfl
    ·intro vs gq stq hl hf
     obtain ⟨v0, v1, v2, v3, v4, v5, v6, rfl⟩ := len_k7 hl
     have e6 := (show v6 = .bool false from hf _ (memI 10 rfl) (by kernel_rfl))
     subst e6
     show Option.isSome _ = true
     kernel_rfl
    ·intro vs gq stq hl hf
     obtain ⟨v0, v1, v2, v3, v4, v5, v6, rfl⟩ := len_k7 hl
     have e6 := (show v6 = .bool false from hf _ (memI 10 rfl) (by kernel_rfl))
     subst e6
     show Option.isSome _ = true
     kernel_rfl
    ·intro vs gq stq hl hf
     obtain ⟨v0, v1, v2, v3, v4, v5, v6, rfl⟩ := len_k7 hl
     have e6 := (show v6 = .bool false from hf _ (memI 10 rfl) (by kernel_rfl))
     subst e6
     show Option.isSome _ = true
     kernel_rfl
    ·intro vs gq stq hl hf
     obtain ⟨v0, v1, v2, v3, v4, v5, v6, rfl⟩ := len_k7 hl
     have e6 := (show v6 = .bool false from hf _ (memI 10 rfl) (by kernel_rfl))
     subst e6
     show Option.isSome _ = true
     kernel_rfl
    ·intro vs gq stq hl hf
     obtain ⟨v0, v1, v2, v3, v4, v5, v6, rfl⟩ := len_k7 hl
     have e6 := (show v6 = .bool false from hf _ (memI 10 rfl) (by kernel_rfl))
     subst e6
     show Option.isSome _ = true
     kernel_rfl
   ·intro j hj
    have hq : j = 0 ∨ j = 1 ∨ j = 2 ∨ j = 3 ∨ j = 4 ∨ j = 5 ∨ j = 6 := by have h : j < 7 := hj; omega
    rcases hq with rfl | rfl | rfl | rfl | rfl | rfl | rfl
    ·intro vs gq stq hl hf
     obtain ⟨v0, v1, v2, v3, v4, v5, v6, rfl⟩ := len_k7 hl
     have hcal12 := P.baizelaw32_told gq q5 hk12
     refine WP.callC hcal12 (by kernel_rfl) ?_
     rintro _ g20 st20 rfl
     refine WP.dn (Shown.o (v := .bool q5) st20.pure ?_)
     exact ⟨tv, tv, tv, rfl, tv, tv, tv, tv, tv, tv, tv, tv⟩
    ·intro vs gq stq hl hf
     obtain ⟨v0, v1, v2, v3, v4, v5, v6, rfl⟩ := len_k7 hl
     have e0 := (show v0 = .bool q5 from hf _ (memI 3 rfl) (by kernel_rfl))
     subst e0
     refine WP.stl 1 ?_
     refine WP.dn (Shown.ok (v := .bool q5) (by kernel_rfl) (Step.refl _ _) ?_)
     exact ⟨tv, tv, tv, tv, congrArg Value.bool h10, tv, tv, tv, tv, tv, tv, tv⟩
    ·intro vs gq stq hl hf
     obtain ⟨v0, v1, v2, v3, v4, v5, v6, rfl⟩ := len_k7 hl
     have hB1 := (show Box gq (t + 1) b1 26 [encA .u8 d1, [.int .i64 x1], [.slice a4 l4.length c4]] [8, 1, 1] from hf _ (memI 0 rfl) (by kernel_rfl))
     have e1 := (show v1 = .bool true from hf _ (memI 4 rfl) (by kernel_rfl))
     subst e1
     refine WP.loadB (v := AG [encA .u8 d1, [.int .i64 x1], [.slice a4 l4.length c4]]) hB1 (by kernel_rfl) (by kernel_rfl) ?_
     refine WP.dn (Shown.ok (v := AG [encA .u8 d1, [.int .i64 x1], [.slice a4 l4.length c4]]) (by kernel_rfl) (Step.refl _ _) ?_)
     exact ⟨tv, tv, tv, tv, tv, rfl, tv, tv, tv, tv, tv, tv⟩
    ·intro vs gq stq hl hf
     obtain ⟨v0, v1, v2, v3, v4, v5, v6, rfl⟩ := len_k7 hl
     have hR4 := (show RdS (Kd.int .u8) gq 5 a4 l4.length c4 l4 from hf _ (memI 1 rfl) (by kernel_rfl))
     have e1 := (show v1 = .bool true from hf _ (memI 4 rfl) (by kernel_rfl))
     subst e1
     have e2 := (show v2 = AG [encA .u8 d1, [.int .i64 x1], [.slice a4 l4.length c4]] from hf _ (memI 5 rfl) (by kernel_rfl))
     subst e2
     have hcal13 := P.state_State_Digest gq d1 x1 l4 a4 l4.length c4 hR4 d7 hk13
     refine WP.callC hcal13 (by kernel_rfl) ?_
     rintro _ g21 st21 rfl
     refine WP.dn (Shown.o (v := AG [encA .u8 d7]) st21.pure ?_)
     exact ⟨tv, tv, tv, tv, tv, tv, rfl, tv, tv, tv, tv, tv⟩
    ·intro vs gq stq hl hf
     obtain ⟨v0, v1, v2, v3, v4, v5, v6, rfl⟩ := len_k7 hl
     have hR7 := (show OwnS (Kd.int .u8) gq (t + 3) 5 a7 l6.length c7 l6 from hf _ (memI 2 rfl) (by kernel_rfl))
     have e1 := (show v1 = .bool true from hf _ (memI 4 rfl) (by kernel_rfl))
     subst e1
     have hS2 : 0 ∉ ([(t + 3)] : List Nat) := by simp <;> omega
     have stl2 := GW.lend_step gq [(t + 3)]
     have hRl2 := hR7.lendTo hS2 (by simp)
     refine WP.regw (g' := GW.lend gq [(t + 3)]) rfl ?_
     have hcal14 := P.baizeref32_Of (GW.lend gq [(t + 3)]) l6 a7 l6.length c7 hRl2 d8 hk14
     refine WP.callC hcal14 (by kernel_rfl) ?_
     rintro _ g22 st22 rfl
     have st23 := (GW.back_step st22).lentS
     have hO2 := hR7.backTo hS2 (by simp) st22 (fun x => x)
     refine WP.regw (g' := GW.back gq g22 [(t + 3)]) rfl ?_
     generalize GW.back gq g22 [(t + 3)] = g23 at *
     refine WP.dn (Shown.o (v := AG [encA .u8 d8]) st23 ?_)
     exact ⟨tv, tv, tv, tv, tv, tv, tv, rfl, hO2, tv, tv, tv⟩
    ·intro vs gq stq hl hf
     obtain ⟨v0, v1, v2, v3, v4, v5, v6, rfl⟩ := len_k7 hl
     have e1 := (show v1 = .bool true from hf _ (memI 4 rfl) (by kernel_rfl))
     subst e1
     have e3 := (show v3 = AG [encA .u8 d7] from hf _ (memI 6 rfl) (by kernel_rfl))
     subst e3
     have e4 := (show v4 = AG [encA .u8 d8] from hf _ (memI 7 rfl) (by kernel_rfl))
     subst e4
     refine WP.eqV (by kernel_rfl) (by kernel_rfl) (EqV.arr (d := 9998) (t := 23) (e := 5) (m := 8) (k := .u8) (x := d7) (y := d8) (by kernel_rfl) (by kernel_rfl)) ?_
     refine WP.dn (Shown.ok (v := .bool (d7.1 == d8.1)) (by kernel_rfl) (Step.refl _ _) ?_)
     exact ⟨tv, tv, tv, tv, tv, tv, tv, tv, tv, rfl, tv, tv⟩
    ·intro vs gq stq hl hf
     obtain ⟨v0, v1, v2, v3, v4, v5, v6, rfl⟩ := len_k7 hl
     have e1 := (show v1 = .bool true from hf _ (memI 4 rfl) (by kernel_rfl))
     subst e1
     have e5 := (show v5 = .bool (d7.1 == d8.1) from hf _ (memI 9 rfl) (by kernel_rfl))
     subst e5
     refine WP.stl 1 ?_
     refine WP.dn (Shown.ok (v := .bool (d7.1 == d8.1)) (by kernel_rfl) (Step.refl _ _) ?_)
     exact ⟨tv, tv, tv, tv, tv, tv, tv, tv, tv, tv, congrArg Value.bool h11, tv⟩
   intro vs g28 st28 hl hf
   obtain ⟨v0, v1, v2, v3, v4, v5, v6, rfl⟩ := len_k7 hl
   have e6 := (show v6 = .bool false from hf _ (memI 10 rfl) (by kernel_rfl))
   subst e6
   replace tot := tot.trans (st28.up1 (.inr (by omega)))
   refine NX.post ?_
   exact ⟨false, ⟨by kernel_rfl, by kernel_rfl⟩, tot, hs⟩
  replace hs := of_if_f hs h10
  refine CP.drawL (by kernel_rfl) [0, 1] N.baizelaw32_StateUnlike_3 [⟨some 0, [], [0], fun l g => l.getD 0 undef = .bool q5⟩, ⟨some 1, [], [1], fun l g => l.getD 0 undef = .bool false⟩] [[], []] [] [] [2, 3, 4, 5, 6, 7, 8, 9, 10, 11, 12, 13, 14, 15, 16, 17, 18, 19] (by kernel_rfl) (by simp) (by simp) ⟨fun _ _ _ _ st h0 hl hj e0 => e0, fun _ _ _ _ st h0 hl hj e1 => e1, tv⟩ ⟨tv, tv, tv⟩ (by kernel_rfl) (fun vs => by kernel_rfl) ?_ ?_ ?_
  ·intro j hj
   have hq : j = 0 ∨ j = 1 ∨ j = 2 ∨ j = 3 ∨ j = 4 ∨ j = 5 ∨ j = 6 ∨ j = 7 ∨ j = 8 ∨ j = 9 ∨ j = 10 ∨ j = 11 ∨ j = 12 ∨ j = 13 ∨ j = 14 ∨ j = 15 ∨ j = 16 ∨ j = 17 := by have h : j < 18 := hj; omega
   rcases hq with rfl | rfl | rfl | rfl | rfl | rfl | rfl | rfl | rfl | rfl | rfl | rfl | rfl | rfl | rfl | rfl | rfl | rfl
   ·intro vs gq stq hl hf
    obtain ⟨v0, v1, rfl⟩ := len_k2 hl
    have e1 := (show v1 = .bool false from hf _ (memI 1 rfl) (by kernel_rfl))
    subst e1
    show Option.isSome _ = true
    kernel_rfl
   ·intro vs gq stq hl hf
    obtain ⟨v0, v1, rfl⟩ := len_k2 hl
    have e1 := (show v1 = .bool false from hf _ (memI 1 rfl) (by kernel_rfl))
    subst e1
    show Option.isSome _ = true
    kernel_rfl
   ·intro vs gq stq hl hf
    obtain ⟨v0, v1, rfl⟩ := len_k2 hl
    have e1 := (show v1 = .bool false from hf _ (memI 1 rfl) (by kernel_rfl))
    subst e1
    show Option.isSome _ = true
    kernel_rfl
   ·intro vs gq stq hl hf
    obtain ⟨v0, v1, rfl⟩ := len_k2 hl
    have e1 := (show v1 = .bool false from hf _ (memI 1 rfl) (by kernel_rfl))
    subst e1
    show Option.isSome _ = true
    kernel_rfl
   ·intro vs gq stq hl hf
    obtain ⟨v0, v1, rfl⟩ := len_k2 hl
    have e1 := (show v1 = .bool false from hf _ (memI 1 rfl) (by kernel_rfl))
    subst e1
    show Option.isSome _ = true
    kernel_rfl
   ·intro vs gq stq hl hf
    obtain ⟨v0, v1, rfl⟩ := len_k2 hl
    have e1 := (show v1 = .bool false from hf _ (memI 1 rfl) (by kernel_rfl))
    subst e1
    show Option.isSome _ = true
    kernel_rfl
   ·intro vs gq stq hl hf
    obtain ⟨v0, v1, rfl⟩ := len_k2 hl
    have e1 := (show v1 = .bool false from hf _ (memI 1 rfl) (by kernel_rfl))
    subst e1
    show Option.isSome _ = true
    kernel_rfl
   ·intro vs gq stq hl hf
    obtain ⟨v0, v1, rfl⟩ := len_k2 hl
    have e1 := (show v1 = .bool false from hf _ (memI 1 rfl) (by kernel_rfl))
    subst e1
    show Option.isSome _ = true
    kernel_rfl
   ·intro vs gq stq hl hf
    obtain ⟨v0, v1, rfl⟩ := len_k2 hl
    have e1 := (show v1 = .bool false from hf _ (memI 1 rfl) (by kernel_rfl))
    subst e1
    show Option.isSome _ = true
    kernel_rfl
   ·intro vs gq stq hl hf
    obtain ⟨v0, v1, rfl⟩ := len_k2 hl
    have e1 := (show v1 = .bool false from hf _ (memI 1 rfl) (by kernel_rfl))
    subst e1
    show Option.isSome _ = true
    kernel_rfl
   ·intro vs gq stq hl hf
    obtain ⟨v0, v1, rfl⟩ := len_k2 hl
    have e1 := (show v1 = .bool false from hf _ (memI 1 rfl) (by kernel_rfl))
    subst e1
    show Option.isSome _ = true
    kernel_rfl
   ·intro vs gq stq hl hf
    obtain ⟨v0, v1, rfl⟩ := len_k2 hl
    have e1 := (show v1 = .bool false from hf _ (memI 1 rfl) (by kernel_rfl))
    subst e1
    show Option.isSome _ = true
    kernel_rfl
   ·intro vs gq stq hl hf
    obtain ⟨v0, v1, rfl⟩ := len_k2 hl
    have e1 := (show v1 = .bool false from hf _ (memI 1 rfl) (by kernel_rfl))
    subst e1
    show Option.isSome _ = true
    kernel_rfl
   ·intro vs gq stq hl hf
    obtain ⟨v0, v1, rfl⟩ := len_k2 hl
    have e1 := (show v1 = .bool false from hf _ (memI 1 rfl) (by kernel_rfl))
    subst e1
    show Option.isSome _ = true
    kernel_rfl
   ·intro vs gq stq hl hf
    obtain ⟨v0, v1, rfl⟩ := len_k2 hl
    have e1 := (show v1 = .bool false from hf _ (memI 1 rfl) (by kernel_rfl))
    subst e1
    show Option.isSome _ = true
    kernel_rfl
   ·intro vs gq stq hl hf
    obtain ⟨v0, v1, rfl⟩ := len_k2 hl
    have e1 := (show v1 = .bool false from hf _ (memI 1 rfl) (by kernel_rfl))
    subst e1
    show Option.isSome _ = true
    kernel_rfl
   ·intro vs gq stq hl hf
    obtain ⟨v0, v1, rfl⟩ := len_k2 hl
    have e1 := (show v1 = .bool false from hf _ (memI 1 rfl) (by kernel_rfl))
    subst e1
    show Option.isSome _ = true
    kernel_rfl
   ·intro vs gq stq hl hf
    obtain ⟨v0, v1, rfl⟩ := len_k2 hl
    have e1 := (show v1 = .bool false from hf _ (memI 1 rfl) (by kernel_rfl))
    subst e1
    show Option.isSome _ = true
    kernel_rfl
  ·intro j hj
   have hq : j = 0 ∨ j = 1 := by have h : j < 2 := hj; omega
   rcases hq with rfl | rfl
   ·intro vs gq stq hl hf
    obtain ⟨v0, v1, rfl⟩ := len_k2 hl
    have hcal12 := P.baizelaw32_told gq q5 hk12
    refine WP.callC hcal12 (by kernel_rfl) ?_
    rintro _ g20 st20 rfl
    refine WP.dn (Shown.o (v := .bool q5) st20.pure ?_)
    exact ⟨rfl, tv, tv⟩
   ·intro vs gq stq hl hf
    obtain ⟨v0, v1, rfl⟩ := len_k2 hl
    have e0 := (show v0 = .bool q5 from hf _ (memI 0 rfl) (by kernel_rfl))
    subst e0
    refine WP.stl 1 ?_
    refine WP.dn (Shown.ok (v := .bool q5) (by kernel_rfl) (Step.refl _ _) ?_)
    exact ⟨tv, congrArg Value.bool h10, tv⟩
  intro vs g29 st29 hl hf
  obtain ⟨v0, v1, rfl⟩ := len_k2 hl
  have e1 := (show v1 = .bool false from hf _ (memI 1 rfl) (by kernel_rfl))
  subst e1
  replace tot := tot.trans st29.toNo.pure
  refine NX.post ?_
  exact ⟨false, ⟨by kernel_rfl, by kernel_rfl⟩, tot, hs⟩
 clear tot hs hB1 hR4 hB2 hR5 hR7
 rintro tm g ⟨q4, hF, tot, hs⟩
 clear ds
 obtain ⟨ds, rfl⟩ := hF.open
 clear hF
 unfold F.baizelaw32_StateUnlike.c3 at hs
 refine CP.ret ?_
 replace hs := Option.some.inj hs
 obtain rfl := hs
 exact NX.fin (v := .bool q4) (Res.still (by kernel_rfl)) tot htL rfl
end Go.Proofs.Ythfmgobnanifnaa
