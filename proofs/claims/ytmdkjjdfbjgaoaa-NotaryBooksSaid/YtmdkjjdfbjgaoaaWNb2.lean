/-
  Walks, written by program: each Go function computes the plain function of its name, in whatever world its arguments' facts hold.
-/
import Derived.Test.YtmdkjjdfbjgaoaaWNb1
namespace Go.Proofs.Ytmdkjjdfbjgaoaa
open Go.RowKit Go.Lab
attribute [local irreducible] WP CP NX wpList Code.wp Calls
set_option maxRecDepth 100000
set_option maxHeartbeats 4000000
set_option linter.unusedVariables false

def N.baizelaw07_NotaryBooks_0 : List (List Nat) := [[], [0], [0, 1], [], [3], [3, 4], [0, 1, 2], [0, 1, 2, 3, 4, 5, 6]]
def N.baizelaw07_NotaryBooks_1 : List (List Nat) := [[], [], [1], [], [1, 2, 3], [], [0, 1, 2, 3, 4, 5], [], [], [], [8, 9], [], [11], [0, 1, 2, 3, 4, 5, 6, 7, 8, 9, 10, 11, 12], [0, 1, 2, 3, 4, 5, 6, 7, 8, 9, 10, 11, 12, 13]]
def N.baizelaw07_NotaryBooks_2 : List (List Nat) := [[], [], [0, 1], [0, 1, 2], [], [], [4, 5], [4, 5, 6], [4, 5, 6, 7], [0, 1, 2, 3, 4, 5, 6, 7, 8]]
def F.baizelaw07_NotaryBooks.l1 (l5 : List (Arr Int 8)) (l6 : List Int) : Nat → Int → Option (Bool)
 | 0, _ => none
 | k + 1, x3 => (if decide (x3 < (l5.length : Int)) = true then (if (0 : Int) ≤ x3 ∧ x3 < (l5.length : Int) then (if (0 : Int) ≤ x3 ∧ x3 < (l6.length : Int) then ((F.baizelaw07_Digest (getI l6 x3)).bind fun d7 => (if (!((getI l5 x3).1 == d7.1)) = true then (some false) else (F.baizelaw07_NotaryBooks.l1 l5 l6 k (IntKind.i64.wrap (x3 + 1))))) else none) else none) else ((F.baizelaw07_told).bind fun q7 => (some q7)))
def F.baizelaw07_NotaryBooks (l1 : List S_baizelaw07_Entry) (x1 : Int) (x2 : Int) (l2 : List Int) : Option (Bool) := (if decide ((l1.length : Int) > 60) = true then ((F.baizelaw07_told).bind fun q1 => (some q1)) else ((F.baizelaw07_book l1).bind fun (l3, d1, l4, q2) => (if (!q2) = true then (some false) else ((F.baizelaw07_Digest (IntKind.u64.wrap x1)).bind fun d2 => ((F.baizelaw07_Digest (IntKind.u64.wrap x2)).bind fun d3 => ((F.notary_Book_Verify l3 d1 d2 d3 l2).bind fun q3 => ((F.baizeref07_Verify l4 (IntKind.u64.wrap x1) (IntKind.u64.wrap x2) (bytesStr l2)).bind fun q4 => (if (!(q3 == q4)) = true then (some false) else ((F.baizelaw07_Digest (IntKind.u64.wrap x1)).bind fun d4 => ((F.notary_Book_Signed l3 d1 d4).bind fun l5 => ((F.baizeref07_Signed l4 (IntKind.u64.wrap x1)).bind fun l6 => (if ((l5.length : Int) != (l6.length : Int)) = true then (some false) else (F.baizelaw07_NotaryBooks.l1 l5 l6 fuel 0)))))))))))))
theorem P.baizelaw07_NotaryBooks (g0 : GW) (l1 : List S_baizelaw07_Entry) (x1 : Int) (x2 : Int) (l2 : List Int) (a1 : Option Addr) (n1 : Nat) (c1 : Nat) (a2 : Option Addr) (n2 : Nat) (c2 : Nat) (hR1 : RdS k_S_baizelaw07_Entry g0 36 a1 n1 c1 l1) (hR2 : RdS (Kd.int .u8) g0 5 a2 n2 c2 l2) (o1 : Bool) (hs : F.baizelaw07_NotaryBooks l1 x1 x2 l2 = some o1) :
  Calls Try.prog 5 #[.slice a1 n1 c1, AG [[.int .u8 x1], [.int .u8 x2]], .slice a2 n2 c2] g0.w (Ret NoM g0 fun v g => v = .bool o1) := by
 refine calls_of (args := [.slice a1 n1 c1, AG [[.int .u8 x1], [.int .u8 x2]], .slice a2 n2 c2]) Try.func5 rfl (0) ?_
 intro t ht htL
 refine ⟨_, rfl, ?_⟩
 refine CP.refr 77 [(0, .slice a1 n1 c1), (1, AG [[.int .u8 x1], [.int .u8 x2]]), (2, .slice a2 n2 c2)] (by kernel_rfl) (by kernel_rfl) ?_
 intro ds
 have tot : Step (fun l => NoM l ∨ t ≤ l) g0 g0 := Step.refl _ _
 unfold F.baizelaw07_NotaryBooks at hs
 refine CP.seqR ?_
 refine WP.alloc (T := 36) (t + 1) [[.int .u8 x1], [.int .u8 x2]] [1, 1] (by kernel_rfl) rfl ?_
 intro g1 b1 st1 hB1
 replace hR1 := hR1.mono st1 (fun x => x)
 replace hR2 := hR2.mono st1 (fun x => x)
 replace tot := tot.trans st1.pure
 refine WP.stl 1 ?_
 refine WP.dn ?_
 refine NX.then_n ?_
 refine CP.seq ?_
 refine CP.seqR ?_
 refine WP.stl 1 ?_
 refine WP.len (a := a1) (cp := c1) hR1.len (by kernel_rfl) ?_
 refine WP.stl 1 ?_
 refine WP.dn ?_
 refine NX.then_n ?_
 refine CP.cond (b := decide ((l1.length : Int) > 60)) (by kernel_rfl) (fun h1 => ?_) (fun h1 => ?_)
 ·replace hs := of_if_t hs h1
  refine CP.seqR ?_
  replace hs := Option.bind_eq_some_iff.1 hs
  obtain ⟨q1, hk1, hs⟩ := hs
  have hcal1 := P.baizelaw07_told g1 q1 hk1
  refine WP.callC hcal1 (by kernel_rfl) ?_
  rintro _ g2 st2 rfl
  replace hR1 := hR1.mono st2 (fun x => x)
  replace hR2 := hR2.mono st2 (fun x => x)
  replace hB1 := hB1.mono st2 (fun x => x)
  replace tot := tot.trans st2.pure
  refine WP.stl 1 ?_
  refine WP.dn ?_
  refine NX.then_n ?_
  refine CP.ret ?_
  refine NX.then_r ?_
  replace hs := Option.some.inj hs
  obtain rfl := hs
  exact NX.fin (v := .bool q1) (Res.still (by kernel_rfl)) tot htL rfl
 replace hs := of_if_f hs h1
 refine CP.skip ?_
 refine NX.then_n ?_
 refine CP.seqR ?_
 refine WP.stl 1 ?_
 replace hs := Option.bind_eq_some_iff.1 hs
 obtain ⟨⟨l3, d1, l4, q2⟩, hk2, hs⟩ := hs
 dsimp only at hs
 have hcal2 := P.baizelaw07_book g1 (t + 2) (t + 3) (t + 4) l1 a1 n1 c1 hR1 l3 d1 l4 q2 hk2
 refine WP.callC hcal2 (by kernel_rfl) ?_
 rintro _ g3 st3 ⟨b2, a3, n3, c3, b3, a4, n4, c4, rfl, hB2, hR3, hB3, hR4⟩
 replace hR1 := hR1.mono st3 (fun x => x)
 replace hR2 := hR2.mono st3 (fun x => x)
 replace hB1 := hB1.mono st3 (fun x => x)
 replace tot := tot.trans st3.pure
 refine WP.stl 7 ?_
 refine WP.dn ?_
 refine NX.then_n ?_
 refine CP.refr 77 [(2, .slice a2 n2 c2), (4, .pointer (some ⟨b1, 0, none⟩)), (7, .pointer (some ⟨b2, 0, none⟩)), (8, .slice a4 n4 c4), (9, .bool q2)] (by kernel_rfl) (by kernel_rfl) ?_
 clear ds
 intro ds
 refine CP.seq ?_
 refine CP.seqR ?_
 refine WP.stl 2 ?_
 refine WP.dn ?_
 refine NX.then_n ?_
 refine CP.cond (b := (!q2)) (by kernel_rfl) (fun h2 => ?_) (fun h2 => ?_)
 ·replace hs := of_if_t hs h2
  refine CP.seqR ?_
  refine WP.stl 1 ?_
  refine WP.dn ?_
  refine NX.then_n ?_
  refine CP.ret ?_
  refine NX.then_r ?_
  replace hs := Option.some.inj hs
  obtain rfl := hs
  exact NX.fin (v := .bool false) (Res.still (by kernel_rfl)) tot htL rfl
 replace hs := of_if_f hs h2
 refine CP.skip ?_
 refine NX.then_n ?_
 refine CP.seq ?_
 refine CP.drawL (by kernel_rfl) [1, 4] N.baizelaw07_NotaryBooks_0 [⟨none, [], [], fun l g => Box g (t + 1) b1 36 [[.int .u8 x1], [.int .u8 x2]] [1, 1]⟩, ⟨some 0, [], [0], fun l g => l.getD 0 undef = .int .u8 x1⟩, ⟨some 1, [], [1], fun l g => l.getD 0 undef = .int .u8 x2⟩] [[], []] [] [0, 3] [2, 5, 6, 7] (by kernel_rfl) (by simp) (by simp) ⟨fun _ _ _ _ st h0 hl hj hB1 => (hB1.mono st (fun h => absurd (hl _ h) (by simp))), fun _ _ _ _ st h0 hl hj e0 => e0, fun _ _ _ _ st h0 hl hj e1 => e1, tv⟩ ⟨hB1, tv, tv, tv⟩ (by kernel_rfl) (fun vs => by kernel_rfl) ?_ ?_ ?_
 ·intro j hj
  have hq : j = 0 ∨ j = 1 ∨ j = 2 ∨ j = 3 := by have h : j < 4 := hj; omega
  rcases hq with rfl | rfl | rfl | rfl
  ·intro vs gq stq hl hf
   obtain ⟨v0, v1, rfl⟩ := len_k2 hl
   have e0 := (show v0 = .int .u8 x1 from hf _ (memI 1 rfl) (by kernel_rfl))
   subst e0
   show Option.isSome _ = true
   kernel_rfl
  ·intro vs gq stq hl hf
   obtain ⟨v0, v1, rfl⟩ := len_k2 hl
   have e1 := (show v1 = .int .u8 x2 from hf _ (memI 2 rfl) (by kernel_rfl))
   subst e1
   show Option.isSome _ = true
   kernel_rfl
  ·intro vs gq stq hl hf
   obtain ⟨v0, v1, rfl⟩ := len_k2 hl
   have e0 := (show v0 = .int .u8 x1 from hf _ (memI 1 rfl) (by kernel_rfl))
   subst e0
   show Option.isSome _ = true
   kernel_rfl
  ·intro vs gq stq hl hf
   obtain ⟨v0, v1, rfl⟩ := len_k2 hl
   have e1 := (show v1 = .int .u8 x2 from hf _ (memI 2 rfl) (by kernel_rfl))
   subst e1
   show Option.isSome _ = true
   kernel_rfl
 ·intro j hj
  have hq : j = 0 ∨ j = 1 := by have h : j < 2 := hj; omega
  rcases hq with rfl | rfl
  ·intro vs gq stq hl hf
   obtain ⟨v0, v1, rfl⟩ := len_k2 hl
   have hB1 := (show Box gq (t + 1) b1 36 [[.int .u8 x1], [.int .u8 x2]] [1, 1] from hf _ (memI 0 rfl) (by kernel_rfl))
   refine WP.loadB (v := .int .u8 x1) hB1 (by kernel_rfl) (by kernel_rfl) ?_
   refine WP.dn (Shown.ok (v := .int .u8 x1) (by kernel_rfl) (Step.refl _ _) ?_)
   exact ⟨tv, rfl, tv, tv⟩
  ·intro vs gq stq hl hf
   obtain ⟨v0, v1, rfl⟩ := len_k2 hl
   have hB1 := (show Box gq (t + 1) b1 36 [[.int .u8 x1], [.int .u8 x2]] [1, 1] from hf _ (memI 0 rfl) (by kernel_rfl))
   refine WP.loadB (v := .int .u8 x2) hB1 (by kernel_rfl) (by kernel_rfl) ?_
   refine WP.dn (Shown.ok (v := .int .u8 x2) (by kernel_rfl) (Step.refl _ _) ?_)
   exact ⟨tv, tv, rfl, tv⟩
 intro vs g4 st4 hl hf
 obtain ⟨v0, v1, rfl⟩ := len_k2 hl
 have e0 := (show v0 = .int .u8 x1 from hf _ (memI 1 rfl) (by kernel_rfl))
 subst e0
 have e1 := (show v1 = .int .u8 x2 from hf _ (memI 2 rfl) (by kernel_rfl))
 subst e1
 replace hR2 := hR2.mono st4.toNo (fun x => x)
 replace hB2 := hB2.mono st4.toNo (fun x => x)
 replace hR3 := hR3.mono st4.toNo (fun x => x) (fun x => x)
 replace hB3 := hB3.mono st4.toNo (fun x => x)
 replace hR4 := hR4.mono st4.toNo (fun x => x)
 replace tot := tot.trans st4.toNo.pure
 refine NX.then_n ?_
 refine CP.refr 77 [(2, .slice a2 n2 c2), (7, .pointer (some ⟨b2, 0, none⟩)), (8, .slice a4 n4 c4), (10, .int .u64 (IntKind.u64.wrap x1)), (11, .int .u64 (IntKind.u64.wrap x2))] (by kernel_rfl) (by kernel_rfl) ?_
 clear ds
 intro ds
 refine CP.seq ?_
 refine CP.seq ?_
 replace hs := Option.bind_eq_some_iff.1 hs
 obtain ⟨d2, hk3, hs⟩ := hs
 replace hs := Option.bind_eq_some_iff.1 hs
 obtain ⟨d3, hk4, hs⟩ := hs
 replace hs := Option.bind_eq_some_iff.1 hs
 obtain ⟨q3, hk5, hs⟩ := hs
 replace hs := Option.bind_eq_some_iff.1 hs
 obtain ⟨q4, hk6, hs⟩ := hs
 refine CP.drawL (by kernel_rfl) [2, 4, 6, 12, 13] N.baizelaw07_NotaryBooks_1 [⟨none, [], [], fun l g => RdS (Kd.int .u8) g 5 a2 n2 c2 l2⟩, ⟨none, [], [], fun l g => Box g (t + 2) b2 84 [[.slice a3 n3 c3], [.map (some b3)]] [1, 1]⟩, ⟨none, [0], [], fun l g => OwnS k_S_notary_entry g (t + 3) 86 a3 n3 c3 l3⟩, ⟨none, [], [], fun l g => MapB g (t + 4) b3 kv_S_notary_entry (Value.int .i64) d1⟩, ⟨none, [], [], fun l g => RdS k_S_baizeref07_Entry g 53 a4 n4 c4 l4⟩, ⟨some 0, [], [0], fun l g => l.getD 0 undef = AG [encA .u8 d2]⟩, ⟨some 1, [], [1], fun l g => l.getD 0 undef = AG [encA .u8 d3]⟩, ⟨some 2, [], [2], fun l g => l.getD 0 undef = .bool q3⟩, ⟨some 2, [0], [], fun l g => OwnS k_S_notary_entry g (t + 3) 86 a3 n3 c3 l3⟩, ⟨some 3, [], [3], fun l g => l.getD 0 undef = .string (bytesStr l2)⟩, ⟨some 4, [], [4], fun l g => l.getD 0 undef = .bool q4⟩] [[], [], [0], [], []] [(t + 3)] [0, 1, 3, 5, 7, 8, 9, 10, 11] [14] (by kernel_rfl) (by simp <;> omega) (by simp) ⟨fun _ _ _ _ st h0 hl hj hR2 => (RdS.mono (e := 5) hR2 st h0), fun _ _ _ _ st h0 hl hj hB2 => (hB2.mono st (fun h => absurd (hl _ h) (by simp <;> omega))), fun _ _ _ _ st h0 hl hj hR3 => (hR3.mono st h0 (hj 0 (by simp) _ rfl)), fun _ _ _ _ st h0 hl hj hB3 => (hB3.mono st (fun h => absurd (hl _ h) (by simp <;> omega))), fun _ _ _ _ st h0 hl hj hR4 => (RdS.mono (e := 53) hR4 st h0), fun _ _ _ _ st h0 hl hj e0 => e0, fun _ _ _ _ st h0 hl hj e1 => e1, fun _ _ _ _ st h0 hl hj e2 => e2, fun _ _ _ _ st h0 hl hj hR3 => (hR3.mono st h0 (hj 0 (by simp) _ rfl)), fun _ _ _ _ st h0 hl hj e3 => e3, fun _ _ _ _ st h0 hl hj e4 => e4, tv⟩ ⟨hR2, hB2, hR3, hB3, hR4, tv, tv, tv, tv, tv, tv, tv⟩ (by kernel_rfl) (fun vs => by kernel_rfl) ?_ ?_ ?_
 ·intro j hj
  have hq : j = 0 := by have h : j < 1 := hj; omega
  rcases hq with rfl
  ·intro vs gq stq hl hf
   obtain ⟨v0, v1, v2, v3, v4, rfl⟩ := len_k5 hl
   have e2 := (show v2 = .bool q3 from hf _ (memI 7 rfl) (by kernel_rfl))
   subst e2
   have e4 := (show v4 = .bool q4 from hf _ (memI 10 rfl) (by kernel_rfl))
   subst e4
   show Option.isSome _ = true
   kernel_rfl
 ·intro j hj
  have hq : j = 0 ∨ j = 1 ∨ j = 2 ∨ j = 3 ∨ j = 4 := by have h : j < 5 := hj; omega
  rcases hq with rfl | rfl | rfl | rfl | rfl
  ·intro vs gq stq hl hf
   obtain ⟨v0, v1, v2, v3, v4, rfl⟩ := len_k5 hl
   have hcal3 := P.baizelaw07_Digest gq (IntKind.u64.wrap x1) d2 hk3
   refine WP.callC hcal3 (by kernel_rfl) ?_
   rintro _ g5 st5 rfl
   refine WP.dn (Shown.o (v := AG [encA .u8 d2]) st5.pure ?_)
   exact ⟨tv, tv, tv, tv, tv, rfl, tv, tv, tv, tv, tv, tv⟩
  ·intro vs gq stq hl hf
   obtain ⟨v0, v1, v2, v3, v4, rfl⟩ := len_k5 hl
   have hcal4 := P.baizelaw07_Digest gq (IntKind.u64.wrap x2) d3 hk4
   refine WP.callC hcal4 (by kernel_rfl) ?_
   rintro _ g6 st6 rfl
   refine WP.dn (Shown.o (v := AG [encA .u8 d3]) st6.pure ?_)
   exact ⟨tv, tv, tv, tv, tv, tv, rfl, tv, tv, tv, tv, tv⟩
  ·intro vs gq stq hl hf
   obtain ⟨v0, v1, v2, v3, v4, rfl⟩ := len_k5 hl
   have hR2 := (show RdS (Kd.int .u8) gq 5 a2 n2 c2 l2 from hf _ (memI 0 rfl) (by kernel_rfl))
   have hB2 := (show Box gq (t + 2) b2 84 [[.slice a3 n3 c3], [.map (some b3)]] [1, 1] from hf _ (memI 1 rfl) (by kernel_rfl))
   have hR3 := (show OwnS k_S_notary_entry gq (t + 3) 86 a3 n3 c3 l3 from hf _ (memI 2 rfl) (by kernel_rfl))
   have hB3 := (show MapB gq (t + 4) b3 kv_S_notary_entry (Value.int .i64) d1 from hf _ (memI 3 rfl) (by kernel_rfl))
   have e0 := (show v0 = AG [encA .u8 d2] from hf _ (memI 5 rfl) (by kernel_rfl))
   subst e0
   have e1 := (show v1 = AG [encA .u8 d3] from hf _ (memI 6 rfl) (by kernel_rfl))
   subst e1
   have hS1 : 0 ∉ ([(t + 3)] : List Nat) := by simp <;> omega
   have stl1 := GW.lend_step gq [(t + 3)]
   have hRl1 := hR3.lendTo hS1 (by simp)
   refine WP.regw (g' := GW.lend gq [(t + 3)]) rfl ?_
   have hcal5 := P.notary_Book_Verify (GW.lend gq [(t + 3)]) (t + 2) (t + 4) l3 d1 d2 d3 l2 a3 n3 c3 a2 n2 c2 b2 b3 hRl1 (hR2.mono stl1 (WL.no (by simp <;> omega))) (hB3.mono stl1 (WL.no (by simp <;> omega))) (hB2.mono stl1 (WL.no (by simp <;> omega))) (by omega) (by omega) (by omega) q3 hk5
   refine WP.callC hcal5 (by kernel_rfl) ?_
   rintro _ g7 st7 rfl
   have st8 := (GW.back_step st7).lentS
   have hO1 := hR3.backTo hS1 (by simp) st7 (fun x => x)
   refine WP.regw (g' := GW.back gq g7 [(t + 3)]) rfl ?_
   generalize GW.back gq g7 [(t + 3)] = g8 at *
   refine WP.dn (Shown.o (v := .bool q3) st8 ?_)
   exact ⟨tv, tv, tv, tv, tv, tv, tv, rfl, hO1, tv, tv, tv⟩
  ·intro vs gq stq hl hf
   obtain ⟨v0, v1, v2, v3, v4, rfl⟩ := len_k5 hl
   have hR2 := (show RdS (Kd.int .u8) gq 5 a2 n2 c2 l2 from hf _ (memI 0 rfl) (by kernel_rfl))
   refine WP.toStr (a := a2) (cp := c2) hR2.src hR2.len (by kernel_rfl) ?_
   refine WP.dn (Shown.ok (v := .string (bytesStr l2)) (by kernel_rfl) (Step.refl _ _) ?_)
   exact ⟨tv, tv, tv, tv, tv, tv, tv, tv, tv, rfl, tv, tv⟩
  ·intro vs gq stq hl hf
   obtain ⟨v0, v1, v2, v3, v4, rfl⟩ := len_k5 hl
   have hR4 := (show RdS k_S_baizeref07_Entry gq 53 a4 n4 c4 l4 from hf _ (memI 4 rfl) (by kernel_rfl))
   have e3 := (show v3 = .string (bytesStr l2) from hf _ (memI 9 rfl) (by kernel_rfl))
   subst e3
   have hcal6 := P.baizeref07_Verify gq l4 (IntKind.u64.wrap x1) (IntKind.u64.wrap x2) (bytesStr l2) a4 n4 c4 hR4 q4 hk6
   refine WP.callC hcal6 (by kernel_rfl) ?_
   rintro _ g9 st9 rfl
   refine WP.dn (Shown.o (v := .bool q4) st9.pure ?_)
   exact ⟨tv, tv, tv, tv, tv, tv, tv, tv, tv, tv, rfl, tv⟩
 intro vs g10 st10 hl hf
 obtain ⟨v0, v1, v2, v3, v4, rfl⟩ := len_k5 hl
 have e2 := (show v2 = .bool q3 from hf _ (memI 7 rfl) (by kernel_rfl))
 subst e2
 have hR3 := (show OwnS k_S_notary_entry g10 (t + 3) 86 a3 n3 c3 l3 from hf _ (memI 8 rfl) (by kernel_rfl))
 have e4 := (show v4 = .bool q4 from hf _ (memI 10 rfl) (by kernel_rfl))
 subst e4
 replace hB2 := hB2.mono st10 (WL.no1 (by omega))
 replace hB3 := hB3.mono st10 (WL.no1 (by omega))
 replace hR4 := hR4.mono st10 (WL.no1 (by omega))
 replace tot := tot.trans (st10.up1 (.inr (by omega)))
 refine NX.then_n ?_
 refine CP.refr 77 [(7, .pointer (some ⟨b2, 0, none⟩)), (8, .slice a4 n4 c4), (10, .int .u64 (IntKind.u64.wrap x1)), (47, .bool (!(q3 == q4)))] (by kernel_rfl) (by kernel_rfl) ?_
 clear ds
 intro ds
 refine CP.cond (b := (!(q3 == q4))) (by kernel_rfl) (fun h3 => ?_) (fun h3 => ?_)
 ·replace hs := of_if_t hs h3
  refine CP.seqR ?_
  refine WP.stl 1 ?_
  refine WP.dn ?_
  refine NX.then_n ?_
  refine CP.ret ?_
  refine NX.then_r ?_
  replace hs := Option.some.inj hs
  obtain rfl := hs
  exact NX.fin (v := .bool false) (Res.still (by kernel_rfl)) tot htL rfl
 replace hs := of_if_f hs h3
 refine CP.skip ?_
 refine NX.then_n ?_
 refine CP.seqR ?_
 refine WP.stl 2 ?_
 replace hs := Option.bind_eq_some_iff.1 hs
 obtain ⟨d4, hk7, hs⟩ := hs
 have hcal7 := P.baizelaw07_Digest g10 (IntKind.u64.wrap x1) d4 hk7
 refine WP.callC hcal7 (by kernel_rfl) ?_
 rintro _ g11 st11 rfl
 replace hB2 := hB2.mono st11 (fun x => x)
 replace hR3 := hR3.mono st11 (fun x => x) (fun x => x)
 replace hB3 := hB3.mono st11 (fun x => x)
 replace hR4 := hR4.mono st11 (fun x => x)
 replace tot := tot.trans st11.pure
 replace hs := Option.bind_eq_some_iff.1 hs
 obtain ⟨l5, hk8, hs⟩ := hs
 obtain ⟨g13, hw1, st13, hnew⟩ := hR3.freeze (by omega)
 refine WP.regw hw1 ?_
 replace hB2 := hB2.mono st13 (WL.no1 (by omega))
 replace hB3 := hB3.mono st13 (WL.no1 (by omega))
 replace hR4 := hR4.mono st13 (WL.no1 (by omega))
 replace tot := tot.trans (st13.up1 (.inr (by omega)))
 clear hR3
 have hR3 := hnew
 clear hnew
 have hcal8 := P.notary_Book_Signed g13 (t + 2) (t + 4) (t + 5) l3 d1 d4 a3 n3 c3 b2 b3 hR3 hB3 hB2 (by omega) (by omega) (by omega) l5 hk8
 refine WP.callC hcal8 (by kernel_rfl) ?_
 rintro _ g12 st12 ⟨a5, n5, c5, rfl, hR5⟩
 replace hB2 := hB2.mono st12 (fun x => x)
 replace hR3 := hR3.mono st12 (fun x => x)
 replace hB3 := hB3.mono st12 (fun x => x)
 replace hR4 := hR4.mono st12 (fun x => x)
 replace tot := tot.trans st12.pure
 refine WP.stl 2 ?_
 replace hs := Option.bind_eq_some_iff.1 hs
 obtain ⟨l6, hk9, hs⟩ := hs
 have hcal9 := P.baizeref07_Signed g12 (t + 6) l4 (IntKind.u64.wrap x1) a4 n4 c4 hR4 l6 hk9
 refine WP.callC hcal9 (by kernel_rfl) ?_
 rintro _ g14 st14 ⟨a6, n6, c6, rfl, hR6⟩
 replace hB2 := hB2.mono st14 (fun x => x)
 replace hR3 := hR3.mono st14 (fun x => x)
 replace hB3 := hB3.mono st14 (fun x => x)
 replace hR4 := hR4.mono st14 (fun x => x)
 replace hR5 := hR5.mono st14 (fun x => x) (fun x => x)
 replace tot := tot.trans st14.pure
 refine WP.stl 2 ?_
 refine WP.dn ?_
 refine NX.then_n ?_
 refine CP.seq ?_
 refine CP.seqR ?_
 refine WP.stl 1 ?_
 refine WP.len (a := a5) (cp := c5) hR5.len (by kernel_rfl) ?_
 refine WP.stl 1 ?_
 refine WP.len (a := a6) (cp := c6) hR6.len (by kernel_rfl) ?_
 refine WP.stl 1 ?_
 refine WP.dn ?_
 refine NX.then_n ?_
 refine CP.refr 77 [(12, .slice a5 n5 c5), (13, .slice a6 n6 c6), (59, .bool ((l5.length : Int) != (l6.length : Int)))] (by kernel_rfl) (by kernel_rfl) ?_
 clear ds
 intro ds
 refine CP.cond (b := ((l5.length : Int) != (l6.length : Int))) (by kernel_rfl) (fun h4 => ?_) (fun h4 => ?_)
 ·replace hs := of_if_t hs h4
  refine CP.seqR ?_
  refine WP.stl 1 ?_
  refine WP.dn ?_
  refine NX.then_n ?_
  refine CP.ret ?_
  refine NX.then_r ?_
  replace hs := Option.some.inj hs
  obtain rfl := hs
  exact NX.fin (v := .bool false) (Res.still (by kernel_rfl)) tot htL rfl
 replace hs := of_if_f hs h4
 refine CP.skip ?_
 refine NX.then_n ?_
 refine CP.seq ?_
 refine CP.seqR ?_
 refine WP.stl 1 ?_
 refine WP.dn ?_
 refine NX.then_n ?_
 refine CP.block ?_
 generalize fuel = k1 at hs
 refine CP.loop (fun k1 tm g => ∃ (x3 : Int), Fr 77 [(12, .slice a5 n5 c5), (13, .slice a6 n6 c6), (14, .int .i64 x3)] tm ∧ Step (fun l => NoM l ∨ t ≤ l) g0 g ∧ OwnS (Kd.arrI 8 .u8) g (t + 5) 32 a5 n5 c5 l5 ∧ OwnS (Kd.int .u64) g (t + 6) 34 a6 n6 c6 l6 ∧ F.baizelaw07_NotaryBooks.l1 l5 l6 k1 x3 = some o1) k1 ?_ ?_ ?_
 ·exact ⟨0, ⟨by kernel_rfl, by kernel_rfl⟩, tot, hR5, hR6, hs⟩
 ·rintro tm g ⟨x3, hF, tot, hR5, hR6, hs⟩
  exact absurd hs (by simp [F.baizelaw07_NotaryBooks.l1])
 clear tot hs hR5 hR6
 rintro k1 tm g ⟨x3, hF, tot, hR5, hR6, hs⟩
 clear ds
 obtain ⟨ds, rfl⟩ := hF.open
 clear hF
 unfold F.baizelaw07_NotaryBooks.l1 at hs
 refine CP.seq ?_
 refine CP.seqR ?_
 refine WP.stl 2 ?_
 refine WP.len (a := a5) (cp := c5) hR5.len (by kernel_rfl) ?_
 refine WP.stl 1 ?_
 refine WP.dn ?_
 refine NX.then_n ?_
 refine CP.cond (b := decide (x3 < (l5.length : Int))) (by kernel_rfl) (fun h9 => ?_) (fun h9 => ?_)
 ·replace hs := of_if_t hs h9
  refine CP.skip ?_
  refine NX.then_n ?_
  refine CP.seq ?_
  refine CP.block ?_
  refine CP.seq ?_
  by_cases hc5 : (0 : Int) ≤ x3 ∧ x3 < (l5.length : Int)
  case neg => rw [if_neg hc5] at hs; cases hs
  replace hs := of_if_p hs hc5
  by_cases hc6 : (0 : Int) ≤ x3 ∧ x3 < (l6.length : Int)
  case neg => rw [if_neg hc6] at hs; cases hs
  replace hs := of_if_p hs hc6
  replace hs := Option.bind_eq_some_iff.1 hs
  obtain ⟨d7, hk14, hs⟩ := hs
  obtain ⟨b8, u5, ha5⟩ := hR5.at hc5
  obtain ⟨b9, u6, ha6⟩ := hR6.at hc6
  refine CP.drawL (by kernel_rfl) [2, 3, 6, 7, 8, 9] N.baizelaw07_NotaryBooks_2 [⟨none, [], [], fun l g => OwnS (Kd.arrI 8 .u8) g (t + 5) 32 a5 n5 c5 l5⟩, ⟨none, [], [], fun l g => OwnS (Kd.int .u64) g (t + 6) 34 a6 n6 c6 l6⟩, ⟨some 0, [], [0], fun l g => l.getD 0 undef = .pointer (some ⟨b8, u5 + x3.toNat * 8, none⟩)⟩, ⟨some 1, [], [1], fun l g => l.getD 0 undef = AG [encA .u8 (getI l5 x3)]⟩, ⟨some 2, [], [2], fun l g => l.getD 0 undef = .pointer (some ⟨b9, u6 + x3.toNat * 1, none⟩)⟩, ⟨some 3, [], [3], fun l g => l.getD 0 undef = .int .u64 (getI l6 x3)⟩, ⟨some 4, [], [4], fun l g => l.getD 0 undef = AG [encA .u8 d7]⟩, ⟨some 5, [], [5], fun l g => l.getD 0 undef = .bool (!((getI l5 x3).1 == d7.1))⟩] [[], [], [], [], [], []] [] [0, 1, 4, 5] [] (by kernel_rfl) (by simp) (by simp) ⟨fun _ _ _ _ st h0 hl hj hR5 => (hR5.mono st h0 (fun h => absurd (hl _ h) (by simp))), fun _ _ _ _ st h0 hl hj hR6 => (hR6.mono st h0 (fun h => absurd (hl _ h) (by simp))), fun _ _ _ _ st h0 hl hj e0 => e0, fun _ _ _ _ st h0 hl hj e1 => e1, fun _ _ _ _ st h0 hl hj e2 => e2, fun _ _ _ _ st h0 hl hj e3 => e3, fun _ _ _ _ st h0 hl hj e4 => e4, fun _ _ _ _ st h0 hl hj e5 => e5, tv⟩ ⟨hR5, hR6, tv, tv, tv, tv, tv, tv, tv⟩ (by kernel_rfl) (fun vs => by kernel_rfl) ?_ ?_ ?_
  ·intro j hj; exact absurd hj (by simp)
  ·intro j hj
   have hq : j = 0 ∨ j = 1 ∨ j = 2 ∨ j = 3 ∨ j = 4 ∨ j = 5 := by have h : j < 6 := hj; omega
   rcases hq with rfl | rfl | rfl | rfl | rfl | rfl
   ·intro vs gq stq hl hf
    obtain ⟨v0, v1, v2, v3, v4, v5, rfl⟩ := len_k6 hl
    have hR5 := (show OwnS (Kd.arrI 8 .u8) gq (t + 5) 32 a5 n5 c5 l5 from hf _ (memI 0 rfl) (by kernel_rfl))
    refine WP.indexA (t := 48) (e := 32) (sz := 8) (cap := c5) (k := .i64) (i := x3) hR5.len ha5 (by kernel_rfl) (by kernel_rfl) hc5 ?_
    refine WP.dn (Shown.ok (v := .pointer (some ⟨b8, u5 + x3.toNat * 8, none⟩)) (by kernel_rfl) (Step.refl _ _) ?_)
    exact ⟨tv, tv, rfl, tv, tv, tv, tv, tv, tv⟩
   ·intro vs gq stq hl hf
    obtain ⟨v0, v1, v2, v3, v4, v5, rfl⟩ := len_k6 hl
    have hR5 := (show OwnS (Kd.arrI 8 .u8) gq (t + 5) 32 a5 n5 c5 l5 from hf _ (memI 0 rfl) (by kernel_rfl))
    have e0 := (show v0 = .pointer (some ⟨b8, u5 + x3.toNat * 8, none⟩) from hf _ (memI 2 rfl) (by kernel_rfl))
    subst e0
    obtain ⟨cs5, hcR5, hcV5⟩ := hR5.src.view (getI_some hc5) ha5
    replace hcR5 := Kd.o_arr hcR5
    refine WP.loadV [encA .u8 (getI l5 x3)] [8] hcV5 hcR5 (by simp [len_encA]) (f := 0) (ty := 32) (agg := true) (size := 8) (rs := [encA .u8 (getI l5 x3)]) (v := AG [encA .u8 (getI l5 x3)]) (by kernel_rfl) (by kernel_rfl) (by kernel_rfl) (by kernel_rfl) ?_
    refine WP.dn (Shown.ok (v := AG [encA .u8 (getI l5 x3)]) (by kernel_rfl) (Step.refl _ _) ?_)
    exact ⟨tv, tv, tv, rfl, tv, tv, tv, tv, tv⟩
   ·intro vs gq stq hl hf
    obtain ⟨v0, v1, v2, v3, v4, v5, rfl⟩ := len_k6 hl
    have hR6 := (show OwnS (Kd.int .u64) gq (t + 6) 34 a6 n6 c6 l6 from hf _ (memI 1 rfl) (by kernel_rfl))
    refine WP.indexA (t := 43) (e := 34) (sz := 1) (cap := c6) (k := .i64) (i := x3) hR6.len ha6 (by kernel_rfl) (by kernel_rfl) hc6 ?_
    refine WP.dn (Shown.ok (v := .pointer (some ⟨b9, u6 + x3.toNat * 1, none⟩)) (by kernel_rfl) (Step.refl _ _) ?_)
    exact ⟨tv, tv, tv, tv, rfl, tv, tv, tv, tv⟩
   ·intro vs gq stq hl hf
    obtain ⟨v0, v1, v2, v3, v4, v5, rfl⟩ := len_k6 hl
    have hR6 := (show OwnS (Kd.int .u64) gq (t + 6) 34 a6 n6 c6 l6 from hf _ (memI 1 rfl) (by kernel_rfl))
    have e2 := (show v2 = .pointer (some ⟨b9, u6 + x3.toNat * 1, none⟩) from hf _ (memI 4 rfl) (by kernel_rfl))
    subst e2
    obtain ⟨cs6, hcR6, hcV6⟩ := hR6.src.view (getI_some hc6) ha6
    replace hcR6 := Kd.o_int hcR6
    refine WP.loadV [[.int .u64 (getI l6 x3)]] [1] hcV6 hcR6 rfl (f := 0) (ty := 34) (agg := false) (size := 1) (rs := [[.int .u64 (getI l6 x3)]]) (v := .int .u64 (getI l6 x3)) (by kernel_rfl) (by kernel_rfl) (by kernel_rfl) (by kernel_rfl) ?_
    refine WP.dn (Shown.ok (v := .int .u64 (getI l6 x3)) (by kernel_rfl) (Step.refl _ _) ?_)
    exact ⟨tv, tv, tv, tv, tv, rfl, tv, tv, tv⟩
   ·intro vs gq stq hl hf
    obtain ⟨v0, v1, v2, v3, v4, v5, rfl⟩ := len_k6 hl
    have e3 := (show v3 = .int .u64 (getI l6 x3) from hf _ (memI 5 rfl) (by kernel_rfl))
    subst e3
    have hcal14 := P.baizelaw07_Digest gq (getI l6 x3) d7 hk14
    refine WP.callC hcal14 (by kernel_rfl) ?_
    rintro _ g19 st19 rfl
    refine WP.dn (Shown.o (v := AG [encA .u8 d7]) st19.pure ?_)
    exact ⟨tv, tv, tv, tv, tv, tv, rfl, tv, tv⟩
   ·intro vs gq stq hl hf
    obtain ⟨v0, v1, v2, v3, v4, v5, rfl⟩ := len_k6 hl
    have e1 := (show v1 = AG [encA .u8 (getI l5 x3)] from hf _ (memI 3 rfl) (by kernel_rfl))
    subst e1
    have e4 := (show v4 = AG [encA .u8 d7] from hf _ (memI 6 rfl) (by kernel_rfl))
    subst e4
    refine WP.neV (by kernel_rfl) (by kernel_rfl) (EqV.arr (d := 9998) (t := 32) (e := 5) (m := 8) (k := .u8) (x := (getI l5 x3)) (y := d7) (by kernel_rfl) (by kernel_rfl)) ?_
    refine WP.dn (Shown.ok (v := .bool (!((getI l5 x3).1 == d7.1))) (by kernel_rfl) (Step.refl _ _) ?_)
    exact ⟨tv, tv, tv, tv, tv, tv, tv, rfl, tv⟩
  intro vs g20 st20 hl hf
  obtain ⟨v0, v1, v2, v3, v4, v5, rfl⟩ := len_k6 hl
  have e5 := (show v5 = .bool (!((getI l5 x3).1 == d7.1)) from hf _ (memI 7 rfl) (by kernel_rfl))
  subst e5
  replace hR5 := hR5.mono st20.toNo (fun x => x) (fun x => x)
  replace hR6 := hR6.mono st20.toNo (fun x => x) (fun x => x)
  replace tot := tot.trans st20.toNo.pure
  refine NX.then_n ?_
  refine CP.refr 77 [(12, .slice a5 n5 c5), (13, .slice a6 n6 c6), (14, .int .i64 x3), (75, .bool (!((getI l5 x3).1 == d7.1)))] (by kernel_rfl) (by kernel_rfl) ?_
  clear ds
  intro ds
  refine CP.cond (b := (!((getI l5 x3).1 == d7.1))) (by kernel_rfl) (fun h10 => ?_) (fun h10 => ?_)
  ·replace hs := of_if_t hs h10
   refine CP.seqR ?_
   refine WP.stl 1 ?_
   refine WP.dn ?_
   refine NX.then_n ?_
   refine CP.ret ?_
   refine NX.block_r ?_
   refine NX.then_r ?_
   refine NX.then_r ?_
   refine NX.block_r ?_
   refine NX.then_r ?_
   replace hs := Option.some.inj hs
   obtain rfl := hs
   exact NX.fin (v := .bool false) (Res.still (by kernel_rfl)) tot htL rfl
  replace hs := of_if_f hs h10
  refine CP.skip ?_
  refine NX.block_n ?_
  refine NX.then_n ?_
  refine CP.region ?_
  refine WP.stl 3 ?_
  refine WP.dn ?_
  refine NX.post ?_
  exact ⟨(IntKind.i64.wrap (x3 + 1)), ⟨by kernel_rfl, by kernel_rfl⟩, tot, hR5, hR6, hs⟩
 replace hs := of_if_f hs h9
 refine CP.exit ?_
 refine NX.then_e ?_
 refine NX.then_e ?_
 refine NX.block_s ?_
 refine NX.then_n ?_
 refine CP.seqR ?_
 replace hs := Option.bind_eq_some_iff.1 hs
 obtain ⟨q7, hk15, hs⟩ := hs
 have hcal15 := P.baizelaw07_told g q7 hk15
 refine WP.callC hcal15 (by kernel_rfl) ?_
 rintro _ g21 st21 rfl
 replace tot := tot.trans st21.pure
 refine WP.stl 1 ?_
 refine WP.dn ?_
 refine NX.then_n ?_
 refine CP.ret ?_
 replace hs := Option.some.inj hs
 obtain rfl := hs
 exact NX.fin (v := .bool q7) (Res.still (by kernel_rfl)) tot htL rfl
def N.baizelaw07_NotaryHolds_0 : List (List Nat) := [[], [], [], [1, 2], [1, 2, 3], [1, 2, 3, 4], [1, 2, 3, 4, 5], [1, 2, 3, 4, 5, 6], [0], [0, 8], [0, 8, 9], [0, 1, 2, 3, 4, 5, 6, 7, 8, 9, 10], [0, 1, 2, 3, 4, 5, 6, 7, 8, 9, 10, 11], [0, 1, 2, 3, 4, 5, 6, 7, 8, 9, 10, 11, 12], [0, 1, 2, 3, 4, 5, 6, 7, 8, 9, 10, 11, 12], [0, 1, 2, 3, 4, 5, 6, 7, 8, 9, 10, 11, 12, 13], [0, 1, 2, 3, 4, 5, 6, 7, 8, 9, 10, 11, 12, 13, 14, 15]]
def N.baizelaw07_NotaryHolds_1 : List (List Nat) := [[], [], [], [1, 2], [1, 2, 3], [1, 2, 3, 4], [1, 2, 3, 4, 5], [1, 2, 3, 4, 5, 6], [], [], [8, 9], [8, 9, 10], [8, 9, 10, 11], [8, 9, 10, 11, 12], [1, 2, 3, 4, 5, 6, 7, 8, 9, 10, 11, 12, 13], [], [0, 1, 2, 3, 4, 5, 6, 7, 8, 9, 10, 11, 12, 13, 14, 15], [], [], [17, 18], [17, 18, 19], [], [], [21, 22], [21, 22, 23], [17, 18, 19, 20, 21, 22, 23, 24], [0, 1, 2, 3, 4, 5, 6, 7, 8, 9, 10, 11, 12, 13, 14, 15, 16, 17, 18, 19, 20, 21, 22, 23, 24, 25]]
def F.baizelaw07_NotaryHolds.l2 (nx1 : (List S_notary_entry) → (List (S_notary_entry × Int)) → Int → Option (Bool)) (l1 : List S_baizelaw07_Entry) (x4 : Int) (l8 : List Int) (d23 : (List (S_notary_entry × Int))) (d24 : (List S_notary_entry)) : Nat → Int → Option (Bool)
 | 0, _ => none
 | k + 1, x10 => (if decide (x10 < (l1.length : Int)) = true then (if (0 : Int) ≤ x10 ∧ x10 < (l1.length : Int) then ((F.baizelaw07_Digest (IntKind.u64.wrap ((getI l1 x10).f1))).bind fun d29 => (if (0 : Int) ≤ x10 ∧ x10 < (l1.length : Int) then ((F.baizelaw07_Digest (IntKind.u64.wrap ((getI l1 x10).f2))).bind fun d30 => ((F.notary_Book_Verify d24 d23 d29 d30 l8).bind fun q11 => (if (0 : Int) ≤ x10 ∧ x10 < (l1.length : Int) then (if (0 : Int) ≤ x4 ∧ x4 < (l1.length : Int) then (if (!(q11 == ((((getI l1 x10).f1) == ((getI l1 x4).f1)) && (((getI l1 x10).f2) == ((getI l1 x4).f2))))) = true then (some false) else (F.baizelaw07_NotaryHolds.l2 nx1 l1 x4 l8 d23 d24 k (IntKind.i64.wrap (x10 + 1)))) else none) else none))) else none)) else none) else (nx1 d24 d23 (IntKind.i64.wrap (x4 + 1))))
def F.baizelaw07_NotaryHolds.l1 (l1 : List S_baizelaw07_Entry) : Nat → (List S_notary_entry) → (List (S_notary_entry × Int)) → Int → Option (Bool)
 | 0, _, _, _ => none
 | k + 1, l5, w1, x4 => (if decide (x4 < (l1.length : Int)) = true then (if (0 : Int) ≤ x4 ∧ x4 < (l1.length : Int) then ((F.baizelaw07_Digest (IntKind.u64.wrap ((getI l1 x4).f1))).bind fun d20 => ((F.notary_Book_Signer l5 w1 d20).bind fun d21 => (if (0 : Int) ≤ x4 ∧ x4 < (l1.length : Int) then ((F.baizelaw07_Digest (IntKind.u64.wrap ((getI l1 x4).f2))).bind fun d22 => ((F.notary_bookSigner_Sign l5 w1 d21 d22).bind fun (l8, x9, d23, d24) => (if (x9 != 0) = true then (some false) else (F.baizelaw07_NotaryHolds.l2 (F.baizelaw07_NotaryHolds.l1 l1 k) l1 x4 l8 d23 d24 fuel 0)))) else none))) else none) else ((F.baizelaw07_told).bind fun q12 => (some q12)))
def F.baizelaw07_NotaryHolds (l1 : List S_baizelaw07_Entry) : Option (Bool) := (if decide ((l1.length : Int) > 30) = true then ((F.baizelaw07_told).bind fun q1 => (some q1)) else ((F.baizelaw07_book l1).bind fun (l2, d1, l3, q2) => (if (!q2) = true then (some false) else (F.baizelaw07_NotaryHolds.l1 l1 fuel l2 d1 0))))
theorem P.baizelaw07_NotaryHolds (g0 : GW) (l1 : List S_baizelaw07_Entry) (a1 : Option Addr) (n1 : Nat) (c1 : Nat) (hR1 : RdS k_S_baizelaw07_Entry g0 36 a1 n1 c1 l1) (o1 : Bool) (hs : F.baizelaw07_NotaryHolds l1 = some o1) :
  Calls Try.prog 3 #[.slice a1 n1 c1] g0.w (Ret NoM g0 fun v g => v = .bool o1) := by
 refine calls_of (args := [.slice a1 n1 c1]) Try.func3 rfl (0) ?_
 intro t ht htL
 refine ⟨_, rfl, ?_⟩
 refine CP.refr 91 [(0, .slice a1 n1 c1)] (by kernel_rfl) (by kernel_rfl) ?_
 intro ds
 have tot : Step (fun l => NoM l ∨ t ≤ l) g0 g0 := Step.refl _ _
 unfold F.baizelaw07_NotaryHolds at hs
 refine CP.seqR ?_
 refine WP.stl 1 ?_
 refine WP.dn ?_
 refine NX.then_n ?_
 refine CP.seq ?_
 refine CP.seqR ?_
 refine WP.stl 1 ?_
 refine WP.len (a := a1) (cp := c1) hR1.len (by kernel_rfl) ?_
 refine WP.stl 1 ?_
 refine WP.dn ?_
 refine NX.then_n ?_
 refine CP.cond (b := decide ((l1.length : Int) > 30)) (by kernel_rfl) (fun h1 => ?_) (fun h1 => ?_)
 ·replace hs := of_if_t hs h1
  refine CP.seqR ?_
  replace hs := Option.bind_eq_some_iff.1 hs
  obtain ⟨q1, hk1, hs⟩ := hs
  have hcal1 := P.baizelaw07_told g0 q1 hk1
  refine WP.callC hcal1 (by kernel_rfl) ?_
  rintro _ g1 st1 rfl
  replace hR1 := hR1.mono st1 (fun x => x)
  replace tot := tot.trans st1.pure
  refine WP.stl 1 ?_
  refine WP.dn ?_
  refine NX.then_n ?_
  refine CP.ret ?_
  refine NX.then_r ?_
  replace hs := Option.some.inj hs
  obtain rfl := hs
  exact NX.fin (v := .bool q1) (Res.still (by kernel_rfl)) tot htL rfl
 replace hs := of_if_f hs h1
 refine CP.skip ?_
 refine NX.then_n ?_
 refine CP.seqR ?_
 refine WP.stl 1 ?_
 replace hs := Option.bind_eq_some_iff.1 hs
 obtain ⟨⟨l2, d1, l3, q2⟩, hk2, hs⟩ := hs
 dsimp only at hs
 have hcal2 := P.baizelaw07_book g0 (t + 1) (t + 2) (t + 3) l1 a1 n1 c1 hR1 l2 d1 l3 q2 hk2
 refine WP.callC hcal2 (by kernel_rfl) ?_
 rintro _ g2 st2 ⟨b1, a2, n2, c2, b2, a3, n3, c3, rfl, hB1, hR2, hB2, hR3⟩
 replace hR1 := hR1.mono st2 (fun x => x)
 replace tot := tot.trans st2.pure
 refine WP.stl 7 ?_
 refine WP.dn ?_
 refine NX.then_n ?_
 refine CP.refr 91 [(0, .slice a1 n1 c1), (3, .pointer (some ⟨b1, 0, none⟩)), (5, .bool q2)] (by kernel_rfl) (by kernel_rfl) ?_
 clear ds
 intro ds
 refine CP.seq ?_
 refine CP.seqR ?_
 refine WP.stl 2 ?_
 refine WP.dn ?_
 refine NX.then_n ?_
 refine CP.cond (b := (!q2)) (by kernel_rfl) (fun h2 => ?_) (fun h2 => ?_)
 ·replace hs := of_if_t hs h2
  refine CP.seqR ?_
  refine WP.stl 1 ?_
  refine WP.dn ?_
  refine NX.then_n ?_
  refine CP.ret ?_
  refine NX.then_r ?_
  replace hs := Option.some.inj hs
  obtain rfl := hs
  exact NX.fin (v := .bool false) (Res.still (by kernel_rfl)) tot htL rfl
 replace hs := of_if_f hs h2
 refine CP.skip ?_
 refine NX.then_n ?_
 refine CP.seq ?_
 refine CP.seqR ?_
 refine WP.stl 1 ?_
 refine WP.dn ?_
 refine NX.then_n ?_
 refine CP.block ?_
 generalize fuel = k1 at hs
 refine CP.loop (fun k1 tm g => ∃ (l5 : List S_notary_entry) (a6 : Option Addr) (n6 : Nat) (c6 : Nat) (w1 : (List (S_notary_entry × Int))) (x4 : Int), Fr 91 [(0, .slice a1 n1 c1), (3, .pointer (some ⟨b1, 0, none⟩)), (6, .int .i64 x4)] tm ∧ Step (fun l => NoM l ∨ t ≤ l) g0 g ∧ RdS k_S_baizelaw07_Entry g 36 a1 n1 c1 l1 ∧ Box g (t + 1) b1 84 [[.slice a6 n6 c6], [.map (some b2)]] [1, 1] ∧ OwnS k_S_notary_entry g (t + 2) 86 a6 n6 c6 l5 ∧ MapB g (t + 3) b2 kv_S_notary_entry (Value.int .i64) w1 ∧ F.baizelaw07_NotaryHolds.l1 l1 k1 l5 w1 x4 = some o1) k1 ?_ ?_ ?_
 ·exact ⟨l2, a2, n2, c2, d1, 0, ⟨by kernel_rfl, by kernel_rfl⟩, tot, hR1, hB1, hR2, hB2, hs⟩
 ·rintro tm g ⟨l5, a6, n6, c6, w1, x4, hF, tot, hR1, hB1, hR6, hB2, hs⟩
  exact absurd hs (by simp [F.baizelaw07_NotaryHolds.l1])
 clear tot hs hR1 hB1 hR2 hB2
 rintro k1 tm g ⟨l5, a6, n6, c6, w1, x4, hF, tot, hR1, hB1, hR6, hB2, hs⟩
 clear ds
 obtain ⟨ds, rfl⟩ := hF.open
 clear hF
 unfold F.baizelaw07_NotaryHolds.l1 at hs
 refine CP.seq ?_
 refine CP.seqR ?_
 refine WP.stl 2 ?_
 refine WP.len (a := a1) (cp := c1) hR1.len (by kernel_rfl) ?_
 refine WP.stl 1 ?_
 refine WP.dn ?_
 refine NX.then_n ?_
 refine CP.cond (b := decide (x4 < (l1.length : Int))) (by kernel_rfl) (fun h15 => ?_) (fun h15 => ?_)
 ·replace hs := of_if_t hs h15
  refine CP.skip ?_
  refine NX.then_n ?_
  refine CP.seq ?_
  refine CP.block ?_
  refine CP.seqR ?_
  refine WP.stl 3 ?_
  by_cases hc21 : (0 : Int) ≤ x4 ∧ x4 < (l1.length : Int)
  case neg => rw [if_neg hc21] at hs; cases hs
  replace hs := of_if_p hs hc21
  obtain ⟨b23, u21, ha21⟩ := hR1.at hc21
  refine WP.indexA (t := 22) (e := 36) (sz := 2) (cap := c1) (k := .i64) (i := x4) hR1.len ha21 (by kernel_rfl) (by kernel_rfl) hc21 ?_
  refine WP.stl 1 ?_
  obtain ⟨cs21, hcR21, hcV21⟩ := hR1.src.view (getI_some hc21) ha21
  replace hcR21 := k_S_baizelaw07_Entry.opn hcR21
  refine WP.loadV [[.int .u8 ((getI l1 x4).f1)], [.int .u8 ((getI l1 x4).f2)]] [1, 1] hcV21 hcR21 rfl (f := 0) (ty := 5) (agg := false) (size := 1) (rs := [[.int .u8 ((getI l1 x4).f1)]]) (v := .int .u8 ((getI l1 x4).f1)) (by kernel_rfl) (by kernel_rfl) (by kernel_rfl) (by kernel_rfl) ?_
  refine WP.stl 1 ?_
  replace hs := Option.bind_eq_some_iff.1 hs
  obtain ⟨d20, hk25, hs⟩ := hs
  have hcal25 := P.baizelaw07_Digest g (IntKind.u64.wrap ((getI l1 x4).f1)) d20 hk25
  refine WP.callC hcal25 (by kernel_rfl) ?_
  rintro _ g31 st31 rfl
  replace hR1 := hR1.mono st31 (fun x => x)
  replace hB1 := hB1.mono st31 (fun x => x)
  replace hR6 := hR6.mono st31 (fun x => x) (fun x => x)
  replace hB2 := hB2.mono st31 (fun x => x)
  replace tot := tot.trans st31.pure
  replace hs := Option.bind_eq_some_iff.1 hs
  obtain ⟨d21, hk26, hs⟩ := hs
  have hS7 : 0 ∉ ([(t + 2)] : List Nat) := by simp <;> omega
  have stl7 := GW.lend_step g31 [(t + 2)]
  have hRl11 := hR6.lendTo hS7 (by simp)
  refine WP.regw (g' := GW.lend g31 [(t + 2)]) rfl ?_
  have hcal26 := P.notary_Book_Signer (GW.lend g31 [(t + 2)]) (t + 1) (t + 3) l5 w1 d20 a6 n6 c6 b1 b2 hRl11 (hB2.mono stl7 (WL.no (by simp <;> omega))) (hB1.mono stl7 (WL.no (by simp <;> omega))) (by omega) (by omega) (by omega) d21 hk26
  refine WP.callC hcal26 (by kernel_rfl) ?_
  rintro _ g32 st32 rfl
  have st33 := (GW.back_step st32).lentS
  have hO11 := hR6.backTo hS7 (by simp) st32 (fun x => x)
  refine WP.regw (g' := GW.back g31 g32 [(t + 2)]) rfl ?_
  generalize GW.back g31 g32 [(t + 2)] = g33 at *
  replace hR1 := hR1.mono st33 (WL.no1 (by omega))
  replace hB1 := hB1.mono st33 (WL.no1 (by omega))
  replace hB2 := hB2.mono st33 (WL.no1 (by omega))
  replace tot := tot.trans (st33.up1 (.inr (by omega)))
  clear hR6
  have hR6 : OwnS k_S_notary_entry g33 (t + 2) 86 a6 n6 c6 l5 := hO11
  clear hO11
  refine WP.stl 1 ?_
  refine WP.dn ?_
  refine NX.then_n ?_
  refine CP.refr 91 [(0, .slice a1 n1 c1), (3, .pointer (some ⟨b1, 0, none⟩)), (6, .int .i64 x4), (7, .iface 79 (AG [[.pointer (some ⟨b1, 0, none⟩)], encA .u8 d21]))] (by kernel_rfl) (by kernel_rfl) ?_
  clear ds
  intro ds
  refine CP.seq ?_
  refine CP.seqR ?_
  refine WP.stl 2 ?_
  refine WP.dn ?_
  refine NX.then_n ?_
  refine CP.cond_f (by kernel_rfl) ?_
  refine CP.skip ?_
  refine NX.then_n ?_
  refine CP.seq ?_
  by_cases hc22 : (0 : Int) ≤ x4 ∧ x4 < (l1.length : Int)
  case neg => rw [if_neg hc22] at hs; cases hs
  replace hs := of_if_p hs hc22
  replace hs := Option.bind_eq_some_iff.1 hs
  obtain ⟨d22, hk27, hs⟩ := hs
  replace hs := Option.bind_eq_some_iff.1 hs
  obtain ⟨⟨l8, x9, d23, d24⟩, hk28, hs⟩ := hs
  dsimp only at hs
  obtain ⟨b24, u22, ha22⟩ := hR1.at hc22
  refine CP.drawL (by kernel_rfl) [3, 5, 7, 11] N.baizelaw07_NotaryHolds_0 [⟨none, [], [], fun l g => RdS k_S_baizelaw07_Entry g 36 a1 n1 c1 l1⟩, ⟨none, [1], [], fun l g => Box g (t + 1) b1 84 [[.slice a6 n6 c6], [.map (some b2)]] [1, 1]⟩, ⟨none, [2], [], fun l g => OwnS k_S_notary_entry g (t + 2) 86 a6 n6 c6 l5⟩, ⟨none, [0], [], fun l g => MapB g (t + 3) b2 kv_S_notary_entry (Value.int .i64) w1⟩, ⟨some 0, [], [0], fun l g => l.getD 0 undef = .pointer (some ⟨b24, u22 + x4.toNat * 2, none⟩)⟩, ⟨some 1, [], [1], fun l g => l.getD 0 undef = .int .u8 ((getI l1 x4).f2)⟩, ⟨some 2, [], [2], fun l g => l.getD 0 undef = AG [encA .u8 d22]⟩, ⟨some 3, [0], [], fun l g => MapB g (t + 3) b2 kv_S_notary_entry (Value.int .i64) d23⟩, ⟨some 3, [1, 2], [3], fun l g => ∃ (a10 : Option Addr) (c10 : Nat) (a11 : Option Addr) (c11 : Nat), l.getD 0 undef = .tuple #[.slice a10 l8.length c10, .int .i64 x9] ∧ OwnS (Kd.int .u8) g (t + 6) 5 a10 l8.length c10 l8 ∧ OwnS k_S_notary_entry g (t + 2) 86 a11 d24.length c11 d24 ∧ Box g (t + 1) b1 84 [[.slice a11 d24.length c11], [.map (some b2)]] [1, 1]⟩] [[], [], [], [0, 1, 2]] [(t + 3), (t + 1), (t + 2)] [0, 1, 2, 8, 9, 10] [4, 6, 12, 13, 14, 15, 16] (by kernel_rfl) (by simp <;> omega) (by simp <;> omega) ⟨fun _ _ _ _ st h0 hl hj hR1 => (RdS.mono (e := 36) hR1 st h0), fun _ _ _ _ st h0 hl hj hB1 => (hB1.mono st (hj 1 (by simp) _ rfl)), fun _ _ _ _ st h0 hl hj hR6 => (hR6.mono st h0 (hj 2 (by simp) _ rfl)), fun _ _ _ _ st h0 hl hj hB2 => (hB2.mono st (hj 0 (by simp) _ rfl)), fun _ _ _ _ st h0 hl hj e0 => e0, fun _ _ _ _ st h0 hl hj e1 => e1, fun _ _ _ _ st h0 hl hj e2 => e2, fun _ _ _ _ st h0 hl hj hB2 => (hB2.mono st (hj 0 (by simp) _ rfl)), fun _ _ _ _ st h0 hl hj ⟨a10, c10, a11, c11, e3, hR10, hR11, hB1⟩ => ⟨a10, c10, a11, c11, e3, (hR10.mono st h0 (fun h => absurd (hl _ h) (by simp <;> omega))), (hR11.mono st h0 (hj 2 (by simp) _ rfl)), (hB1.mono st (hj 1 (by simp) _ rfl))⟩, tv⟩ ⟨hR1, hB1, hR6, hB2, tv, tv, tv, tv, tv, tv⟩ (by kernel_rfl) (fun vs => by kernel_rfl) ?_ ?_ ?_
  ·intro j hj
   have hq : j = 0 ∨ j = 1 ∨ j = 2 ∨ j = 3 ∨ j = 4 ∨ j = 5 ∨ j = 6 := by have h : j < 7 := hj; omega
   rcases hq with rfl | rfl | rfl | rfl | rfl | rfl | rfl
   ·intro vs gq stq hl hf
    obtain ⟨v0, v1, v2, v3, rfl⟩ := len_k4 hl
    have e0 := (show v0 = .pointer (some ⟨b24, u22 + x4.toNat * 2, none⟩) from hf _ (memI 4 rfl) (by kernel_rfl))
    subst e0
    show Option.isSome _ = true
    kernel_rfl
   ·intro vs gq stq hl hf
    obtain ⟨v0, v1, v2, v3, rfl⟩ := len_k4 hl
    have e1 := (show v1 = .int .u8 ((getI l1 x4).f2) from hf _ (memI 5 rfl) (by kernel_rfl))
    subst e1
    show Option.isSome _ = true
    kernel_rfl
   ·intro vs gq stq hl hf
    obtain ⟨v0, v1, v2, v3, rfl⟩ := len_k4 hl
    obtain ⟨a10, c10, a11, c11, e3, hR10, hR11, hB1⟩ := (show ∃ (a10 : Option Addr) (c10 : Nat) (a11 : Option Addr) (c11 : Nat), v3 = .tuple #[.slice a10 l8.length c10, .int .i64 x9] ∧ OwnS (Kd.int .u8) gq (t + 6) 5 a10 l8.length c10 l8 ∧ OwnS k_S_notary_entry gq (t + 2) 86 a11 d24.length c11 d24 ∧ Box gq (t + 1) b1 84 [[.slice a11 d24.length c11], [.map (some b2)]] [1, 1] from hf _ (memI 8 rfl) (by kernel_rfl))
    subst e3
    show Option.isSome _ = true
    kernel_rfl
   ·intro vs gq stq hl hf
    obtain ⟨v0, v1, v2, v3, rfl⟩ := len_k4 hl
    obtain ⟨a10, c10, a11, c11, e3, hR10, hR11, hB1⟩ := (show ∃ (a10 : Option Addr) (c10 : Nat) (a11 : Option Addr) (c11 : Nat), v3 = .tuple #[.slice a10 l8.length c10, .int .i64 x9] ∧ OwnS (Kd.int .u8) gq (t + 6) 5 a10 l8.length c10 l8 ∧ OwnS k_S_notary_entry gq (t + 2) 86 a11 d24.length c11 d24 ∧ Box gq (t + 1) b1 84 [[.slice a11 d24.length c11], [.map (some b2)]] [1, 1] from hf _ (memI 8 rfl) (by kernel_rfl))
    subst e3
    show Option.isSome _ = true
    kernel_rfl
   ·intro vs gq stq hl hf
    obtain ⟨v0, v1, v2, v3, rfl⟩ := len_k4 hl
    obtain ⟨a10, c10, a11, c11, e3, hR10, hR11, hB1⟩ := (show ∃ (a10 : Option Addr) (c10 : Nat) (a11 : Option Addr) (c11 : Nat), v3 = .tuple #[.slice a10 l8.length c10, .int .i64 x9] ∧ OwnS (Kd.int .u8) gq (t + 6) 5 a10 l8.length c10 l8 ∧ OwnS k_S_notary_entry gq (t + 2) 86 a11 d24.length c11 d24 ∧ Box gq (t + 1) b1 84 [[.slice a11 d24.length c11], [.map (some b2)]] [1, 1] from hf _ (memI 8 rfl) (by kernel_rfl))
    subst e3
    show Option.isSome _ = true
    kernel_rfl
   ·intro vs gq stq hl hf
    obtain ⟨v0, v1, v2, v3, rfl⟩ := len_k4 hl
    obtain ⟨a10, c10, a11, c11, e3, hR10, hR11, hB1⟩ := (show ∃ (a10 : Option Addr) (c10 : Nat) (a11 : Option Addr) (c11 : Nat), v3 = .tuple #[.slice a10 l8.length c10, .int .i64 x9] ∧ OwnS (Kd.int .u8) gq (t + 6) 5 a10 l8.length c10 l8 ∧ OwnS k_S_notary_entry gq (t + 2) 86 a11 d24.length c11 d24 ∧ Box gq (t + 1) b1 84 [[.slice a11 d24.length c11], [.map (some b2)]] [1, 1] from hf _ (memI 8 rfl) (by kernel_rfl))
    subst e3
    show Option.isSome _ = true
    kernel_rfl
   ·intro vs gq stq hl hf
    obtain ⟨v0, v1, v2, v3, rfl⟩ := len_k4 hl
    obtain ⟨a10, c10, a11, c11, e3, hR10, hR11, hB1⟩ := (show ∃ (a10 : Option Addr) (c10 : Nat) (a11 : Option Addr) (c11 : Nat), v3 = .tuple #[.slice a10 l8.length c10, .int .i64 x9] ∧ OwnS (Kd.int .u8) gq (t + 6) 5 a10 l8.length c10 l8 ∧ OwnS k_S_notary_entry gq (t + 2) 86 a11 d24.length c11 d24 ∧ Box gq (t + 1) b1 84 [[.slice a11 d24.length c11], [.map (some b2)]] [1, 1] from hf _ (memI 8 rfl) (by kernel_rfl))
    subst e3
    show Option.isSome _ = true
    kernel_rfl
  ·intro j hj
   have hq : j = 0 ∨ j = 1 ∨ j = 2 ∨ j = 3 := by have h : j < 4 := hj; omega
   rcases hq with rfl | rfl | rfl | rfl
   ·intro vs gq stq hl hf
    obtain ⟨v0, v1, v2, v3, rfl⟩ := len_k4 hl
    have hR1 := (show RdS k_S_baizelaw07_Entry gq 36 a1 n1 c1 l1 from hf _ (memI 0 rfl) (by kernel_rfl))
    refine WP.indexA (t := 22) (e := 36) (sz := 2) (cap := c1) (k := .i64) (i := x4) hR1.len ha22 (by kernel_rfl) (by kernel_rfl) hc22 ?_
    refine WP.dn (Shown.ok (v := .pointer (some ⟨b24, u22 + x4.toNat * 2, none⟩)) (by kernel_rfl) (Step.refl _ _) ?_)
    exact ⟨tv, tv, tv, tv, rfl, tv, tv, tv, tv, tv⟩
   ·intro vs gq stq hl hf
    obtain ⟨v0, v1, v2, v3, rfl⟩ := len_k4 hl
    have hR1 := (show RdS k_S_baizelaw07_Entry gq 36 a1 n1 c1 l1 from hf _ (memI 0 rfl) (by kernel_rfl))
    have e0 := (show v0 = .pointer (some ⟨b24, u22 + x4.toNat * 2, none⟩) from hf _ (memI 4 rfl) (by kernel_rfl))
    subst e0
    obtain ⟨cs22, hcR22, hcV22⟩ := hR1.src.view (getI_some hc22) ha22
    replace hcR22 := k_S_baizelaw07_Entry.opn hcR22
    refine WP.loadV [[.int .u8 ((getI l1 x4).f1)], [.int .u8 ((getI l1 x4).f2)]] [1, 1] hcV22 hcR22 rfl (f := 1) (ty := 5) (agg := false) (size := 1) (rs := [[.int .u8 ((getI l1 x4).f2)]]) (v := .int .u8 ((getI l1 x4).f2)) (by kernel_rfl) (by kernel_rfl) (by kernel_rfl) (by kernel_rfl) ?_
    refine WP.dn (Shown.ok (v := .int .u8 ((getI l1 x4).f2)) (by kernel_rfl) (Step.refl _ _) ?_)
    exact ⟨tv, tv, tv, tv, tv, rfl, tv, tv, tv, tv⟩
   ·intro vs gq stq hl hf
    obtain ⟨v0, v1, v2, v3, rfl⟩ := len_k4 hl
    have e1 := (show v1 = .int .u8 ((getI l1 x4).f2) from hf _ (memI 5 rfl) (by kernel_rfl))
    subst e1
    have hcal27 := P.baizelaw07_Digest gq (IntKind.u64.wrap ((getI l1 x4).f2)) d22 hk27
    refine WP.callC hcal27 (by kernel_rfl) ?_
    rintro _ g34 st34 rfl
    refine WP.dn (Shown.o (v := AG [encA .u8 d22]) st34.pure ?_)
    exact ⟨tv, tv, tv, tv, tv, tv, rfl, tv, tv, tv⟩
   ·intro vs gq stq hl hf
    obtain ⟨v0, v1, v2, v3, rfl⟩ := len_k4 hl
    have hB1 := (show Box gq (t + 1) b1 84 [[.slice a6 n6 c6], [.map (some b2)]] [1, 1] from hf _ (memI 1 rfl) (by kernel_rfl))
    have hR6 := (show OwnS k_S_notary_entry gq (t + 2) 86 a6 n6 c6 l5 from hf _ (memI 2 rfl) (by kernel_rfl))
    have hB2 := (show MapB gq (t + 3) b2 kv_S_notary_entry (Value.int .i64) w1 from hf _ (memI 3 rfl) (by kernel_rfl))
    have e2 := (show v2 = AG [encA .u8 d22] from hf _ (memI 6 rfl) (by kernel_rfl))
    subst e2
    have hcal28 := P.notary_bookSigner_Sign gq (t + 1) (t + 2) (t + 3) (t + 6) l5 w1 d21 d22 a6 n6 c6 b1 b2 hR6 hB2 hB1 (by omega) (by omega) (by omega) (by omega) (by omega) (by omega) l8 x9 d23 d24 hk28
    refine WP.callC hcal28 (by kernel_rfl) ?_
    rintro _ g35 st35 ⟨a10, n10, c10, a11, n11, c11, rfl, hR10, hB7, hR11, hB8⟩
    obtain rfl := hR10.len
    obtain rfl := hR11.len
    refine WP.dn (Shown.o (v := .tuple #[.slice a10 l8.length c10, .int .i64 x9]) st35 ?_)
    exact ⟨tv, tv, tv, tv, tv, tv, tv, hB7, ⟨a10, c10, a11, c11, rfl, hR10, hR11, hB8⟩, tv⟩
  intro vs g36 st36 hl hf
  obtain ⟨v0, v1, v2, v3, rfl⟩ := len_k4 hl
  have hB2 := (show MapB g36 (t + 3) b2 kv_S_notary_entry (Value.int .i64) d23 from hf _ (memI 7 rfl) (by kernel_rfl))
  obtain ⟨a10, c10, a11, c11, e3, hR10, hR11, hB1⟩ := (show ∃ (a10 : Option Addr) (c10 : Nat) (a11 : Option Addr) (c11 : Nat), v3 = .tuple #[.slice a10 l8.length c10, .int .i64 x9] ∧ OwnS (Kd.int .u8) g36 (t + 6) 5 a10 l8.length c10 l8 ∧ OwnS k_S_notary_entry g36 (t + 2) 86 a11 d24.length c11 d24 ∧ Box g36 (t + 1) b1 84 [[.slice a11 d24.length c11], [.map (some b2)]] [1, 1] from hf _ (memI 8 rfl) (by kernel_rfl))
  subst e3
  replace hR1 := hR1.mono st36 (WL.no3 (by omega) (by omega) (by omega))
  replace tot := tot.trans (st36.up3 (.inr (by omega)) (.inr (by omega)) (.inr (by omega)))
  refine NX.then_n ?_
  refine CP.refr 91 [(0, .slice a1 n1 c1), (3, .pointer (some ⟨b1, 0, none⟩)), (6, .int .i64 x4), (8, .slice a10 l8.length c10), (9, .int .i64 x9)] (by kernel_rfl) (by kernel_rfl) ?_
  clear ds
  intro ds
  refine CP.seq ?_
  refine CP.seqR ?_
  refine WP.stl 2 ?_
  refine WP.dn ?_
  refine NX.then_n ?_
  refine CP.cond (b := (x9 != 0)) (by kernel_rfl) (fun h16 => ?_) (fun h16 => ?_)
  ·replace hs := of_if_t hs h16
   refine CP.seqR ?_
   refine WP.stl 1 ?_
   refine WP.dn ?_
   refine NX.then_n ?_
   refine CP.ret ?_
   refine NX.then_r ?_
   refine NX.block_r ?_
   refine NX.then_r ?_
   refine NX.then_r ?_
   refine NX.block_r ?_
   refine NX.then_r ?_
   replace hs := Option.some.inj hs
   obtain rfl := hs
   exact NX.fin (v := .bool false) (Res.still (by kernel_rfl)) tot htL rfl
  replace hs := of_if_f hs h16
  refine CP.skip ?_
  refine NX.then_n ?_
  refine CP.seqR ?_
  refine WP.stl 1 ?_
  refine WP.dn ?_
  refine NX.then_n ?_
  refine CP.block ?_
  generalize fuel = k2 at hs
  refine CP.loop (fun k2 tm g => ∃ (x10 : Int), Fr 91 [(0, .slice a1 n1 c1), (3, .pointer (some ⟨b1, 0, none⟩)), (6, .int .i64 x4), (8, .slice a10 l8.length c10), (10, .int .i64 x10)] tm ∧ Step (fun l => NoM l ∨ t ≤ l) g0 g ∧ RdS k_S_baizelaw07_Entry g 36 a1 n1 c1 l1 ∧ Box g (t + 1) b1 84 [[.slice a11 d24.length c11], [.map (some b2)]] [1, 1] ∧ OwnS k_S_notary_entry g (t + 2) 86 a11 d24.length c11 d24 ∧ MapB g (t + 3) b2 kv_S_notary_entry (Value.int .i64) d23 ∧ OwnS (Kd.int .u8) g (t + 6) 5 a10 l8.length c10 l8 ∧ F.baizelaw07_NotaryHolds.l2 (F.baizelaw07_NotaryHolds.l1 l1 k1) l1 x4 l8 d23 d24 k2 x10 = some o1) k2 ?_ ?_ ?_
  ·exact ⟨0, ⟨by kernel_rfl, by kernel_rfl⟩, tot, hR1, hB1, hR11, hB2, hR10, hs⟩
  ·rintro tm g ⟨x10, hF, tot, hR1, hB1, hR11, hB2, hR10, hs⟩
   exact absurd hs (by simp [F.baizelaw07_NotaryHolds.l2])
  clear tot hs hR1 hB1 hR11 hB2 hR10
  rintro k2 tm g ⟨x10, hF, tot, hR1, hB1, hR11, hB2, hR10, hs⟩
  clear ds
  obtain ⟨ds, rfl⟩ := hF.open
  clear hF
  unfold F.baizelaw07_NotaryHolds.l2 at hs
  refine CP.seq ?_
  refine CP.seqR ?_
  refine WP.stl 2 ?_
  refine WP.len (a := a1) (cp := c1) hR1.len (by kernel_rfl) ?_
  refine WP.stl 1 ?_
  refine WP.dn ?_
  refine NX.then_n ?_
  refine CP.cond (b := decide (x10 < (l1.length : Int))) (by kernel_rfl) (fun h21 => ?_) (fun h21 => ?_)
  ·replace hs := of_if_t hs h21
   refine CP.skip ?_
   refine NX.then_n ?_
   refine CP.seq ?_
   refine CP.block ?_
   refine CP.seq ?_
   by_cases hc31 : (0 : Int) ≤ x10 ∧ x10 < (l1.length : Int)
   case neg => rw [if_neg hc31] at hs; cases hs
   replace hs := of_if_p hs hc31
   replace hs := Option.bind_eq_some_iff.1 hs
   obtain ⟨d29, hk35, hs⟩ := hs
   by_cases hc32 : (0 : Int) ≤ x10 ∧ x10 < (l1.length : Int)
   case neg => rw [if_neg hc32] at hs; cases hs
   replace hs := of_if_p hs hc32
   replace hs := Option.bind_eq_some_iff.1 hs
   obtain ⟨d30, hk36, hs⟩ := hs
   replace hs := Option.bind_eq_some_iff.1 hs
   obtain ⟨q11, hk37, hs⟩ := hs
   by_cases hc33 : (0 : Int) ≤ x10 ∧ x10 < (l1.length : Int)
   case neg => rw [if_neg hc33] at hs; cases hs
   replace hs := of_if_p hs hc33
   by_cases hc34 : (0 : Int) ≤ x4 ∧ x4 < (l1.length : Int)
   case neg => rw [if_neg hc34] at hs; cases hs
   replace hs := of_if_p hs hc34
   obtain ⟨b33, u31, ha31⟩ := hR1.at hc31
   obtain ⟨b34, u32, ha32⟩ := hR1.at hc32
   obtain ⟨b35, u33, ha33⟩ := hR1.at hc33
   obtain ⟨b36, u34, ha34⟩ := hR1.at hc34
   refine CP.drawL (by kernel_rfl) [3, 5, 7, 10, 12, 14, 16, 19, 20, 23, 24, 25] N.baizelaw07_NotaryHolds_1 [⟨none, [], [], fun l g => RdS k_S_baizelaw07_Entry g 36 a1 n1 c1 l1⟩, ⟨none, [], [], fun l g => Box g (t + 1) b1 84 [[.slice a11 d24.length c11], [.map (some b2)]] [1, 1]⟩, ⟨none, [0], [], fun l g => OwnS k_S_notary_entry g (t + 2) 86 a11 d24.length c11 d24⟩, ⟨none, [], [], fun l g => MapB g (t + 3) b2 kv_S_notary_entry (Value.int .i64) d23⟩, ⟨none, [1], [], fun l g => OwnS (Kd.int .u8) g (t + 6) 5 a10 l8.length c10 l8⟩, ⟨some 0, [], [0], fun l g => l.getD 0 undef = .pointer (some ⟨b33, u31 + x10.toNat * 2, none⟩)⟩, ⟨some 1, [], [1], fun l g => l.getD 0 undef = .int .u8 ((getI l1 x10).f1)⟩, ⟨some 2, [], [2], fun l g => l.getD 0 undef = AG [encA .u8 d29]⟩, ⟨some 3, [], [3], fun l g => l.getD 0 undef = .pointer (some ⟨b34, u32 + x10.toNat * 2, none⟩)⟩, ⟨some 4, [], [4], fun l g => l.getD 0 undef = .int .u8 ((getI l1 x10).f2)⟩, ⟨some 5, [], [5], fun l g => l.getD 0 undef = AG [encA .u8 d30]⟩, ⟨some 6, [], [6], fun l g => l.getD 0 undef = .bool q11⟩, ⟨some 6, [0], [], fun l g => OwnS k_S_notary_entry g (t + 2) 86 a11 d24.length c11 d24⟩, ⟨some 6, [1], [], fun l g => OwnS (Kd.int .u8) g (t + 6) 5 a10 l8.length c10 l8⟩, ⟨some 7, [], [7], fun l g => l.getD 0 undef = .pointer (some ⟨b35, u33 + x10.toNat * 2, none⟩)⟩, ⟨some 8, [], [8], fun l g => l.getD 0 undef = AG [[.int .u8 ((getI l1 x10).f1)], [.int .u8 ((getI l1 x10).f2)]]⟩, ⟨some 9, [], [9], fun l g => l.getD 0 undef = .pointer (some ⟨b36, u34 + x4.toNat * 2, none⟩)⟩, ⟨some 10, [], [10], fun l g => l.getD 0 undef = AG [[.int .u8 ((getI l1 x4).f1)], [.int .u8 ((getI l1 x4).f2)]]⟩, ⟨some 11, [], [11], fun l g => l.getD 0 undef = .bool ((((getI l1 x10).f1) == ((getI l1 x4).f1)) && (((getI l1 x10).f2) == ((getI l1 x4).f2)))⟩] [[], [], [], [], [], [], [0, 1], [], [], [], [], []] [(t + 2), (t + 6)] [0, 1, 2, 8, 9, 15, 17, 18, 21, 22] [4, 6, 11, 13, 26] (by kernel_rfl) (by simp <;> omega) (by simp <;> omega) ⟨fun _ _ _ _ st h0 hl hj hR1 => (RdS.mono (e := 36) hR1 st h0), fun _ _ _ _ st h0 hl hj hB1 => (hB1.mono st (fun h => absurd (hl _ h) (by simp <;> omega))), fun _ _ _ _ st h0 hl hj hR11 => (hR11.mono st h0 (hj 0 (by simp) _ rfl)), fun _ _ _ _ st h0 hl hj hB2 => (hB2.mono st (fun h => absurd (hl _ h) (by simp <;> omega))), fun _ _ _ _ st h0 hl hj hR10 => (hR10.mono st h0 (hj 1 (by simp) _ rfl)), fun _ _ _ _ st h0 hl hj e0 => e0, fun _ _ _ _ st h0 hl hj e1 => e1, fun _ _ _ _ st h0 hl hj e2 => e2, fun _ _ _ _ st h0 hl hj e3 => e3, fun _ _ _ _ st h0 hl hj e4 => e4, fun _ _ _ _ st h0 hl hj e5 => e5, fun _ _ _ _ st h0 hl hj e6 => e6, fun _ _ _ _ st h0 hl hj hR11 => (hR11.mono st h0 (hj 0 (by simp) _ rfl)), fun _ _ _ _ st h0 hl hj hR10 => (hR10.mono st h0 (hj 1 (by simp) _ rfl)), fun _ _ _ _ st h0 hl hj e7 => e7, fun _ _ _ _ st h0 hl hj e8 => e8, fun _ _ _ _ st h0 hl hj e9 => e9, fun _ _ _ _ st h0 hl hj e10 => e10, fun _ _ _ _ st h0 hl hj e11 => e11, tv⟩ ⟨hR1, hB1, hR11, hB2, hR10, tv, tv, tv, tv, tv, tv, tv, tv, tv, tv, tv, tv, tv, tv, tv⟩ (by kernel_rfl) (fun vs => by kernel_rfl) ?_ ?_ ?_
   ·intro j hj
    have hq : j = 0 ∨ j = 1 ∨ j = 2 ∨ j = 3 ∨ j = 4 := by have h : j < 5 := hj; omega
    rcases hq with rfl | rfl | rfl | rfl | rfl
    ·intro vs gq stq hl hf
     obtain ⟨v0, v1, v2, v3, v4, v5, v6, v7, v8, v9, v10, v11, rfl⟩ := len_k12 hl
     have e0 := (show v0 = .pointer (some ⟨b33, u31 + x10.toNat * 2, none⟩) from hf _ (memI 5 rfl) (by kernel_rfl))
     subst e0
     show Option.isSome _ = true
     kernel_rfl
    ·intro vs gq stq hl hf
     obtain ⟨v0, v1, v2, v3, v4, v5, v6, v7, v8, v9, v10, v11, rfl⟩ := len_k12 hl
     have e1 := (show v1 = .int .u8 ((getI l1 x10).f1) from hf _ (memI 6 rfl) (by kernel_rfl))
     subst e1
     show Option.isSome _ = true
     kernel_rfl
    ·intro vs gq stq hl hf
     obtain ⟨v0, v1, v2, v3, v4, v5, v6, v7, v8, v9, v10, v11, rfl⟩ := len_k12 hl
     have e3 := (show v3 = .pointer (some ⟨b34, u32 + x10.toNat * 2, none⟩) from hf _ (memI 8 rfl) (by kernel_rfl))
     subst e3
     show Option.isSome _ = true
     kernel_rfl
    ·intro vs gq stq hl hf
     obtain ⟨v0, v1, v2, v3, v4, v5, v6, v7, v8, v9, v10, v11, rfl⟩ := len_k12 hl
     have e4 := (show v4 = .int .u8 ((getI l1 x10).f2) from hf _ (memI 9 rfl) (by kernel_rfl))
     subst e4
     show Option.isSome _ = true
     kernel_rfl
    ·intro vs gq stq hl hf
     obtain ⟨v0, v1, v2, v3, v4, v5, v6, v7, v8, v9, v10, v11, rfl⟩ := len_k12 hl
     have e6 := (show v6 = .bool q11 from hf _ (memI 11 rfl) (by kernel_rfl))
     subst e6
     have e11 := (show v11 = .bool ((((getI l1 x10).f1) == ((getI l1 x4).f1)) && (((getI l1 x10).f2) == ((getI l1 x4).f2))) from hf _ (memI 18 rfl) (by kernel_rfl))
     subst e11
     show Option.isSome _ = true
     kernel_rfl
   ·intro j hj
    have hq : j = 0 ∨ j = 1 ∨ j = 2 ∨ j = 3 ∨ j = 4 ∨ j = 5 ∨ j = 6 ∨ j = 7 ∨ j = 8 ∨ j = 9 ∨ j = 10 ∨ j = 11 := by have h : j < 12 := hj; omega
    rcases hq with rfl | rfl | rfl | rfl | rfl | rfl | rfl | rfl | rfl | rfl | rfl | rfl
    ·intro vs gq stq hl hf
     obtain ⟨v0, v1, v2, v3, v4, v5, v6, v7, v8, v9, v10, v11, rfl⟩ := len_k12 hl
     have hR1 := (show RdS k_S_baizelaw07_Entry gq 36 a1 n1 c1 l1 from hf _ (memI 0 rfl) (by kernel_rfl))
     refine WP.indexA (t := 22) (e := 36) (sz := 2) (cap := c1) (k := .i64) (i := x10) hR1.len ha31 (by kernel_rfl) (by kernel_rfl) hc31 ?_
     refine WP.dn (Shown.ok (v := .pointer (some ⟨b33, u31 + x10.toNat * 2, none⟩)) (by kernel_rfl) (Step.refl _ _) ?_)
     exact ⟨tv, tv, tv, tv, tv, rfl, tv, tv, tv, tv, tv, tv, tv, tv, tv, tv, tv, tv, tv, tv⟩
    ·intro vs gq stq hl hf
     obtain ⟨v0, v1, v2, v3, v4, v5, v6, v7, v8, v9, v10, v11, rfl⟩ := len_k12 hl
     have hR1 := (show RdS k_S_baizelaw07_Entry gq 36 a1 n1 c1 l1 from hf _ (memI 0 rfl) (by kernel_rfl))
     have e0 := (show v0 = .pointer (some ⟨b33, u31 + x10.toNat * 2, none⟩) from hf _ (memI 5 rfl) (by kernel_rfl))
     subst e0
     obtain ⟨cs31, hcR31, hcV31⟩ := hR1.src.view (getI_some hc31) ha31
     replace hcR31 := k_S_baizelaw07_Entry.opn hcR31
     refine WP.loadV [[.int .u8 ((getI l1 x10).f1)], [.int .u8 ((getI l1 x10).f2)]] [1, 1] hcV31 hcR31 rfl (f := 0) (ty := 5) (agg := false) (size := 1) (rs := [[.int .u8 ((getI l1 x10).f1)]]) (v := .int .u8 ((getI l1 x10).f1)) (by kernel_rfl) (by kernel_rfl) (by kernel_rfl) (by kernel_rfl) ?_
     refine WP.dn (Shown.ok (v := .int .u8 ((getI l1 x10).f1)) (by kernel_rfl) (Step.refl _ _) ?_)
     exact ⟨tv, tv, tv, tv, tv, tv, rfl, tv, tv, tv, tv, tv, tv, tv, tv, tv, tv, tv, tv, tv⟩
    ·intro vs gq stq hl hf
     obtain ⟨v0, v1, v2, v3, v4, v5, v6, v7, v8, v9, v10, v11, rfl⟩ := len_k12 hl
     have e1 := (show v1 = .int .u8 ((getI l1 x10).f1) from hf _ (memI 6 rfl) (by kernel_rfl))
     subst e1
     have hcal35 := P.baizelaw07_Digest gq (IntKind.u64.wrap ((getI l1 x10).f1)) d29 hk35
     refine WP.callC hcal35 (by kernel_rfl) ?_
     rintro _ g45 st45 rfl
     refine WP.dn (Shown.o (v := AG [encA .u8 d29]) st45.pure ?_)
     exact ⟨tv, tv, tv, tv, tv, tv, tv, rfl, tv, tv, tv, tv, tv, tv, tv, tv, tv, tv, tv, tv⟩
    ·intro vs gq stq hl hf
     obtain ⟨v0, v1, v2, v3, v4, v5, v6, v7, v8, v9, v10, v11, rfl⟩ := len_k12 hl
     have hR1 := (show RdS k_S_baizelaw07_Entry gq 36 a1 n1 c1 l1 from hf _ (memI 0 rfl) (by kernel_rfl))
     refine WP.indexA (t := 22) (e := 36) (sz := 2) (cap := c1) (k := .i64) (i := x10) hR1.len ha32 (by kernel_rfl) (by kernel_rfl) hc32 ?_
     refine WP.dn (Shown.ok (v := .pointer (some ⟨b34, u32 + x10.toNat * 2, none⟩)) (by kernel_rfl) (Step.refl _ _) ?_)
     exact ⟨tv, tv, tv, tv, tv, tv, tv, tv, rfl, tv, tv, tv, tv, tv, tv, tv, tv, tv, tv, tv⟩
    ·intro vs gq stq hl hf
     obtain ⟨v0, v1, v2, v3, v4, v5, v6, v7, v8, v9, v10, v11, rfl⟩ := len_k12 hl
     have hR1 := (show RdS k_S_baizelaw07_Entry gq 36 a1 n1 c1 l1 from hf _ (memI 0 rfl) (by kernel_rfl))
     have e3 := (show v3 = .pointer (some ⟨b34, u32 + x10.toNat * 2, none⟩) from hf _ (memI 8 rfl) (by kernel_rfl))
     subst e3
     obtain ⟨cs32, hcR32, hcV32⟩ := hR1.src.view (getI_some hc32) ha32
     replace hcR32 := k_S_baizelaw07_Entry.opn hcR32
     refine WP.loadV [[.int .u8 ((getI l1 x10).f1)], [.int .u8 ((getI l1 x10).f2)]] [1, 1] hcV32 hcR32 rfl (f := 1) (ty := 5) (agg := false) (size := 1) (rs := [[.int .u8 ((getI l1 x10).f2)]]) (v := .int .u8 ((getI l1 x10).f2)) (by kernel_rfl) (by kernel_rfl) (by kernel_rfl) (by kernel_rfl) ?_
     refine WP.dn (Shown.ok (v := .int .u8 ((getI l1 x10).f2)) (by kernel_rfl) (Step.refl _ _) ?_)
     exact ⟨tv, tv, tv, tv, tv, tv, tv, tv, tv, rfl, tv, tv, tv, tv, tv, tv, tv, tv, tv, tv⟩
    ·intro vs gq stq hl hf
     obtain ⟨v0, v1, v2, v3, v4, v5, v6, v7, v8, v9, v10, v11, rfl⟩ := len_k12 hl
     have e4 := (show v4 = .int .u8 ((getI l1 x10).f2) from hf _ (memI 9 rfl) (by kernel_rfl))
     subst e4
     have hcal36 := P.baizelaw07_Digest gq (IntKind.u64.wrap ((getI l1 x10).f2)) d30 hk36
     refine WP.callC hcal36 (by kernel_rfl) ?_
     rintro _ g46 st46 rfl
     refine WP.dn (Shown.o (v := AG [encA .u8 d30]) st46.pure ?_)
     exact ⟨tv, tv, tv, tv, tv, tv, tv, tv, tv, tv, rfl, tv, tv, tv, tv, tv, tv, tv, tv, tv⟩
    ·intro vs gq stq hl hf
     obtain ⟨v0, v1, v2, v3, v4, v5, v6, v7, v8, v9, v10, v11, rfl⟩ := len_k12 hl
     have hB1 := (show Box gq (t + 1) b1 84 [[.slice a11 d24.length c11], [.map (some b2)]] [1, 1] from hf _ (memI 1 rfl) (by kernel_rfl))
     have hR11 := (show OwnS k_S_notary_entry gq (t + 2) 86 a11 d24.length c11 d24 from hf _ (memI 2 rfl) (by kernel_rfl))
     have hB2 := (show MapB gq (t + 3) b2 kv_S_notary_entry (Value.int .i64) d23 from hf _ (memI 3 rfl) (by kernel_rfl))
     have hR10 := (show OwnS (Kd.int .u8) gq (t + 6) 5 a10 l8.length c10 l8 from hf _ (memI 4 rfl) (by kernel_rfl))
     have e2 := (show v2 = AG [encA .u8 d29] from hf _ (memI 7 rfl) (by kernel_rfl))
     subst e2
     have e5 := (show v5 = AG [encA .u8 d30] from hf _ (memI 10 rfl) (by kernel_rfl))
     subst e5
     have hS10 : 0 ∉ ([(t + 2), (t + 6)] : List Nat) := by simp <;> omega
     have stl10 := GW.lend_step gq [(t + 2), (t + 6)]
     have hRl16 := hR11.lendTo hS10 (by simp)
     have hRl17 := hR10.lendTo hS10 (by simp)
     refine WP.regw (g' := GW.lend gq [(t + 2), (t + 6)]) rfl ?_
     have hcal37 := P.notary_Book_Verify (GW.lend gq [(t + 2), (t + 6)]) (t + 1) (t + 3) d24 d23 d29 d30 l8 a11 d24.length c11 a10 l8.length c10 b1 b2 hRl16 hRl17 (hB2.mono stl10 (WL.no (by simp <;> omega))) (hB1.mono stl10 (WL.no (by simp <;> omega))) (by omega) (by omega) (by omega) q11 hk37
     refine WP.callC hcal37 (by kernel_rfl) ?_
     rintro _ g47 st47 rfl
     have st48 := (GW.back_step st47).lentS
     have hO16 := hR11.backTo hS10 (by simp) st47 (fun x => x)
     have hO17 := hR10.backTo hS10 (by simp) st47 (fun x => x)
     refine WP.regw (g' := GW.back gq g47 [(t + 2), (t + 6)]) rfl ?_
     generalize GW.back gq g47 [(t + 2), (t + 6)] = g48 at *
     refine WP.dn (Shown.o (v := .bool q11) st48 ?_)
     exact ⟨tv, tv, tv, tv, tv, tv, tv, tv, tv, tv, tv, rfl, hO16, hO17, tv, tv, tv, tv, tv, tv⟩
    ·intro vs gq stq hl hf
     obtain ⟨v0, v1, v2, v3, v4, v5, v6, v7, v8, v9, v10, v11, rfl⟩ := len_k12 hl
     have hR1 := (show RdS k_S_baizelaw07_Entry gq 36 a1 n1 c1 l1 from hf _ (memI 0 rfl) (by kernel_rfl))
     refine WP.indexA (t := 22) (e := 36) (sz := 2) (cap := c1) (k := .i64) (i := x10) hR1.len ha33 (by kernel_rfl) (by kernel_rfl) hc33 ?_
     refine WP.dn (Shown.ok (v := .pointer (some ⟨b35, u33 + x10.toNat * 2, none⟩)) (by kernel_rfl) (Step.refl _ _) ?_)
     exact ⟨tv, tv, tv, tv, tv, tv, tv, tv, tv, tv, tv, tv, tv, tv, rfl, tv, tv, tv, tv, tv⟩
    ·intro vs gq stq hl hf
     obtain ⟨v0, v1, v2, v3, v4, v5, v6, v7, v8, v9, v10, v11, rfl⟩ := len_k12 hl
     have hR1 := (show RdS k_S_baizelaw07_Entry gq 36 a1 n1 c1 l1 from hf _ (memI 0 rfl) (by kernel_rfl))
     have e7 := (show v7 = .pointer (some ⟨b35, u33 + x10.toNat * 2, none⟩) from hf _ (memI 14 rfl) (by kernel_rfl))
     subst e7
     obtain ⟨cs33, hcR33, hcV33⟩ := hR1.src.view (getI_some hc33) ha33
     replace hcR33 := k_S_baizelaw07_Entry.opn hcR33
     refine WP.loadV [[.int .u8 ((getI l1 x10).f1)], [.int .u8 ((getI l1 x10).f2)]] [1, 1] hcV33 hcR33 rfl (f := 0) (ty := 36) (agg := true) (size := 2) (rs := [[.int .u8 ((getI l1 x10).f1)], [.int .u8 ((getI l1 x10).f2)]]) (v := AG [[.int .u8 ((getI l1 x10).f1)], [.int .u8 ((getI l1 x10).f2)]]) (by kernel_rfl) (by kernel_rfl) (by kernel_rfl) (by kernel_rfl) ?_
     refine WP.dn (Shown.ok (v := AG [[.int .u8 ((getI l1 x10).f1)], [.int .u8 ((getI l1 x10).f2)]]) (by kernel_rfl) (Step.refl _ _) ?_)
     exact ⟨tv, tv, tv, tv, tv, tv, tv, tv, tv, tv, tv, tv, tv, tv, tv, rfl, tv, tv, tv, tv⟩
    ·intro vs gq stq hl hf
     obtain ⟨v0, v1, v2, v3, v4, v5, v6, v7, v8, v9, v10, v11, rfl⟩ := len_k12 hl
     have hR1 := (show RdS k_S_baizelaw07_Entry gq 36 a1 n1 c1 l1 from hf _ (memI 0 rfl) (by kernel_rfl))
     refine WP.indexA (t := 22) (e := 36) (sz := 2) (cap := c1) (k := .i64) (i := x4) hR1.len ha34 (by kernel_rfl) (by kernel_rfl) hc34 ?_
     refine WP.dn (Shown.ok (v := .pointer (some ⟨b36, u34 + x4.toNat * 2, none⟩)) (by kernel_rfl) (Step.refl _ _) ?_)
     exact ⟨tv, tv, tv, tv, tv, tv, tv, tv, tv, tv, tv, tv, tv, tv, tv, tv, rfl, tv, tv, tv⟩
    ·intro vs gq stq hl hf
     obtain ⟨v0, v1, v2, v3, v4, v5, v6, v7, v8, v9, v10, v11, rfl⟩ := len_k12 hl
     have hR1 := (show RdS k_S_baizelaw07_Entry gq 36 a1 n1 c1 l1 from hf _ (memI 0 rfl) (by kernel_rfl))
     have e9 := (show v9 = .pointer (some ⟨b36, u34 + x4.toNat * 2, none⟩) from hf _ (memI 16 rfl) (by kernel_rfl))
     subst e9
     obtain ⟨cs34, hcR34, hcV34⟩ := hR1.src.view (getI_some hc34) ha34
     replace hcR34 := k_S_baizelaw07_Entry.opn hcR34
     refine WP.loadV [[.int .u8 ((getI l1 x4).f1)], [.int .u8 ((getI l1 x4).f2)]] [1, 1] hcV34 hcR34 rfl (f := 0) (ty := 36) (agg := true) (size := 2) (rs := [[.int .u8 ((getI l1 x4).f1)], [.int .u8 ((getI l1 x4).f2)]]) (v := AG [[.int .u8 ((getI l1 x4).f1)], [.int .u8 ((getI l1 x4).f2)]]) (by kernel_rfl) (by kernel_rfl) (by kernel_rfl) (by kernel_rfl) ?_
     refine WP.dn (Shown.ok (v := AG [[.int .u8 ((getI l1 x4).f1)], [.int .u8 ((getI l1 x4).f2)]]) (by kernel_rfl) (Step.refl _ _) ?_)
     exact ⟨tv, tv, tv, tv, tv, tv, tv, tv, tv, tv, tv, tv, tv, tv, tv, tv, tv, rfl, tv, tv⟩
    ·intro vs gq stq hl hf
     obtain ⟨v0, v1, v2, v3, v4, v5, v6, v7, v8, v9, v10, v11, rfl⟩ := len_k12 hl
     have e8 := (show v8 = AG [[.int .u8 ((getI l1 x10).f1)], [.int .u8 ((getI l1 x10).f2)]] from hf _ (memI 15 rfl) (by kernel_rfl))
     subst e8
     have e10 := (show v10 = AG [[.int .u8 ((getI l1 x4).f1)], [.int .u8 ((getI l1 x4).f2)]] from hf _ (memI 17 rfl) (by kernel_rfl))
     subst e10
     refine WP.eqV (by kernel_rfl) (by kernel_rfl) (EqV.struct (d := 9999) (t := 36) (xs := [[.int .u8 ((getI l1 x10).f1)], [.int .u8 ((getI l1 x10).f2)]]) (ys := [[.int .u8 ((getI l1 x4).f1)], [.int .u8 ((getI l1 x4).f2)]]) (by kernel_rfl) (by kernel_rfl) (EqFi.cons (ns := [1, 1]) (ms := [1, 1]) (t' := 5) (x := .int .u8 ((getI l1 x10).f1)) (y := .int .u8 ((getI l1 x4).f1)) rfl rfl (by kernel_rfl) (by kernel_rfl) (EqV.int (d := 9998) (k' := .u8) (by kernel_rfl)) (EqFi.one (ns := [1, 1]) (ms := [1, 1]) (t' := 5) (x := .int .u8 ((getI l1 x10).f2)) (y := .int .u8 ((getI l1 x4).f2)) rfl rfl (by kernel_rfl) (by kernel_rfl) (EqV.int (d := 9998) (k' := .u8) (by kernel_rfl)) (Nat.le_of_ble_eq_true rfl)))) ?_
     refine WP.dn (Shown.ok (v := .bool ((((getI l1 x10).f1) == ((getI l1 x4).f1)) && (((getI l1 x10).f2) == ((getI l1 x4).f2)))) (by kernel_rfl) (Step.refl _ _) ?_)
     exact ⟨tv, tv, tv, tv, tv, tv, tv, tv, tv, tv, tv, tv, tv, tv, tv, tv, tv, tv, rfl, tv⟩
   intro vs g49 st49 hl hf
   obtain ⟨v0, v1, v2, v3, v4, v5, v6, v7, v8, v9, v10, v11, rfl⟩ := len_k12 hl
   have e6 := (show v6 = .bool q11 from hf _ (memI 11 rfl) (by kernel_rfl))
   subst e6
   have hR11 := (show OwnS k_S_notary_entry g49 (t + 2) 86 a11 d24.length c11 d24 from hf _ (memI 12 rfl) (by kernel_rfl))
   have hR10 := (show OwnS (Kd.int .u8) g49 (t + 6) 5 a10 l8.length c10 l8 from hf _ (memI 13 rfl) (by kernel_rfl))
   have e11 := (show v11 = .bool ((((getI l1 x10).f1) == ((getI l1 x4).f1)) && (((getI l1 x10).f2) == ((getI l1 x4).f2))) from hf _ (memI 18 rfl) (by kernel_rfl))
   subst e11
   replace hR1 := hR1.mono st49 (WL.no2 (by omega) (by omega))
   replace hB1 := hB1.mono st49 (WL.no2 (by omega) (by omega))
   replace hB2 := hB2.mono st49 (WL.no2 (by omega) (by omega))
   replace tot := tot.trans (st49.up2 (.inr (by omega)) (.inr (by omega)))
   refine NX.then_n ?_
   refine CP.refr 91 [(0, .slice a1 n1 c1), (3, .pointer (some ⟨b1, 0, none⟩)), (6, .int .i64 x4), (8, .slice a10 l8.length c10), (10, .int .i64 x10), (89, .bool (!(q11 == ((((getI l1 x10).f1) == ((getI l1 x4).f1)) && (((getI l1 x10).f2) == ((getI l1 x4).f2))))))] (by kernel_rfl) (by kernel_rfl) ?_
   clear ds
   intro ds
   refine CP.cond (b := (!(q11 == ((((getI l1 x10).f1) == ((getI l1 x4).f1)) && (((getI l1 x10).f2) == ((getI l1 x4).f2)))))) (by kernel_rfl) (fun h22 => ?_) (fun h22 => ?_)
   ·replace hs := of_if_t hs h22
    refine CP.seqR ?_
    refine WP.stl 1 ?_
    refine WP.dn ?_
    refine NX.then_n ?_
    refine CP.ret ?_
    refine NX.block_r ?_
    refine NX.then_r ?_
    refine NX.then_r ?_
    refine NX.block_r ?_
    refine NX.block_r ?_
    refine NX.then_r ?_
    refine NX.then_r ?_
    refine NX.block_r ?_
    refine NX.then_r ?_
    replace hs := Option.some.inj hs
    obtain rfl := hs
    exact NX.fin (v := .bool false) (Res.still (by kernel_rfl)) tot htL rfl
   replace hs := of_if_f hs h22
   refine CP.skip ?_
   refine NX.block_n ?_
   refine NX.then_n ?_
   refine CP.region ?_
   refine WP.stl 3 ?_
   refine WP.dn ?_
   refine NX.post ?_
   exact ⟨(IntKind.i64.wrap (x10 + 1)), ⟨by kernel_rfl, by kernel_rfl⟩, tot, hR1, hB1, hR11, hB2, hR10, hs⟩
  replace hs := of_if_f hs h21
  refine CP.exit ?_
  refine NX.then_e ?_
  refine NX.then_e ?_
  refine NX.block_s ?_
  refine NX.block_n ?_
  refine NX.then_n ?_
  refine CP.region ?_
  refine WP.stl 3 ?_
  refine WP.dn ?_
  refine NX.post ?_
  exact ⟨d24, a11, d24.length, c11, d23, (IntKind.i64.wrap (x4 + 1)), ⟨by kernel_rfl, by kernel_rfl⟩, tot, hR1, hB1, hR11, hB2, hs⟩
 replace hs := of_if_f hs h15
 refine CP.exit ?_
 refine NX.then_e ?_
 refine NX.then_e ?_
 refine NX.block_s ?_
 refine NX.then_n ?_
 refine CP.seqR ?_
 replace hs := Option.bind_eq_some_iff.1 hs
 obtain ⟨q12, hk38, hs⟩ := hs
 have hcal38 := P.baizelaw07_told g q12 hk38
 refine WP.callC hcal38 (by kernel_rfl) ?_
 rintro _ g50 st50 rfl
 replace tot := tot.trans st50.pure
 refine WP.stl 1 ?_
 refine WP.dn ?_
 refine NX.then_n ?_
 refine CP.ret ?_
 replace hs := Option.some.inj hs
 obtain rfl := hs
 exact NX.fin (v := .bool q12) (Res.still (by kernel_rfl)) tot htL rfl
end Go.Proofs.Ytmdkjjdfbjgaoaa
