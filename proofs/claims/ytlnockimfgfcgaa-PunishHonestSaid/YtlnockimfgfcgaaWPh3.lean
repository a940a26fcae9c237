/-
  Walks, written by program: each Go function computes the plain function of its name, in whatever world its arguments' facts hold.
-/
import Derived.Test.YtlnockimfgfcgaaWPh2
namespace Go.Proofs.Ytlnockimfgfcgaa
open Go.RowKit Go.Lab
attribute [local irreducible] WP CP NX wpList Code.wp Calls
set_option maxRecDepth 100000
set_option maxHeartbeats 4000000
set_option linter.unusedVariables false

def N.notary_Book_Verify_0 : List (List Nat) := [[], [0], [0, 1], [0, 1, 2], [], [], [4, 5], [0, 1, 2, 3, 4, 5, 6], [0, 1, 2, 3, 4, 5, 6, 7], [0, 1, 2, 3, 4, 5, 6, 7, 8], [0, 1, 2, 3, 4, 5, 6, 7, 8], [0, 1, 2, 3, 4, 5, 6, 7, 8, 9], [0, 1, 2, 3, 4, 5, 6, 7, 8, 9, 10, 11]]
def F.notary_Book_Verify.c1 (q1 : Bool) : Option (Bool) := (some q1)
def N.notary_Book_Verify_1 : List (List Nat) := [[], [0], [0, 1], [0, 1], [0, 1, 3], [0, 1, 3, 4], [0, 1, 3, 4, 5], [0, 1], [0, 1, 7], [0, 1, 7, 8], [0, 1, 7, 8, 9], [0, 1, 7, 8, 9, 10], [0, 1, 3, 4, 5, 6, 7, 8, 9, 10, 11], [0, 1, 2, 3, 4, 5, 6, 7, 8, 9, 10, 11, 12], [0, 1, 2, 3, 4, 5, 6, 7, 8, 9, 10, 11, 12, 13], [0, 1, 2, 3, 4, 5, 6, 7, 8, 9, 10, 11, 12, 13, 14]]
def F.notary_Book_Verify (l1 : List S_notary_entry) (w1 : (List (S_notary_entry × Int))) (d1 : Arr Int 8) (d2 : Arr Int 8) (l2 : List Int) : Option (Bool) := (if ((l2.length : Int) != 2) = true then (some false) else (if (mapGet eqk_S_notary_entry 0 w1 (⟨d1, d2⟩ : S_notary_entry)).2 = true then (if (0 : Int) ≤ 0 ∧ 0 < (l2.length : Int) then (if (0 : Int) ≤ 1 ∧ 1 < (l2.length : Int) then (F.notary_Book_Verify.c1 (((mapGet eqk_S_notary_entry 0 w1 (⟨d1, d2⟩ : S_notary_entry)).1) == (bitOr .i64 (IntKind.i64.wrap (getI l2 0)) (shV true .i64 (IntKind.i64.wrap (getI l2 1)) 8)))) else none) else none) else (F.notary_Book_Verify.c1 false)))
theorem P.notary_Book_Verify (g0 : GW) (m0 : Nat) (m1 : Nat) (l1 : List S_notary_entry) (w1 : (List (S_notary_entry × Int))) (d1 : Arr Int 8) (d2 : Arr Int 8) (l2 : List Int) (a1 : Option Addr) (n1 : Nat) (c1 : Nat) (a2 : Option Addr) (n2 : Nat) (c2 : Nat) (b1 : Nat) (b2 : Nat) (hR1 : RdS k_S_notary_entry g0 126 a1 n1 c1 l1) (hR2 : RdS (Kd.int .u8) g0 5 a2 n2 c2 l2) (hB1 : MapB g0 m1 b2 kv_S_notary_entry (Value.int .i64) w1) (hB2 : Box g0 m0 b1 121 [[.slice a1 n1 c1], [.map (some b2)]] [1, 1]) (hm1_0 : m1 ≠ m0) (hm0 : m0 ≠ 0) (hm1 : m1 ≠ 0) (o1 : Bool) (hs : F.notary_Book_Verify l1 w1 d1 d2 l2 = some o1) :
  Calls Try.prog 25 #[.pointer (some ⟨b1, 0, none⟩), AG [encA .u8 d1], AG [encA .u8 d2], .slice a2 n2 c2] g0.w (Ret NoM g0 fun v g => v = .bool o1) := by
 refine calls_of (args := [.pointer (some ⟨b1, 0, none⟩), AG [encA .u8 d1], AG [encA .u8 d2], .slice a2 n2 c2]) Try.func25 rfl (m0 + m1 + 0) ?_
 intro t ht htL
 refine ⟨_, rfl, ?_⟩
 refine CP.refr 44 [(0, .pointer (some ⟨b1, 0, none⟩)), (1, AG [encA .u8 d1]), (2, AG [encA .u8 d2]), (3, .slice a2 n2 c2)] (by kernel_rfl) (by kernel_rfl) ?_
 intro ds
 have tot : Step (fun l => NoM l ∨ t ≤ l) g0 g0 := Step.refl _ _
 unfold F.notary_Book_Verify at hs
 refine CP.seqR ?_
 refine WP.alloc (T := 37) (t + 1) [encA .u8 d1] [8] (by kernel_rfl) (by simp [len_encA]) ?_
 intro g1 b3 st1 hB3
 replace hB2 := hB2.mono st1 (fun x => x)
 replace hR1 := hR1.mono st1 (fun x => x)
 replace hB1 := hB1.mono st1 (fun x => x)
 replace hR2 := hR2.mono st1 (fun x => x)
 replace tot := tot.trans st1.pure
 refine WP.alloc (T := 37) (t + 2) [encA .u8 d2] [8] (by kernel_rfl) (by simp [len_encA]) ?_
 intro g2 b4 st2 hB4
 replace hB2 := hB2.mono st2 (fun x => x)
 replace hR1 := hR1.mono st2 (fun x => x)
 replace hB1 := hB1.mono st2 (fun x => x)
 replace hR2 := hR2.mono st2 (fun x => x)
 replace hB3 := hB3.mono st2 (fun x => x)
 replace tot := tot.trans st2.pure
 refine WP.stl 1 ?_
 refine WP.dn ?_
 refine NX.then_n ?_
 refine CP.seq ?_
 refine CP.seq ?_
 refine CP.region ?_
 refine WP.stl 4 ?_
 refine WP.len (a := a2) (cp := c2) hR2.len (by kernel_rfl) ?_
 refine WP.stl 2 ?_
 refine WP.dn ?_
 refine NX.then_n ?_
 refine CP.cond (b := ((l2.length : Int) != 2)) (by kernel_rfl) (fun h1 => ?_) (fun h1 => ?_)
 ·replace hs := of_if_t hs h1
  refine CP.seqR ?_
  refine WP.stl 1 ?_
  refine WP.dn ?_
  refine NX.then_n ?_
  refine CP.ret ?_
  refine NX.then_r ?_
  replace hs := Option.some.inj hs
  obtain rfl := hs
  exact NX.fin (v := .bool false) (Res.still (by kernel_rfl)) tot htL rfl
 replace hs := of_if_f hs h1
 refine CP.skip ?_
 refine NX.then_n ?_
 refine CP.seq ?_
 refine CP.drawL (by kernel_rfl) [3, 4, 5, 6, 7] N.notary_Book_Verify_0 [⟨none, [], [], fun l g => Box g m0 b1 121 [[.slice a1 n1 c1], [.map (some b2)]] [1, 1]⟩, ⟨none, [], [], fun l g => MapB g m1 b2 kv_S_notary_entry (Value.int .i64) w1⟩, ⟨none, [], [], fun l g => Box g (t + 1) b3 37 [encA .u8 d1] [8]⟩, ⟨none, [], [], fun l g => Box g (t + 2) b4 37 [encA .u8 d2] [8]⟩, ⟨some 0, [], [0], fun l g => l.getD 0 undef = .map (some b2)⟩, ⟨some 1, [], [1], fun l g => l.getD 0 undef = AG [encA .u8 d1]⟩, ⟨some 2, [], [2], fun l g => l.getD 0 undef = AG [encA .u8 d2]⟩, ⟨some 3, [], [3], fun l g => l.getD 0 undef = AG [encA .u8 d1, encA .u8 d2]⟩, ⟨some 4, [], [4], fun l g => l.getD 0 undef = .tuple #[.int .i64 ((mapGet eqk_S_notary_entry 0 w1 (⟨d1, d2⟩ : S_notary_entry)).1), .bool ((mapGet eqk_S_notary_entry 0 w1 (⟨d1, d2⟩ : S_notary_entry)).2)]⟩] [[], [], [], [], []] [] [0, 1, 2] [8, 9, 10, 11, 12] (by kernel_rfl) (by simp) (by simp) ⟨fun _ _ _ _ st h0 hl hj hB2 => (hB2.mono st (fun h => absurd (hl _ h) (by simp))), fun _ _ _ _ st h0 hl hj hB1 => (hB1.mono st (fun h => absurd (hl _ h) (by simp))), fun _ _ _ _ st h0 hl hj hB3 => (hB3.mono st (fun h => absurd (hl _ h) (by simp))), fun _ _ _ _ st h0 hl hj hB4 => (hB4.mono st (fun h => absurd (hl _ h) (by simp))), fun _ _ _ _ st h0 hl hj e0 => e0, fun _ _ _ _ st h0 hl hj e1 => e1, fun _ _ _ _ st h0 hl hj e2 => e2, fun _ _ _ _ st h0 hl hj e3 => e3, fun _ _ _ _ st h0 hl hj e4 => e4, tv⟩ ⟨hB2, hB1, hB3, hB4, tv, tv, tv, tv, tv, tv⟩ (by kernel_rfl) (fun vs => by kernel_rfl) ?_ ?_ ?_
 ·intro j hj
  have hq : j = 0 ∨ j = 1 ∨ j = 2 ∨ j = 3 ∨ j = 4 := by have h : j < 5 := hj; omega
  rcases hq with rfl | rfl | rfl | rfl | rfl
  ·intro vs gq stq hl hf
   obtain ⟨v0, v1, v2, v3, v4, rfl⟩ := len_k5 hl
   have e4 := (show v4 = .tuple #[.int .i64 ((mapGet eqk_S_notary_entry 0 w1 (⟨d1, d2⟩ : S_notary_entry)).1), .bool ((mapGet eqk_S_notary_entry 0 w1 (⟨d1, d2⟩ : S_notary_entry)).2)] from hf _ (memI 8 rfl) (by kernel_rfl))
   subst e4
   show Option.isSome _ = true
   kernel_rfl
  ·intro vs gq stq hl hf
   obtain ⟨v0, v1, v2, v3, v4, rfl⟩ := len_k5 hl
   have e4 := (show v4 = .tuple #[.int .i64 ((mapGet eqk_S_notary_entry 0 w1 (⟨d1, d2⟩ : S_notary_entry)).1), .bool ((mapGet eqk_S_notary_entry 0 w1 (⟨d1, d2⟩ : S_notary_entry)).2)] from hf _ (memI 8 rfl) (by kernel_rfl))
   subst e4
   show Option.isSome _ = true
   kernel_rfl
  ·intro vs gq stq hl hf
   obtain ⟨v0, v1, v2, v3, v4, rfl⟩ := len_k5 hl
   have e4 := (show v4 = .tuple #[.int .i64 ((mapGet eqk_S_notary_entry 0 w1 (⟨d1, d2⟩ : S_notary_entry)).1), .bool ((mapGet eqk_S_notary_entry 0 w1 (⟨d1, d2⟩ : S_notary_entry)).2)] from hf _ (memI 8 rfl) (by kernel_rfl))
   subst e4
   show Option.isSome _ = true
   kernel_rfl
  ·intro vs gq stq hl hf
   obtain ⟨v0, v1, v2, v3, v4, rfl⟩ := len_k5 hl
   have e4 := (show v4 = .tuple #[.int .i64 ((mapGet eqk_S_notary_entry 0 w1 (⟨d1, d2⟩ : S_notary_entry)).1), .bool ((mapGet eqk_S_notary_entry 0 w1 (⟨d1, d2⟩ : S_notary_entry)).2)] from hf _ (memI 8 rfl) (by kernel_rfl))
   subst e4
   show Option.isSome _ = true
   kernel_rfl
  ·intro vs gq stq hl hf
   obtain ⟨v0, v1, v2, v3, v4, rfl⟩ := len_k5 hl
   have e4 := (show v4 = .tuple #[.int .i64 ((mapGet eqk_S_notary_entry 0 w1 (⟨d1, d2⟩ : S_notary_entry)).1), .bool ((mapGet eqk_S_notary_entry 0 w1 (⟨d1, d2⟩ : S_notary_entry)).2)] from hf _ (memI 8 rfl) (by kernel_rfl))
   subst e4
   show Option.isSome _ = true
   kernel_rfl
 ·intro j hj
  have hq : j = 0 ∨ j = 1 ∨ j = 2 ∨ j = 3 ∨ j = 4 := by have h : j < 5 := hj; omega
  rcases hq with rfl | rfl | rfl | rfl | rfl
  ·intro vs gq stq hl hf
   obtain ⟨v0, v1, v2, v3, v4, rfl⟩ := len_k5 hl
   have hB2 := (show Box gq m0 b1 121 [[.slice a1 n1 c1], [.map (some b2)]] [1, 1] from hf _ (memI 0 rfl) (by kernel_rfl))
   refine WP.loadB (v := .map (some b2)) hB2 (by kernel_rfl) (by kernel_rfl) ?_
   refine WP.dn (Shown.ok (v := .map (some b2)) (by kernel_rfl) (Step.refl _ _) ?_)
   exact ⟨tv, tv, tv, tv, rfl, tv, tv, tv, tv, tv⟩
  ·intro vs gq stq hl hf
   obtain ⟨v0, v1, v2, v3, v4, rfl⟩ := len_k5 hl
   have hB3 := (show Box gq (t + 1) b3 37 [encA .u8 d1] [8] from hf _ (memI 2 rfl) (by kernel_rfl))
   refine WP.loadB (v := AG [encA .u8 d1]) hB3 (by kernel_rfl) (by kernel_rfl) ?_
   refine WP.dn (Shown.ok (v := AG [encA .u8 d1]) (by kernel_rfl) (Step.refl _ _) ?_)
   exact ⟨tv, tv, tv, tv, tv, rfl, tv, tv, tv, tv⟩
  ·intro vs gq stq hl hf
   obtain ⟨v0, v1, v2, v3, v4, rfl⟩ := len_k5 hl
   have hB4 := (show Box gq (t + 2) b4 37 [encA .u8 d2] [8] from hf _ (memI 3 rfl) (by kernel_rfl))
   refine WP.loadB (v := AG [encA .u8 d2]) hB4 (by kernel_rfl) (by kernel_rfl) ?_
   refine WP.dn (Shown.ok (v := AG [encA .u8 d2]) (by kernel_rfl) (Step.refl _ _) ?_)
   exact ⟨tv, tv, tv, tv, tv, tv, rfl, tv, tv, tv⟩
  ·intro vs gq stq hl hf
   obtain ⟨v0, v1, v2, v3, v4, rfl⟩ := len_k5 hl
   have e1 := (show v1 = AG [encA .u8 d1] from hf _ (memI 5 rfl) (by kernel_rfl))
   subst e1
   have e2 := (show v2 = AG [encA .u8 d2] from hf _ (memI 6 rfl) (by kernel_rfl))
   subst e2
   refine WP.buildS (places := #[(0, 8), (8, 8)]) (t := 126) [encA .u8 (zA 8), encA .u8 (zA 8)] [8, 8] (by kernel_rfl) (by kernel_rfl) (by simp [len_encA]) (by kernel_rfl) ((.cons (i := 0) (off := 0) (v := AG [encA .u8 d1]) (mid := [encA .u8 d1, encA .u8 (zA 8)]) [encA .u8 d1] [8] (by kernel_rfl) (by kernel_rfl) (by simp [len_encA]) (by kernel_rfl) (.cons (i := 1) (off := 8) (v := AG [encA .u8 d2]) (mid := [encA .u8 d1, encA .u8 d2]) [encA .u8 d2] [8] (by kernel_rfl) (by kernel_rfl) (by simp [len_encA]) (by kernel_rfl) .nil))) ?_
   refine WP.dn (Shown.ok (v := AG [encA .u8 d1, encA .u8 d2]) (by kernel_rfl) (Step.refl _ _) ?_)
   exact ⟨tv, tv, tv, tv, tv, tv, tv, rfl, tv, tv⟩
  ·intro vs gq stq hl hf
   obtain ⟨v0, v1, v2, v3, v4, rfl⟩ := len_k5 hl
   have hB1 := (show MapB gq m1 b2 kv_S_notary_entry (Value.int .i64) w1 from hf _ (memI 1 rfl) (by kernel_rfl))
   have e0 := (show v0 = .map (some b2) from hf _ (memI 4 rfl) (by kernel_rfl))
   subst e0
   have e3 := (show v3 = AG [encA .u8 d1, encA .u8 d2] from hf _ (memI 7 rfl) (by kernel_rfl))
   subst e3
   refine WP.mapGet (et := 3) (z := 0) (k := (⟨d1, d2⟩ : S_notary_entry)) hB1 keyOk_S_notary_entry (by kernel_rfl) (by kernel_rfl) ?_
   refine WP.dn (Shown.ok (v := .tuple #[.int .i64 ((mapGet eqk_S_notary_entry 0 w1 (⟨d1, d2⟩ : S_notary_entry)).1), .bool ((mapGet eqk_S_notary_entry 0 w1 (⟨d1, d2⟩ : S_notary_entry)).2)]) (by kernel_rfl) (Step.refl _ _) ?_)
   exact ⟨tv, tv, tv, tv, tv, tv, tv, tv, rfl, tv⟩
 intro vs g3 st3 hl hf
 obtain ⟨v0, v1, v2, v3, v4, rfl⟩ := len_k5 hl
 have e4 := (show v4 = .tuple #[.int .i64 ((mapGet eqk_S_notary_entry 0 w1 (⟨d1, d2⟩ : S_notary_entry)).1), .bool ((mapGet eqk_S_notary_entry 0 w1 (⟨d1, d2⟩ : S_notary_entry)).2)] from hf _ (memI 8 rfl) (by kernel_rfl))
 subst e4
 replace hR2 := hR2.mono st3.toNo (fun x => x)
 replace tot := tot.trans st3.toNo.pure
 refine NX.then_n ?_
 refine CP.refr 44 [(3, .slice a2 n2 c2), (9, .int .i64 ((mapGet eqk_S_notary_entry 0 w1 (⟨d1, d2⟩ : S_notary_entry)).1)), (10, .bool ((mapGet eqk_S_notary_entry 0 w1 (⟨d1, d2⟩ : S_notary_entry)).2))] (by kernel_rfl) (by kernel_rfl) ?_
 clear ds
 intro ds
 refine CP.cut (fun tm g => ∃ (q1 : Bool), Fr 44 [(8, .bool q1)] tm ∧ Step (fun l => NoM l ∨ t ≤ l) g0 g ∧ (F.notary_Book_Verify.c1 q1) = some o1) ?_ ?_
 ·refine bool_split (b := (mapGet eqk_S_notary_entry 0 w1 (⟨d1, d2⟩ : S_notary_entry)).2) (fun h3 => ?_) (fun h3 => ?_)
  ·replace hs := of_if_t hs h3
   by_cases hc3 : (0 : Int) ≤ 0 ∧ 0 < (l2.length : Int)
   case neg => rw [if_neg hc3] at hs; cases hs
   replace hs := of_if_p hs hc3
   by_cases hc4 : (0 : Int) ≤ 1 ∧ 1 < (l2.length : Int)
   case neg => rw [if_neg hc4] at hs; cases hs
   replace hs := of_if_p hs hc4
   obtain ⟨b7, u3, ha3⟩ := hR2.at hc3
   obtain ⟨b8, u4, ha4⟩ := hR2.at hc4
   refine CP.drawL (by kernel_rfl) [1, 4, 5, 8, 9] N.notary_Book_Verify_1 [⟨none, [], [], fun l g => RdS (Kd.int .u8) g 5 a2 n2 c2 l2⟩, ⟨some 0, [], [0], fun l g => l.getD 0 undef = .bool true⟩, ⟨some 1, [], [1], fun l g => l.getD 0 undef = .pointer (some ⟨b7, u3 + (0 : Int).toNat * 1, none⟩)⟩, ⟨some 2, [], [2], fun l g => l.getD 0 undef = .int .u8 (getI l2 0)⟩, ⟨some 3, [], [3], fun l g => l.getD 0 undef = .pointer (some ⟨b8, u4 + (1 : Int).toNat * 1, none⟩)⟩, ⟨some 4, [], [4], fun l g => l.getD 0 undef = .int .u8 (getI l2 1)⟩] [[], [], [], [], []] [] [0] [2, 3, 6, 7, 10, 11, 12, 13, 14, 15] (by kernel_rfl) (by simp) (by simp) ⟨fun _ _ _ _ st h0 hl hj hR2 => (RdS.mono (e := 5) hR2 st h0), fun _ _ _ _ st h0 hl hj e0 => e0, fun _ _ _ _ st h0 hl hj e1 => e1, fun _ _ _ _ st h0 hl hj e2 => e2, fun _ _ _ _ st h0 hl hj e3 => e3, fun _ _ _ _ st h0 hl hj e4 => e4, tv⟩ ⟨hR2, tv, tv, tv, tv, tv, tv⟩ (by kernel_rfl) (fun vs => by kernel_rfl) ?_ ?_ ?_
   ·intro j hj
    have hq : j = 0 ∨ j = 1 ∨ j = 2 ∨ j = 3 ∨ j = 4 ∨ j = 5 ∨ j = 6 ∨ j = 7 ∨ j = 8 ∨ j = 9 := by have h : j < 10 := hj; omega
    rcases hq with rfl | rfl | rfl | rfl | rfl | rfl | rfl | rfl | rfl | rfl
    ·intro vs gq stq hl hf
     obtain ⟨v0, v1, v2, v3, v4, rfl⟩ := len_k5 hl
     have e0 := (show v0 = .bool true from hf _ (memI 1 rfl) (by kernel_rfl))
     subst e0
     show Option.isSome _ = true
     kernel_rfl
    ·intro vs gq stq hl hf
     obtain ⟨v0, v1, v2, v3, v4, rfl⟩ := len_k5 hl
     have e0 := (show v0 = .bool true from hf _ (memI 1 rfl) (by kernel_rfl))
     subst e0
     show Option.isSome _ = true
     kernel_rfl
    ·intro vs gq stq hl hf
     obtain ⟨v0, v1, v2, v3, v4, rfl⟩ := len_k5 hl
     have e0 := (show v0 = .bool true from hf _ (memI 1 rfl) (by kernel_rfl))
     subst e0
     have e2 := (show v2 = .int .u8 (getI l2 0) from hf _ (memI 3 rfl) (by kernel_rfl))
     subst e2
     show Option.isSome _ = true
     kernel_rfl
    ·intro vs gq stq hl hf
     obtain ⟨v0, v1, v2, v3, v4, rfl⟩ := len_k5 hl
     have e0 := (show v0 = .bool true from hf _ (memI 1 rfl) (by kernel_rfl))
     subst e0
     show Option.isSome _ = true
     kernel_rfl
    ·intro vs gq stq hl hf
     obtain ⟨v0, v1, v2, v3, v4, rfl⟩ := len_k5 hl
     have e0 := (show v0 = .bool true from hf _ (memI 1 rfl) (by kernel_rfl))
     subst e0
     have e4 := (show v4 = .int .u8 (getI l2 1) from hf _ (memI 5 rfl) (by kernel_rfl))
     subst e4
     show Option.isSome _ = true
     kernel_rfl
    ·intro vs gq stq hl hf
     obtain ⟨v0, v1, v2, v3, v4, rfl⟩ := len_k5 hl
     have e0 := (show v0 = .bool true from hf _ (memI 1 rfl) (by kernel_rfl))
     subst e0
     have e4 := (show v4 = .int .u8 (getI l2 1) from hf _ (memI 5 rfl) (by kernel_rfl))
     subst e4
     show Option.isSome _ = true
     kernel_rfl
    ·intro vs gq stq hl hf
     obtain ⟨v0, v1, v2, v3, v4, rfl⟩ := len_k5 hl
     have e0 := (show v0 = .bool true from hf _ (memI 1 rfl) (by kernel_rfl))
     subst e0
     have e2 := (show v2 = .int .u8 (getI l2 0) from hf _ (memI 3 rfl) (by kernel_rfl))
     subst e2
     have e4 := (show v4 = .int .u8 (getI l2 1) from hf _ (memI 5 rfl) (by kernel_rfl))
     subst e4
     show Option.isSome _ = true
     kernel_rfl
    ·intro vs gq stq hl hf
     obtain ⟨v0, v1, v2, v3, v4, rfl⟩ := len_k5 hl
     have e0 := (show v0 = .bool true from hf _ (memI 1 rfl) (by kernel_rfl))
     subst e0
     have e2 := (show v2 = .int .u8 (getI l2 0) from hf _ (memI 3 rfl) (by kernel_rfl))
     subst e2
     have e4 := (show v4 = .int .u8 (getI l2 1) from hf _ (memI 5 rfl) (by kernel_rfl))
     subst e4
     show Option.isSome _ = true
     kernel_rfl
    ·intro vs gq stq hl hf
     obtain ⟨v0, v1, v2, v3, v4, rfl⟩ := len_k5 hl
     have e0 := (show v0 = .bool true from hf _ (memI 1 rfl) (by kernel_rfl))
     subst e0
     have e2 := (show v2 = .int .u8 (getI l2 0) from hf _ (memI 3 rfl) (by kernel_rfl))
     subst e2
     have e4 := (show v4 = .int .u8 (getI l2 1) from hf _ (memI 5 rfl) (by kernel_rfl))
     subst e4
     show Option.isSome _ = true
     kernel_rfl
    ·intro vs gq stq hl hf
     obtain ⟨v0, v1, v2, v3, v4, rfl⟩ := len_k5 hl
     have e0 := (show v0 = .bool true from hf _ (memI 1 rfl) (by kernel_rfl))
     subst e0
     have e2 := (show v2 = .int .u8 (getI l2 0) from hf _ (memI 3 rfl) (by kernel_rfl))
     subst e2
     have e4 := (show v4 = .int .u8 (getI l2 1) from hf _ (memI 5 rfl) (by kernel_rfl))
     subst e4
     show Option.isSome _ = true
     kernel_rfl
   ·intro j hj
    have hq : j = 0 ∨ j = 1 ∨ j = 2 ∨ j = 3 ∨ j = 4 := by have h : j < 5 := hj; omega
    rcases hq with rfl | rfl | rfl | rfl | rfl
    ·intro vs gq stq hl hf
     obtain ⟨v0, v1, v2, v3, v4, rfl⟩ := len_k5 hl
     refine WP.stl 1 ?_
     refine WP.dn (Shown.ok (v := .bool ((mapGet eqk_S_notary_entry 0 w1 (⟨d1, d2⟩ : S_notary_entry)).2)) (by kernel_rfl) (Step.refl _ _) ?_)
     exact ⟨tv, congrArg Value.bool h3, tv, tv, tv, tv, tv⟩
    ·intro vs gq stq hl hf
     obtain ⟨v0, v1, v2, v3, v4, rfl⟩ := len_k5 hl
     have hR2 := (show RdS (Kd.int .u8) gq 5 a2 n2 c2 l2 from hf _ (memI 0 rfl) (by kernel_rfl))
     have e0 := (show v0 = .bool true from hf _ (memI 1 rfl) (by kernel_rfl))
     subst e0
     refine WP.indexA (t := 33) (e := 5) (sz := 1) (cap := c2) (k := .i64) (i := 0) hR2.len ha3 (by kernel_rfl) (by kernel_rfl) hc3 ?_
     refine WP.dn (Shown.ok (v := .pointer (some ⟨b7, u3 + (0 : Int).toNat * 1, none⟩)) (by kernel_rfl) (Step.refl _ _) ?_)
     exact ⟨tv, tv, rfl, tv, tv, tv, tv⟩
    ·intro vs gq stq hl hf
     obtain ⟨v0, v1, v2, v3, v4, rfl⟩ := len_k5 hl
     have hR2 := (show RdS (Kd.int .u8) gq 5 a2 n2 c2 l2 from hf _ (memI 0 rfl) (by kernel_rfl))
     have e0 := (show v0 = .bool true from hf _ (memI 1 rfl) (by kernel_rfl))
     subst e0
     have e1 := (show v1 = .pointer (some ⟨b7, u3 + (0 : Int).toNat * 1, none⟩) from hf _ (memI 2 rfl) (by kernel_rfl))
     subst e1
     obtain ⟨cs3, hcR3, hcV3⟩ := hR2.src.view (getI_some hc3) ha3
     replace hcR3 := Kd.o_int hcR3
     refine WP.loadV [[.int .u8 (getI l2 0)]] [1] hcV3 hcR3 rfl (f := 0) (ty := 5) (agg := false) (size := 1) (rs := [[.int .u8 (getI l2 0)]]) (v := .int .u8 (getI l2 0)) (by kernel_rfl) (by kernel_rfl) (by kernel_rfl) (by kernel_rfl) ?_
     refine WP.dn (Shown.ok (v := .int .u8 (getI l2 0)) (by kernel_rfl) (Step.refl _ _) ?_)
     exact ⟨tv, tv, tv, rfl, tv, tv, tv⟩
    ·intro vs gq stq hl hf
     obtain ⟨v0, v1, v2, v3, v4, rfl⟩ := len_k5 hl
     have hR2 := (show RdS (Kd.int .u8) gq 5 a2 n2 c2 l2 from hf _ (memI 0 rfl) (by kernel_rfl))
     have e0 := (show v0 = .bool true from hf _ (memI 1 rfl) (by kernel_rfl))
     subst e0
     refine WP.indexA (t := 33) (e := 5) (sz := 1) (cap := c2) (k := .i64) (i := 1) hR2.len ha4 (by kernel_rfl) (by kernel_rfl) hc4 ?_
     refine WP.dn (Shown.ok (v := .pointer (some ⟨b8, u4 + (1 : Int).toNat * 1, none⟩)) (by kernel_rfl) (Step.refl _ _) ?_)
     exact ⟨tv, tv, tv, tv, rfl, tv, tv⟩
    ·intro vs gq stq hl hf
     obtain ⟨v0, v1, v2, v3, v4, rfl⟩ := len_k5 hl
     have hR2 := (show RdS (Kd.int .u8) gq 5 a2 n2 c2 l2 from hf _ (memI 0 rfl) (by kernel_rfl))
     have e0 := (show v0 = .bool true from hf _ (memI 1 rfl) (by kernel_rfl))
     subst e0
     have e3 := (show v3 = .pointer (some ⟨b8, u4 + (1 : Int).toNat * 1, none⟩) from hf _ (memI 4 rfl) (by kernel_rfl))
     subst e3
     obtain ⟨cs4, hcR4, hcV4⟩ := hR2.src.view (getI_some hc4) ha4
     replace hcR4 := Kd.o_int hcR4
     refine WP.loadV [[.int .u8 (getI l2 1)]] [1] hcV4 hcR4 rfl (f := 0) (ty := 5) (agg := false) (size := 1) (rs := [[.int .u8 (getI l2 1)]]) (v := .int .u8 (getI l2 1)) (by kernel_rfl) (by kernel_rfl) (by kernel_rfl) (by kernel_rfl) ?_
     refine WP.dn (Shown.ok (v := .int .u8 (getI l2 1)) (by kernel_rfl) (Step.refl _ _) ?_)
     exact ⟨tv, tv, tv, tv, tv, rfl, tv⟩
   intro vs g4 st4 hl hf
   obtain ⟨v0, v1, v2, v3, v4, rfl⟩ := len_k5 hl
   have e0 := (show v0 = .bool true from hf _ (memI 1 rfl) (by kernel_rfl))
   subst e0
   have e2 := (show v2 = .int .u8 (getI l2 0) from hf _ (memI 3 rfl) (by kernel_rfl))
   subst e2
   have e4 := (show v4 = .int .u8 (getI l2 1) from hf _ (memI 5 rfl) (by kernel_rfl))
   subst e4
   replace tot := tot.trans st4.toNo.pure
   refine NX.post ?_
   exact ⟨(((mapGet eqk_S_notary_entry 0 w1 (⟨d1, d2⟩ : S_notary_entry)).1) == (bitOr .i64 (IntKind.i64.wrap (getI l2 0)) (shV true .i64 (IntKind.i64.wrap (getI l2 1)) 8))), ⟨by kernel_rfl, by kernel_rfl⟩, tot, hs⟩
  replace hs := of_if_f hs h3
  refine CP.drawL (by kernel_rfl) [1] N.notary_Book_Verify_1 [⟨some 0, [], [0], fun l g => l.getD 0 undef = .bool false⟩] [[]] [] [0] [2, 3, 4, 5, 6, 7, 8, 9, 10, 11, 12, 13, 14, 15] (by kernel_rfl) (by simp) (by simp) ⟨fun _ _ _ _ st h0 hl hj e0 => e0, tv⟩ ⟨tv, tv⟩ (by kernel_rfl) (fun vs => by kernel_rfl) ?_ ?_ ?_
  ·intro j hj
   have hq : j = 0 ∨ j = 1 ∨ j = 2 ∨ j = 3 ∨ j = 4 ∨ j = 5 ∨ j = 6 ∨ j = 7 ∨ j = 8 ∨ j = 9 ∨ j = 10 ∨ j = 11 ∨ j = 12 ∨ j = 13 := by have h : j < 14 := hj; omega
   rcases hq with rfl | rfl | rfl | rfl | rfl | rfl | rfl | rfl | rfl | rfl | rfl | rfl | rfl | rfl
   ·intro vs gq stq hl hf
    obtain ⟨v0, rfl⟩ := len_k1 hl
    have e0 := (show v0 = .bool false from hf _ (memI 0 rfl) (by kernel_rfl))
    subst e0
    show Option.isSome _ = true
    kernel_rfl
   ·intro vs gq stq hl hf
    obtain ⟨v0, rfl⟩ := len_k1 hl
    have e0 := (show v0 = .bool false from hf _ (memI 0 rfl) (by kernel_rfl))
    subst e0
    show Option.isSome _ = true
    kernel_rfl
   ·intro vs gq stq hl hf
    obtain ⟨v0, rfl⟩ := len_k1 hl
    have e0 := (show v0 = .bool false from hf _ (memI 0 rfl) (by kernel_rfl))
    subst e0
    show Option.isSome _ = true
    kernel_rfl
   ·intro vs gq stq hl hf
    obtain ⟨v0, rfl⟩ := len_k1 hl
    have e0 := (show v0 = .bool false from hf _ (memI 0 rfl) (by kernel_rfl))
    subst e0
    show Option.isSome _ = true
    kernel_rfl
   ·intro vs gq stq hl hf
    obtain ⟨v0, rfl⟩ := len_k1 hl
    have e0 := (show v0 = .bool false from hf _ (memI 0 rfl) (by kernel_rfl))
    subst e0
    show Option.isSome _ = true
    kernel_rfl
   ·intro vs gq stq hl hf
    obtain ⟨v0, rfl⟩ := len_k1 hl
    have e0 := (show v0 = .bool false from hf _ (memI 0 rfl) (by kernel_rfl))
    subst e0
    show Option.isSome _ = true
    kernel_rfl
   ·intro vs gq stq hl hf
    obtain ⟨v0, rfl⟩ := len_k1 hl
    have e0 := (show v0 = .bool false from hf _ (memI 0 rfl) (by kernel_rfl))
    subst e0
    show Option.isSome _ = true
    kernel_rfl
   ·intro vs gq stq hl hf
    obtain ⟨v0, rfl⟩ := len_k1 hl
    have e0 := (show v0 = .bool false from hf _ (memI 0 rfl) (by kernel_rfl))
    subst e0
    show Option.isSome _ = true
    kernel_rfl
   ·intro vs gq stq hl hf
    obtain ⟨v0, rfl⟩ := len_k1 hl
    have e0 := (show v0 = .bool false from hf _ (memI 0 rfl) (by kernel_rfl))
    subst e0
    show Option.isSome _ = true
    kernel_rfl
   ·intro vs gq stq hl hf
    obtain ⟨v0, rfl⟩ := len_k1 hl
    have e0 := (show v0 = .bool false from hf _ (memI 0 rfl) (by kernel_rfl))
    subst e0
    show Option.isSome _ = true
    kernel_rfl
   ·intro vs gq stq hl hf
    obtain ⟨v0, rfl⟩ := len_k1 hl
    have e0 := (show v0 = .bool false from hf _ (memI 0 rfl) (by kernel_rfl))
    subst e0
    show Option.isSome _ = true
    kernel_rfl
   ·intro vs gq stq hl hf
    obtain ⟨v0, rfl⟩ := len_k1 hl
    have e0 := (show v0 = .bool false from hf _ (memI 0 rfl) (by kernel_rfl))
    subst e0
    show Option.isSome _ = true
    kernel_rfl
   ·intro vs gq stq hl hf
    obtain ⟨v0, rfl⟩ := len_k1 hl
    have e0 := (show v0 = .bool false from hf _ (memI 0 rfl) (by kernel_rfl))
    subst e0
    show Option.isSome _ = true
    kernel_rfl
   ·intro vs gq stq hl hf
    obtain ⟨v0, rfl⟩ := len_k1 hl
    have e0 := (show v0 = .bool false from hf _ (memI 0 rfl) (by kernel_rfl))
    subst e0
    show Option.isSome _ = true
    kernel_rfl
  ·intro j hj
   have hq : j = 0 := by have h : j < 1 := hj; omega
   rcases hq with rfl
   ·intro vs gq stq hl hf
    obtain ⟨v0, rfl⟩ := len_k1 hl
    refine WP.stl 1 ?_
    refine WP.dn (Shown.ok (v := .bool ((mapGet eqk_S_notary_entry 0 w1 (⟨d1, d2⟩ : S_notary_entry)).2)) (by kernel_rfl) (Step.refl _ _) ?_)
    exact ⟨congrArg Value.bool h3, tv⟩
  intro vs g5 st5 hl hf
  obtain ⟨v0, rfl⟩ := len_k1 hl
  have e0 := (show v0 = .bool false from hf _ (memI 0 rfl) (by kernel_rfl))
  subst e0
  replace tot := tot.trans st5.toNo.pure
  refine NX.post ?_
  exact ⟨false, ⟨by kernel_rfl, by kernel_rfl⟩, tot, hs⟩
 clear tot hs hR2
 rintro tm g ⟨q1, hF, tot, hs⟩
 clear ds
 obtain ⟨ds, rfl⟩ := hF.open
 clear hF
 unfold F.notary_Book_Verify.c1 at hs
 refine CP.ret ?_
 replace hs := Option.some.inj hs
 obtain rfl := hs
 exact NX.fin (v := .bool q1) (Res.still (by kernel_rfl)) tot htL rfl
def N.punish_Twice_0 : List (List Nat) := [[], [0], [], [0, 1, 2], [], [], [0, 1, 2, 3, 4, 5], [0, 1, 2, 3, 4, 5, 6]]
def F.punish_Twice.c3 (q15 : Bool) : Option (Int) := (if q15 = true then (some 16) else (some 0))
def N.punish_Twice_1 : List (List Nat) := [[], [], [], [2], [], [4], [0], [0, 6], [0, 6, 7], [0, 1, 2, 3, 4, 5, 6, 7, 8], [0, 1, 2, 3, 4, 5, 6, 7, 8, 9], [0, 1, 2, 3, 4, 5, 6, 7, 8, 9, 10], [0, 1, 2, 3, 4, 5, 6, 7, 8, 9, 10, 11], [0, 1, 2, 3, 4, 5, 6, 7, 8, 9, 10, 11], [0, 1, 2, 3, 4, 5, 6, 7, 8, 9, 10, 11], [0, 1, 2, 3, 4, 5, 6, 7, 8, 9, 10, 11, 14], [0, 1, 2, 3, 4, 5, 6, 7, 8, 9, 10, 11], [0, 1, 2, 3, 4, 5, 6, 7, 8, 9, 10, 11, 16], [0, 1, 2, 3, 4, 5, 6, 7, 8, 9, 10, 11, 12], [0, 1, 2, 3, 4, 5, 6, 7, 8, 9, 10, 11, 12, 18], [0, 1, 2, 3, 4, 5, 6, 7, 8, 9, 10, 11, 12, 18, 19], [0, 1, 2, 3, 4, 5, 6, 7, 8, 9, 10, 11, 12, 13, 14, 15, 16, 17, 18, 19, 20], [0, 1, 2, 3, 4, 5, 6, 7, 8, 9, 10, 11, 12, 13, 14, 15, 16, 17, 18, 19, 20, 21], [0, 1, 2, 3, 4, 5, 6, 7, 8, 9, 10, 11, 12, 13, 14, 15, 16, 17, 18, 19, 20, 21, 22], [0, 1, 2, 3, 4, 5, 6, 7, 8, 9, 10, 11, 12, 13, 14, 15, 16, 17, 18, 19, 20, 21, 22, 23]]
def F.punish_Twice.c2 (l1 : List S_notary_entry) (w1 : (List (S_notary_entry × Int))) (d2 : Arr Int 8) (x1 : Int) (d3 : Arr Int 8) (x2 : Int) (l2 : List Int) (d4 : Arr Int 8) (x3 : Int) (d5 : Arr Int 8) (l3 : List Int) (l4 : List Int) (x4 : Int) (d6 : Arr Int 8) (x5 : Int) (l5 : List Int) (d7 : Arr Int 8) (x6 : Int) (d8 : Arr Int 8) (l6 : List Int) (l7 : List Int) (q12 : Bool) : Option (Int) := (if q12 = true then (some 18) else ((F.punish_Thing_Digest x1 d3 x2 l2 d4 x3 d5 l3 l4).bind fun d29 => ((F.punish_Thing_Digest x4 d6 x5 l5 d7 x6 d8 l6 l7).bind fun d30 => (if (d29.1 == d30.1) = true then (some 7) else ((F.punish_Thing_Digest x1 d3 x2 l2 d4 x3 d5 l3 l4).bind fun d33 => ((F.notary_Book_Verify l1 w1 d2 d33 l4).bind fun q16 => (if (!q16) = true then (F.punish_Twice.c3 true) else ((F.punish_Thing_Digest x4 d6 x5 l5 d7 x6 d8 l6 l7).bind fun d34 => ((F.notary_Book_Verify l1 w1 d2 d34 l7).bind fun q17 => (F.punish_Twice.c3 (!q17)))))))))))
def F.punish_Twice.c1 (l1 : List S_notary_entry) (w1 : (List (S_notary_entry × Int))) (d2 : Arr Int 8) (x1 : Int) (d3 : Arr Int 8) (x2 : Int) (l2 : List Int) (d4 : Arr Int 8) (x3 : Int) (d5 : Arr Int 8) (l3 : List Int) (l4 : List Int) (x4 : Int) (d6 : Arr Int 8) (x5 : Int) (l5 : List Int) (d7 : Arr Int 8) (x6 : Int) (d8 : Arr Int 8) (l6 : List Int) (l7 : List Int) (x18 : Int) (d26 : Arr Int 8) (x19 : Int) (d28 : Arr Int 8) (q11 : Bool) : Option (Int) := (if q11 = true then (some 6) else (if (x18 != x19) = true then (F.punish_Twice.c2 l1 w1 d2 x1 d3 x2 l2 d4 x3 d5 l3 l4 x4 d6 x5 l5 d7 x6 d8 l6 l7 true) else (F.punish_Twice.c2 l1 w1 d2 x1 d3 x2 l2 d4 x3 d5 l3 l4 x4 d6 x5 l5 d7 x6 d8 l6 l7 (!(d26.1 == d28.1)))))
def F.punish_Twice.l1 (l1 : List S_notary_entry) (w1 : (List (S_notary_entry × Int))) (d1 : Arr Int 8) (d2 : Arr Int 8) (x1 : Int) (d3 : Arr Int 8) (x2 : Int) (l2 : List Int) (d4 : Arr Int 8) (x3 : Int) (d5 : Arr Int 8) (l3 : List Int) (l4 : List Int) (x4 : Int) (d6 : Arr Int 8) (x5 : Int) (l5 : List Int) (d7 : Arr Int 8) (x6 : Int) (d8 : Arr Int 8) (l6 : List Int) (l7 : List Int) : Nat → Int → Option (Int)
 | 0, _ => none
 | k + 1, x10 => (if decide (x10 < 2) = true then (if (x10 == 0) = true then ((F.punish_Thing_Check x1 d3 x2 l2 d4 x3 d5 l3 l4).bind fun x16 => (if (x16 != 0) = true then (some x16) else (F.punish_Twice.l1 l1 w1 d1 d2 x1 d3 x2 l2 d4 x3 d5 l3 l4 x4 d6 x5 l5 d7 x6 d8 l6 l7 k (IntKind.i64.wrap (x10 + 1))))) else (if x10 = 1 then ((F.punish_Thing_Check x4 d6 x5 l5 d7 x6 d8 l6 l7).bind fun x17 => (if (x17 != 0) = true then (some x17) else (F.punish_Twice.l1 l1 w1 d1 d2 x1 d3 x2 l2 d4 x3 d5 l3 l4 x4 d6 x5 l5 d7 x6 d8 l6 l7 k (IntKind.i64.wrap (x10 + 1))))) else none)) else ((F.punish_Thing_own x1 d3 x2 l2 d4 x3 d5 l3 l4).bind fun (d25, x18, d26, l12) => ((F.punish_Thing_own x4 d6 x5 l5 d7 x6 d8 l6 l7).bind fun (d27, x19, d28, l13) => (if (x1 != x4) = true then (some 11) else (if (!(d25.1 == d1.1)) = true then (F.punish_Twice.c1 l1 w1 d2 x1 d3 x2 l2 d4 x3 d5 l3 l4 x4 d6 x5 l5 d7 x6 d8 l6 l7 x18 d26 x19 d28 true) else (F.punish_Twice.c1 l1 w1 d2 x1 d3 x2 l2 d4 x3 d5 l3 l4 x4 d6 x5 l5 d7 x6 d8 l6 l7 x18 d26 x19 d28 (!(d27.1 == d1.1))))))))
def F.punish_Twice (l1 : List S_notary_entry) (w1 : (List (S_notary_entry × Int))) (d1 : Arr Int 8) (d2 : Arr Int 8) (x1 : Int) (d3 : Arr Int 8) (x2 : Int) (l2 : List Int) (d4 : Arr Int 8) (x3 : Int) (d5 : Arr Int 8) (l3 : List Int) (l4 : List Int) (x4 : Int) (d6 : Arr Int 8) (x5 : Int) (l5 : List Int) (d7 : Arr Int 8) (x6 : Int) (d8 : Arr Int 8) (l6 : List Int) (l7 : List Int) : Option (Int) := (F.punish_Twice.l1 l1 w1 d1 d2 x1 d3 x2 l2 d4 x3 d5 l3 l4 x4 d6 x5 l5 d7 x6 d8 l6 l7 fuel 0)
theorem P.punish_Twice (g0 : GW) (m0 : Nat) (m1 : Nat) (l1 : List S_notary_entry) (w1 : (List (S_notary_entry × Int))) (d1 : Arr Int 8) (d2 : Arr Int 8) (x1 : Int) (d3 : Arr Int 8) (x2 : Int) (l2 : List Int) (d4 : Arr Int 8) (x3 : Int) (d5 : Arr Int 8) (l3 : List Int) (l4 : List Int) (x4 : Int) (d6 : Arr Int 8) (x5 : Int) (l5 : List Int) (d7 : Arr Int 8) (x6 : Int) (d8 : Arr Int 8) (l6 : List Int) (l7 : List Int) (a1 : Option Addr) (n1 : Nat) (c1 : Nat) (a2 : Option Addr) (n2 : Nat) (c2 : Nat) (a3 : Option Addr) (n3 : Nat) (c3 : Nat) (a4 : Option Addr) (n4 : Nat) (c4 : Nat) (a5 : Option Addr) (n5 : Nat) (c5 : Nat) (a6 : Option Addr) (n6 : Nat) (c6 : Nat) (a7 : Option Addr) (n7 : Nat) (c7 : Nat) (b1 : Nat) (b2 : Nat) (hR1 : RdS k_S_notary_entry g0 126 a1 n1 c1 l1) (hR2 : RdS (Kd.int .u8) g0 5 a2 n2 c2 l2) (hR3 : RdS (Kd.int .u8) g0 5 a3 n3 c3 l3) (hR4 : RdS (Kd.int .u8) g0 5 a4 n4 c4 l4) (hR5 : RdS (Kd.int .u8) g0 5 a5 n5 c5 l5) (hR6 : RdS (Kd.int .u8) g0 5 a6 n6 c6 l6) (hR7 : RdS (Kd.int .u8) g0 5 a7 n7 c7 l7) (hB1 : MapB g0 m1 b2 kv_S_notary_entry (Value.int .i64) w1) (hB2 : Box g0 m0 b1 121 [[.slice a1 n1 c1], [.map (some b2)]] [1, 1]) (hm1_0 : m1 ≠ m0) (hm0 : m0 ≠ 0) (hm1 : m1 ≠ 0) (o1 : Int) (hs : F.punish_Twice l1 w1 d1 d2 x1 d3 x2 l2 d4 x3 d5 l3 l4 x4 d6 x5 l5 d7 x6 d8 l6 l7 = some o1) :
  Calls Try.prog 31 #[.iface 57 (.pointer (some ⟨b1, 0, none⟩)), AG [encA .u8 d1], AG [encA .u8 d2], AG [[.int .i64 x1], encA .u8 d3, [.int .i64 x2], [.slice a2 n2 c2], encA .u8 d4, [.int .i64 x3], encA .u8 d5, [.slice a3 n3 c3], [.slice a4 n4 c4]], AG [[.int .i64 x4], encA .u8 d6, [.int .i64 x5], [.slice a5 n5 c5], encA .u8 d7, [.int .i64 x6], encA .u8 d8, [.slice a6 n6 c6], [.slice a7 n7 c7]]] g0.w (Ret NoM g0 fun v g => v = .int .i64 o1) := by
 refine calls_of (args := [.iface 57 (.pointer (some ⟨b1, 0, none⟩)), AG [encA .u8 d1], AG [encA .u8 d2], AG [[.int .i64 x1], encA .u8 d3, [.int .i64 x2], [.slice a2 n2 c2], encA .u8 d4, [.int .i64 x3], encA .u8 d5, [.slice a3 n3 c3], [.slice a4 n4 c4]], AG [[.int .i64 x4], encA .u8 d6, [.int .i64 x5], [.slice a5 n5 c5], encA .u8 d7, [.int .i64 x6], encA .u8 d8, [.slice a6 n6 c6], [.slice a7 n7 c7]]]) Try.func31 rfl (m0 + m1 + 0) ?_
 intro t ht htL
 refine ⟨_, rfl, ?_⟩
 refine CP.refr 95 [(0, .iface 57 (.pointer (some ⟨b1, 0, none⟩))), (1, AG [encA .u8 d1]), (2, AG [encA .u8 d2]), (3, AG [[.int .i64 x1], encA .u8 d3, [.int .i64 x2], [.slice a2 n2 c2], encA .u8 d4, [.int .i64 x3], encA .u8 d5, [.slice a3 n3 c3], [.slice a4 n4 c4]]), (4, AG [[.int .i64 x4], encA .u8 d6, [.int .i64 x5], [.slice a5 n5 c5], encA .u8 d7, [.int .i64 x6], encA .u8 d8, [.slice a6 n6 c6], [.slice a7 n7 c7]])] (by kernel_rfl) (by kernel_rfl) ?_
 intro ds
 have tot : Step (fun l => NoM l ∨ t ≤ l) g0 g0 := Step.refl _ _
 unfold F.punish_Twice at hs
 refine CP.seqR ?_
 refine WP.alloc (T := 37) (t + 1) [encA .u8 d1] [8] (by kernel_rfl) (by simp [len_encA]) ?_
 intro g1 b3 st1 hB3
 replace hB2 := hB2.mono st1 (fun x => x)
 replace hR1 := hR1.mono st1 (fun x => x)
 replace hB1 := hB1.mono st1 (fun x => x)
 replace hR2 := hR2.mono st1 (fun x => x)
 replace hR3 := hR3.mono st1 (fun x => x)
 replace hR4 := hR4.mono st1 (fun x => x)
 replace hR5 := hR5.mono st1 (fun x => x)
 replace hR6 := hR6.mono st1 (fun x => x)
 replace hR7 := hR7.mono st1 (fun x => x)
 replace tot := tot.trans st1.pure
 refine WP.alloc (T := 37) (t + 2) [encA .u8 d2] [8] (by kernel_rfl) (by simp [len_encA]) ?_
 intro g2 b4 st2 hB4
 replace hB2 := hB2.mono st2 (fun x => x)
 replace hR1 := hR1.mono st2 (fun x => x)
 replace hB1 := hB1.mono st2 (fun x => x)
 replace hR2 := hR2.mono st2 (fun x => x)
 replace hR3 := hR3.mono st2 (fun x => x)
 replace hR4 := hR4.mono st2 (fun x => x)
 replace hR5 := hR5.mono st2 (fun x => x)
 replace hR6 := hR6.mono st2 (fun x => x)
 replace hR7 := hR7.mono st2 (fun x => x)
 replace hB3 := hB3.mono st2 (fun x => x)
 replace tot := tot.trans st2.pure
 refine WP.alloc (T := 43) (t + 3) [[.int .i64 x1], encA .u8 d3, [.int .i64 x2], [.slice a2 n2 c2], encA .u8 d4, [.int .i64 x3], encA .u8 d5, [.slice a3 n3 c3], [.slice a4 n4 c4]] [1, 8, 1, 1, 8, 1, 8, 1, 1] (by kernel_rfl) (by simp [len_encA]) ?_
 intro g3 b5 st3 hB5
 replace hB2 := hB2.mono st3 (fun x => x)
 replace hR1 := hR1.mono st3 (fun x => x)
 replace hB1 := hB1.mono st3 (fun x => x)
 replace hR2 := hR2.mono st3 (fun x => x)
 replace hR3 := hR3.mono st3 (fun x => x)
 replace hR4 := hR4.mono st3 (fun x => x)
 replace hR5 := hR5.mono st3 (fun x => x)
 replace hR6 := hR6.mono st3 (fun x => x)
 replace hR7 := hR7.mono st3 (fun x => x)
 replace hB3 := hB3.mono st3 (fun x => x)
 replace hB4 := hB4.mono st3 (fun x => x)
 replace tot := tot.trans st3.pure
 refine WP.alloc (T := 43) (t + 4) [[.int .i64 x4], encA .u8 d6, [.int .i64 x5], [.slice a5 n5 c5], encA .u8 d7, [.int .i64 x6], encA .u8 d8, [.slice a6 n6 c6], [.slice a7 n7 c7]] [1, 8, 1, 1, 8, 1, 8, 1, 1] (by kernel_rfl) (by simp [len_encA]) ?_
 intro g4 b6 st4 hB6
 replace hB2 := hB2.mono st4 (fun x => x)
 replace hR1 := hR1.mono st4 (fun x => x)
 replace hB1 := hB1.mono st4 (fun x => x)
 replace hR2 := hR2.mono st4 (fun x => x)
 replace hR3 := hR3.mono st4 (fun x => x)
 replace hR4 := hR4.mono st4 (fun x => x)
 replace hR5 := hR5.mono st4 (fun x => x)
 replace hR6 := hR6.mono st4 (fun x => x)
 replace hR7 := hR7.mono st4 (fun x => x)
 replace hB3 := hB3.mono st4 (fun x => x)
 replace hB4 := hB4.mono st4 (fun x => x)
 replace hB5 := hB5.mono st4 (fun x => x)
 replace tot := tot.trans st4.pure
 refine WP.stl 1 ?_
 refine WP.dn ?_
 refine NX.then_n ?_
 refine CP.seq ?_
 refine CP.seqR ?_
 refine WP.stl 2 ?_
 refine WP.dn ?_
 refine NX.then_n ?_
 refine CP.cond_f (by kernel_rfl) ?_
 refine CP.skip ?_
 refine NX.then_n ?_
 refine CP.seq ?_
 refine CP.seqR ?_
 refine WP.loadB (v := AG [[.int .i64 x1], encA .u8 d3, [.int .i64 x2], [.slice a2 n2 c2], encA .u8 d4, [.int .i64 x3], encA .u8 d5, [.slice a3 n3 c3], [.slice a4 n4 c4]]) hB5 (by kernel_rfl) (by kernel_rfl) ?_
 refine WP.loadB (v := AG [[.int .i64 x4], encA .u8 d6, [.int .i64 x5], [.slice a5 n5 c5], encA .u8 d7, [.int .i64 x6], encA .u8 d8, [.slice a6 n6 c6], [.slice a7 n7 c7]]) hB6 (by kernel_rfl) (by kernel_rfl) ?_
 refine WP.buildA (e := 43) (m := 2) (size := 30) (t := 132) [[.int .i64 0], encA .u8 (zA 8), [.int .i64 0], [.slice none 0 0], encA .u8 (zA 8), [.int .i64 0], encA .u8 (zA 8), [.slice none 0 0], [.slice none 0 0], [.int .i64 0], encA .u8 (zA 8), [.int .i64 0], [.slice none 0 0], encA .u8 (zA 8), [.int .i64 0], encA .u8 (zA 8), [.slice none 0 0], [.slice none 0 0]] [1, 8, 1, 1, 8, 1, 8, 1, 1, 1, 8, 1, 1, 8, 1, 8, 1, 1] (by kernel_rfl) (by kernel_rfl) (by simp [len_encA]) (by kernel_rfl) ((.cons (i := 0) (off := 0) (v := AG [[.int .i64 x1], encA .u8 d3, [.int .i64 x2], [.slice a2 n2 c2], encA .u8 d4, [.int .i64 x3], encA .u8 d5, [.slice a3 n3 c3], [.slice a4 n4 c4]]) (mid := [[.int .i64 x1], encA .u8 d3, [.int .i64 x2], [.slice a2 n2 c2], encA .u8 d4, [.int .i64 x3], encA .u8 d5, [.slice a3 n3 c3], [.slice a4 n4 c4], [.int .i64 0], encA .u8 (zA 8), [.int .i64 0], [.slice none 0 0], encA .u8 (zA 8), [.int .i64 0], encA .u8 (zA 8), [.slice none 0 0], [.slice none 0 0]]) [[.int .i64 x1], encA .u8 d3, [.int .i64 x2], [.slice a2 n2 c2], encA .u8 d4, [.int .i64 x3], encA .u8 d5, [.slice a3 n3 c3], [.slice a4 n4 c4]] [1, 8, 1, 1, 8, 1, 8, 1, 1] (by kernel_rfl) (by kernel_rfl) (by simp [len_encA]) (by kernel_rfl) (.cons (i := 1) (off := 30) (v := AG [[.int .i64 x4], encA .u8 d6, [.int .i64 x5], [.slice a5 n5 c5], encA .u8 d7, [.int .i64 x6], encA .u8 d8, [.slice a6 n6 c6], [.slice a7 n7 c7]]) (mid := [[.int .i64 x1], encA .u8 d3, [.int .i64 x2], [.slice a2 n2 c2], encA .u8 d4, [.int .i64 x3], encA .u8 d5, [.slice a3 n3 c3], [.slice a4 n4 c4], [.int .i64 x4], encA .u8 d6, [.int .i64 x5], [.slice a5 n5 c5], encA .u8 d7, [.int .i64 x6], encA .u8 d8, [.slice a6 n6 c6], [.slice a7 n7 c7]]) [[.int .i64 x4], encA .u8 d6, [.int .i64 x5], [.slice a5 n5 c5], encA .u8 d7, [.int .i64 x6], encA .u8 d8, [.slice a6 n6 c6], [.slice a7 n7 c7]] [1, 8, 1, 1, 8, 1, 8, 1, 1] (by kernel_rfl) (by kernel_rfl) (by simp [len_encA]) (by kernel_rfl) .nil))) ?_
 refine WP.stl 1 ?_
 refine WP.dn ?_
 refine NX.then_n ?_
 refine CP.block ?_
 generalize fuel = k1 at hs
 refine CP.loop (fun k1 tm g => ∃ (x10 : Int), Fr 95 [(0, .iface 57 (.pointer (some ⟨b1, 0, none⟩))), (6, .pointer (some ⟨b3, 0, none⟩)), (7, .pointer (some ⟨b4, 0, none⟩)), (8, .pointer (some ⟨b5, 0, none⟩)), (9, .pointer (some ⟨b6, 0, none⟩)), (20, AG [[.int .i64 x1], encA .u8 d3, [.int .i64 x2], [.slice a2 n2 c2], encA .u8 d4, [.int .i64 x3], encA .u8 d5, [.slice a3 n3 c3], [.slice a4 n4 c4], [.int .i64 x4], encA .u8 d6, [.int .i64 x5], [.slice a5 n5 c5], encA .u8 d7, [.int .i64 x6], encA .u8 d8, [.slice a6 n6 c6], [.slice a7 n7 c7]]), (21, .int .i64 x10)] tm ∧ Step (fun l => NoM l ∨ t ≤ l) g0 g ∧ Box g m0 b1 121 [[.slice a1 n1 c1], [.map (some b2)]] [1, 1] ∧ RdS k_S_notary_entry g 126 a1 n1 c1 l1 ∧ MapB g m1 b2 kv_S_notary_entry (Value.int .i64) w1 ∧ Box g (t + 1) b3 37 [encA .u8 d1] [8] ∧ Box g (t + 2) b4 37 [encA .u8 d2] [8] ∧ Box g (t + 3) b5 43 [[.int .i64 x1], encA .u8 d3, [.int .i64 x2], [.slice a2 n2 c2], encA .u8 d4, [.int .i64 x3], encA .u8 d5, [.slice a3 n3 c3], [.slice a4 n4 c4]] [1, 8, 1, 1, 8, 1, 8, 1, 1] ∧ RdS (Kd.int .u8) g 5 a2 n2 c2 l2 ∧ RdS (Kd.int .u8) g 5 a3 n3 c3 l3 ∧ RdS (Kd.int .u8) g 5 a4 n4 c4 l4 ∧ Box g (t + 4) b6 43 [[.int .i64 x4], encA .u8 d6, [.int .i64 x5], [.slice a5 n5 c5], encA .u8 d7, [.int .i64 x6], encA .u8 d8, [.slice a6 n6 c6], [.slice a7 n7 c7]] [1, 8, 1, 1, 8, 1, 8, 1, 1] ∧ RdS (Kd.int .u8) g 5 a5 n5 c5 l5 ∧ RdS (Kd.int .u8) g 5 a6 n6 c6 l6 ∧ RdS (Kd.int .u8) g 5 a7 n7 c7 l7 ∧ F.punish_Twice.l1 l1 w1 d1 d2 x1 d3 x2 l2 d4 x3 d5 l3 l4 x4 d6 x5 l5 d7 x6 d8 l6 l7 k1 x10 = some o1) k1 ?_ ?_ ?_
 ·exact ⟨0, ⟨by kernel_rfl, by kernel_rfl⟩, tot, hB2, hR1, hB1, hB3, hB4, hB5, hR2, hR3, hR4, hB6, hR5, hR6, hR7, hs⟩
 ·rintro tm g ⟨x10, hF, tot, hB2, hR1, hB1, hB3, hB4, hB5, hR2, hR3, hR4, hB6, hR5, hR6, hR7, hs⟩
  exact absurd hs (by simp [F.punish_Twice.l1])
 clear tot hs hB2 hR1 hB1 hB3 hB4 hB5 hR2 hR3 hR4 hB6 hR5 hR6 hR7
 rintro k1 tm g ⟨x10, hF, tot, hB2, hR1, hB1, hB3, hB4, hB5, hR2, hR3, hR4, hB6, hR5, hR6, hR7, hs⟩
 clear ds
 obtain ⟨ds, rfl⟩ := hF.open
 clear hF
 unfold F.punish_Twice.l1 at hs
 refine CP.seqR ?_
 refine WP.stl 1 ?_
 refine WP.dn ?_
 refine NX.then_n ?_
 refine CP.seq ?_
 refine CP.cond (b := decide (x10 < 2)) (by kernel_rfl) (fun h23 => ?_) (fun h23 => ?_)
 ·replace hs := of_if_t hs h23
  refine CP.skip ?_
  refine NX.then_n ?_
  refine CP.seq ?_
  refine CP.block ?_
  refine CP.seqR ?_
  refine bool_split (b := (x10 == 0)) (fun h24 => ?_) (fun h24 => ?_)
  ·replace hs := of_if_t hs h24
   refine WP.indexG (e := 43) (len := 2) (size := 30) (k := .i64) (i := x10) (segs := [[.int .i64 x1], encA .u8 d3, [.int .i64 x2], [.slice a2 n2 c2], encA .u8 d4, [.int .i64 x3], encA .u8 d5, [.slice a3 n3 c3], [.slice a4 n4 c4], [.int .i64 x4], encA .u8 d6, [.int .i64 x5], [.slice a5 n5 c5], encA .u8 d7, [.int .i64 x6], encA .u8 d8, [.slice a6 n6 c6], [.slice a7 n7 c7]]) (ns := [1, 8, 1, 1, 8, 1, 8, 1, 1, 1, 8, 1, 1, 8, 1, 8, 1, 1]) (v := AG [[.int .i64 x1], encA .u8 d3, [.int .i64 x2], [.slice a2 n2 c2], encA .u8 d4, [.int .i64 x3], encA .u8 d5, [.slice a3 n3 c3], [.slice a4 n4 c4]]) 0 (eq_of_beq h24) (Nat.le_of_ble_eq_true rfl) (by simp [len_encA]) (by kernel_rfl) (by kernel_rfl) (by kernel_rfl) ?_
   refine WP.alloc (T := 43) (t + 12) [[.int .i64 0], encA .u8 (zA 8), [.int .i64 0], [.slice none 0 0], encA .u8 (zA 8), [.int .i64 0], encA .u8 (zA 8), [.slice none 0 0], [.slice none 0 0]] [1, 8, 1, 1, 8, 1, 8, 1, 1] (by kernel_rfl) (by simp [len_encA]) ?_
   intro g38 b14 st38 hB21
   replace hB2 := hB2.mono st38 (fun x => x)
   replace hR1 := hR1.mono st38 (fun x => x)
   replace hB1 := hB1.mono st38 (fun x => x)
   replace hB3 := hB3.mono st38 (fun x => x)
   replace hB4 := hB4.mono st38 (fun x => x)
   replace hB5 := hB5.mono st38 (fun x => x)
   replace hR2 := hR2.mono st38 (fun x => x)
   replace hR3 := hR3.mono st38 (fun x => x)
   replace hR4 := hR4.mono st38 (fun x => x)
   replace hB6 := hB6.mono st38 (fun x => x)
   replace hR5 := hR5.mono st38 (fun x => x)
   replace hR6 := hR6.mono st38 (fun x => x)
   replace hR7 := hR7.mono st38 (fun x => x)
   replace tot := tot.trans st38.pure
   refine WP.storeB (ty := 43) (off := 0) (v := AG [[.int .i64 x1], encA .u8 d3, [.int .i64 x2], [.slice a2 n2 c2], encA .u8 d4, [.int .i64 x3], encA .u8 d5, [.slice a3 n3 c3], [.slice a4 n4 c4]]) hB21 [[.int .i64 x1], encA .u8 d3, [.int .i64 x2], [.slice a2 n2 c2], encA .u8 d4, [.int .i64 x3], encA .u8 d5, [.slice a3 n3 c3], [.slice a4 n4 c4]] [1, 8, 1, 1, 8, 1, 8, 1, 1] (by kernel_rfl) (by kernel_rfl) (by simp [len_encA]) (by kernel_rfl) [[.int .i64 x1], encA .u8 d3, [.int .i64 x2], [.slice a2 n2 c2], encA .u8 d4, [.int .i64 x3], encA .u8 d5, [.slice a3 n3 c3], [.slice a4 n4 c4]] (by kernel_rfl) (.one rfl (.arr (.one rfl (.one rfl (.arr (.one rfl (.arr (.one rfl (.one rfl .nil))))))))) ?_
   intro g39 st39 hB22
   replace hB2 := hB2.mono st39 (WL.no1 (by omega))
   replace hR1 := hR1.mono st39 (WL.no1 (by omega))
   replace hB1 := hB1.mono st39 (WL.no1 (by omega))
   replace hB3 := hB3.mono st39 (WL.no1 (by omega))
   replace hB4 := hB4.mono st39 (WL.no1 (by omega))
   replace hB5 := hB5.mono st39 (WL.no1 (by omega))
   replace hR2 := hR2.mono st39 (WL.no1 (by omega))
   replace hR3 := hR3.mono st39 (WL.no1 (by omega))
   replace hR4 := hR4.mono st39 (WL.no1 (by omega))
   replace hB6 := hB6.mono st39 (WL.no1 (by omega))
   replace hR5 := hR5.mono st39 (WL.no1 (by omega))
   replace hR6 := hR6.mono st39 (WL.no1 (by omega))
   replace hR7 := hR7.mono st39 (WL.no1 (by omega))
   replace tot := tot.trans (st39.up1 (.inr (by omega)))
   clear hB21
   have hB21 := hB22
   clear hB22
   refine WP.dn ?_
   refine NX.then_n ?_
   refine CP.seqR ?_
   refine WP.loadB (v := AG [[.int .i64 x1], encA .u8 d3, [.int .i64 x2], [.slice a2 n2 c2], encA .u8 d4, [.int .i64 x3], encA .u8 d5, [.slice a3 n3 c3], [.slice a4 n4 c4]]) hB21 (by kernel_rfl) (by kernel_rfl) ?_
   replace hs := Option.bind_eq_some_iff.1 hs
   obtain ⟨x16, hk20, hs⟩ := hs
   have hcal20 := P.punish_Thing_Check g39 x1 d3 x2 l2 d4 x3 d5 l3 l4 a2 n2 c2 a3 n3 c3 a4 n4 c4 hR2 hR3 hR4 x16 hk20
   refine WP.callC hcal20 (by kernel_rfl) ?_
   rintro _ g40 st40 rfl
   replace hB2 := hB2.mono st40 (fun x => x)
   replace hR1 := hR1.mono st40 (fun x => x)
   replace hB1 := hB1.mono st40 (fun x => x)
   replace hB3 := hB3.mono st40 (fun x => x)
   replace hB4 := hB4.mono st40 (fun x => x)
   replace hB5 := hB5.mono st40 (fun x => x)
   replace hR2 := hR2.mono st40 (fun x => x)
   replace hR3 := hR3.mono st40 (fun x => x)
   replace hR4 := hR4.mono st40 (fun x => x)
   replace hB6 := hB6.mono st40 (fun x => x)
   replace hR5 := hR5.mono st40 (fun x => x)
   replace hR6 := hR6.mono st40 (fun x => x)
   replace hR7 := hR7.mono st40 (fun x => x)
   replace hB21 := hB21.mono st40 (fun x => x)
   replace tot := tot.trans st40.pure
   refine WP.stl 1 ?_
   refine WP.dn ?_
   refine NX.then_n ?_
   refine CP.seqR ?_
   refine WP.stl 2 ?_
   refine WP.dn ?_
   refine NX.then_n ?_
   refine CP.cond (b := (x16 != 0)) (by kernel_rfl) (fun h25 => ?_) (fun h25 => ?_)
   ·replace hs := of_if_t hs h25
    refine CP.seqR ?_
    refine WP.stl 2 ?_
    refine WP.dn ?_
    refine NX.then_n ?_
    refine CP.ret ?_
    refine NX.block_r ?_
    refine NX.then_r ?_
    refine NX.then_r ?_
    refine NX.block_r ?_
    refine NX.then_r ?_
    replace hs := Option.some.inj hs
    obtain rfl := hs
    exact NX.fin (v := .int .i64 x16) (Res.still (by kernel_rfl)) tot htL rfl
   replace hs := of_if_f hs h25
   refine CP.skip ?_
   refine NX.block_n ?_
   refine NX.then_n ?_
   refine CP.region ?_
   refine WP.stl 2 ?_
   refine WP.dn ?_
   refine NX.post ?_
   exact ⟨(IntKind.i64.wrap (x10 + 1)), ⟨by kernel_rfl, by kernel_rfl⟩, tot, hB2, hR1, hB1, hB3, hB4, hB5, hR2, hR3, hR4, hB6, hR5, hR6, hR7, hs⟩
  replace hs := of_if_f hs h24
  by_cases hc2 : x10 = 1
  case neg => rw [if_neg hc2] at hs; cases hs
  replace hs := of_if_p hs hc2
  refine WP.indexG (e := 43) (len := 2) (size := 30) (k := .i64) (i := x10) (segs := [[.int .i64 x1], encA .u8 d3, [.int .i64 x2], [.slice a2 n2 c2], encA .u8 d4, [.int .i64 x3], encA .u8 d5, [.slice a3 n3 c3], [.slice a4 n4 c4], [.int .i64 x4], encA .u8 d6, [.int .i64 x5], [.slice a5 n5 c5], encA .u8 d7, [.int .i64 x6], encA .u8 d8, [.slice a6 n6 c6], [.slice a7 n7 c7]]) (ns := [1, 8, 1, 1, 8, 1, 8, 1, 1, 1, 8, 1, 1, 8, 1, 8, 1, 1]) (v := AG [[.int .i64 x4], encA .u8 d6, [.int .i64 x5], [.slice a5 n5 c5], encA .u8 d7, [.int .i64 x6], encA .u8 d8, [.slice a6 n6 c6], [.slice a7 n7 c7]]) 1 hc2 (Nat.le_of_ble_eq_true rfl) (by simp [len_encA]) (by kernel_rfl) (by kernel_rfl) (by kernel_rfl) ?_
  refine WP.alloc (T := 43) (t + 13) [[.int .i64 0], encA .u8 (zA 8), [.int .i64 0], [.slice none 0 0], encA .u8 (zA 8), [.int .i64 0], encA .u8 (zA 8), [.slice none 0 0], [.slice none 0 0]] [1, 8, 1, 1, 8, 1, 8, 1, 1] (by kernel_rfl) (by simp [len_encA]) ?_
  intro g41 b15 st41 hB23
  replace hB2 := hB2.mono st41 (fun x => x)
  replace hR1 := hR1.mono st41 (fun x => x)
  replace hB1 := hB1.mono st41 (fun x => x)
  replace hB3 := hB3.mono st41 (fun x => x)
  replace hB4 := hB4.mono st41 (fun x => x)
  replace hB5 := hB5.mono st41 (fun x => x)
  replace hR2 := hR2.mono st41 (fun x => x)
  replace hR3 := hR3.mono st41 (fun x => x)
  replace hR4 := hR4.mono st41 (fun x => x)
  replace hB6 := hB6.mono st41 (fun x => x)
  replace hR5 := hR5.mono st41 (fun x => x)
  replace hR6 := hR6.mono st41 (fun x => x)
  replace hR7 := hR7.mono st41 (fun x => x)
  replace tot := tot.trans st41.pure
  refine WP.storeB (ty := 43) (off := 0) (v := AG [[.int .i64 x4], encA .u8 d6, [.int .i64 x5], [.slice a5 n5 c5], encA .u8 d7, [.int .i64 x6], encA .u8 d8, [.slice a6 n6 c6], [.slice a7 n7 c7]]) hB23 [[.int .i64 x4], encA .u8 d6, [.int .i64 x5], [.slice a5 n5 c5], encA .u8 d7, [.int .i64 x6], encA .u8 d8, [.slice a6 n6 c6], [.slice a7 n7 c7]] [1, 8, 1, 1, 8, 1, 8, 1, 1] (by kernel_rfl) (by kernel_rfl) (by simp [len_encA]) (by kernel_rfl) [[.int .i64 x4], encA .u8 d6, [.int .i64 x5], [.slice a5 n5 c5], encA .u8 d7, [.int .i64 x6], encA .u8 d8, [.slice a6 n6 c6], [.slice a7 n7 c7]] (by kernel_rfl) (.one rfl (.arr (.one rfl (.one rfl (.arr (.one rfl (.arr (.one rfl (.one rfl .nil))))))))) ?_
  intro g42 st42 hB24
  replace hB2 := hB2.mono st42 (WL.no1 (by omega))
  replace hR1 := hR1.mono st42 (WL.no1 (by omega))
  replace hB1 := hB1.mono st42 (WL.no1 (by omega))
  replace hB3 := hB3.mono st42 (WL.no1 (by omega))
  replace hB4 := hB4.mono st42 (WL.no1 (by omega))
  replace hB5 := hB5.mono st42 (WL.no1 (by omega))
  replace hR2 := hR2.mono st42 (WL.no1 (by omega))
  replace hR3 := hR3.mono st42 (WL.no1 (by omega))
  replace hR4 := hR4.mono st42 (WL.no1 (by omega))
  replace hB6 := hB6.mono st42 (WL.no1 (by omega))
  replace hR5 := hR5.mono st42 (WL.no1 (by omega))
  replace hR6 := hR6.mono st42 (WL.no1 (by omega))
  replace hR7 := hR7.mono st42 (WL.no1 (by omega))
  replace tot := tot.trans (st42.up1 (.inr (by omega)))
  clear hB23
  have hB23 := hB24
  clear hB24
  refine WP.dn ?_
  refine NX.then_n ?_
  refine CP.seqR ?_
  refine WP.loadB (v := AG [[.int .i64 x4], encA .u8 d6, [.int .i64 x5], [.slice a5 n5 c5], encA .u8 d7, [.int .i64 x6], encA .u8 d8, [.slice a6 n6 c6], [.slice a7 n7 c7]]) hB23 (by kernel_rfl) (by kernel_rfl) ?_
  replace hs := Option.bind_eq_some_iff.1 hs
  obtain ⟨x17, hk21, hs⟩ := hs
  have hcal21 := P.punish_Thing_Check g42 x4 d6 x5 l5 d7 x6 d8 l6 l7 a5 n5 c5 a6 n6 c6 a7 n7 c7 hR5 hR6 hR7 x17 hk21
  refine WP.callC hcal21 (by kernel_rfl) ?_
  rintro _ g43 st43 rfl
  replace hB2 := hB2.mono st43 (fun x => x)
  replace hR1 := hR1.mono st43 (fun x => x)
  replace hB1 := hB1.mono st43 (fun x => x)
  replace hB3 := hB3.mono st43 (fun x => x)
  replace hB4 := hB4.mono st43 (fun x => x)
  replace hB5 := hB5.mono st43 (fun x => x)
  replace hR2 := hR2.mono st43 (fun x => x)
  replace hR3 := hR3.mono st43 (fun x => x)
  replace hR4 := hR4.mono st43 (fun x => x)
  replace hB6 := hB6.mono st43 (fun x => x)
  replace hR5 := hR5.mono st43 (fun x => x)
  replace hR6 := hR6.mono st43 (fun x => x)
  replace hR7 := hR7.mono st43 (fun x => x)
  replace hB23 := hB23.mono st43 (fun x => x)
  replace tot := tot.trans st43.pure
  refine WP.stl 1 ?_
  refine WP.dn ?_
  refine NX.then_n ?_
  refine CP.seqR ?_
  refine WP.stl 2 ?_
  refine WP.dn ?_
  refine NX.then_n ?_
  refine CP.cond (b := (x17 != 0)) (by kernel_rfl) (fun h26 => ?_) (fun h26 => ?_)
  ·replace hs := of_if_t hs h26
   refine CP.seqR ?_
   refine WP.stl 2 ?_
   refine WP.dn ?_
   refine NX.then_n ?_
   refine CP.ret ?_
   refine NX.block_r ?_
   refine NX.then_r ?_
   refine NX.then_r ?_
   refine NX.block_r ?_
   refine NX.then_r ?_
   replace hs := Option.some.inj hs
   obtain rfl := hs
   exact NX.fin (v := .int .i64 x17) (Res.still (by kernel_rfl)) tot htL rfl
  replace hs := of_if_f hs h26
  refine CP.skip ?_
  refine NX.block_n ?_
  refine NX.then_n ?_
  refine CP.region ?_
  refine WP.stl 2 ?_
  refine WP.dn ?_
  refine NX.post ?_
  exact ⟨(IntKind.i64.wrap (x10 + 1)), ⟨by kernel_rfl, by kernel_rfl⟩, tot, hB2, hR1, hB1, hB3, hB4, hB5, hR2, hR3, hR4, hB6, hR5, hR6, hR7, hs⟩
 replace hs := of_if_f hs h23
 refine CP.exit ?_
 refine NX.then_e ?_
 refine NX.then_e ?_
 refine NX.block_s ?_
 refine NX.then_n ?_
 refine CP.seq ?_
 replace hs := Option.bind_eq_some_iff.1 hs
 obtain ⟨⟨d25, x18, d26, l12⟩, hk22, hs⟩ := hs
 dsimp only at hs
 replace hs := Option.bind_eq_some_iff.1 hs
 obtain ⟨⟨d27, x19, d28, l13⟩, hk23, hs⟩ := hs
 dsimp only at hs
 refine CP.drawL (by kernel_rfl) [0, 1, 2, 3, 4, 5, 6, 7] N.punish_Twice_0 [⟨none, [], [], fun l g => Box g (t + 3) b5 43 [[.int .i64 x1], encA .u8 d3, [.int .i64 x2], [.slice a2 n2 c2], encA .u8 d4, [.int .i64 x3], encA .u8 d5, [.slice a3 n3 c3], [.slice a4 n4 c4]] [1, 8, 1, 1, 8, 1, 8, 1, 1]⟩, ⟨none, [], [], fun l g => RdS (Kd.int .u8) g 5 a2 n2 c2 l2⟩, ⟨none, [], [], fun l g => RdS (Kd.int .u8) g 5 a3 n3 c3 l3⟩, ⟨none, [], [], fun l g => RdS (Kd.int .u8) g 5 a4 n4 c4 l4⟩, ⟨none, [], [], fun l g => Box g (t + 4) b6 43 [[.int .i64 x4], encA .u8 d6, [.int .i64 x5], [.slice a5 n5 c5], encA .u8 d7, [.int .i64 x6], encA .u8 d8, [.slice a6 n6 c6], [.slice a7 n7 c7]] [1, 8, 1, 1, 8, 1, 8, 1, 1]⟩, ⟨none, [], [], fun l g => RdS (Kd.int .u8) g 5 a5 n5 c5 l5⟩, ⟨none, [], [], fun l g => RdS (Kd.int .u8) g 5 a6 n6 c6 l6⟩, ⟨none, [], [], fun l g => RdS (Kd.int .u8) g 5 a7 n7 c7 l7⟩, ⟨some 0, [], [0], fun l g => l.getD 0 undef = AG [[.int .i64 x1], encA .u8 d3, [.int .i64 x2], [.slice a2 n2 c2], encA .u8 d4, [.int .i64 x3], encA .u8 d5, [.slice a3 n3 c3], [.slice a4 n4 c4]]⟩, ⟨some 1, [], [1], fun l g => ∃ (a12 : Option Addr) (c12 : Nat), l.getD 0 undef = AG [encA .u8 d25, [.int .i64 x18], encA .u8 d26, [.slice a12 l12.length c12]] ∧ RdS (Kd.int .u8) g 5 a12 l12.length c12 l12⟩, ⟨some 2, [], [2], fun l g => l.getD 0 undef = AG [[.int .i64 x4], encA .u8 d6, [.int .i64 x5], [.slice a5 n5 c5], encA .u8 d7, [.int .i64 x6], encA .u8 d8, [.slice a6 n6 c6], [.slice a7 n7 c7]]⟩, ⟨some 3, [], [3], fun l g => ∃ (a13 : Option Addr) (c13 : Nat), l.getD 0 undef = AG [encA .u8 d27, [.int .i64 x19], encA .u8 d28, [.slice a13 l13.length c13]] ∧ RdS (Kd.int .u8) g 5 a13 l13.length c13 l13⟩, ⟨some 4, [0], [4], fun l g => ∃ (b16 : Nat), l.getD 0 undef = .pointer (some ⟨b16, 0, none⟩) ∧ Box g (t + 14) b16 91 [encA .u8 (zA 8), [.int .i64 0], encA .u8 (zA 8), [.slice none 0 0]] [8, 1, 8, 1]⟩, ⟨some 5, [1], [5], fun l g => ∃ (b17 : Nat), l.getD 0 undef = .pointer (some ⟨b17, 0, none⟩) ∧ Box g (t + 15) b17 91 [encA .u8 (zA 8), [.int .i64 0], encA .u8 (zA 8), [.slice none 0 0]] [8, 1, 8, 1]⟩, ⟨some 6, [0], [4, 1], fun l g => ∃ (b16 : Nat) (a12 : Option Addr) (c12 : Nat), l.getD 0 undef = .pointer (some ⟨b16, 0, none⟩) ∧ l.getD 1 undef = AG [encA .u8 d25, [.int .i64 x18], encA .u8 d26, [.slice a12 l12.length c12]] ∧ Box g (t + 14) b16 91 [encA .u8 d25, [.int .i64 x18], encA .u8 d26, [.slice a12 l12.length c12]] [8, 1, 8, 1] ∧ RdS (Kd.int .u8) g 5 a12 l12.length c12 l12⟩, ⟨some 7, [1], [5, 3], fun l g => ∃ (b17 : Nat) (a13 : Option Addr) (c13 : Nat), l.getD 0 undef = .pointer (some ⟨b17, 0, none⟩) ∧ l.getD 1 undef = AG [encA .u8 d27, [.int .i64 x19], encA .u8 d28, [.slice a13 l13.length c13]] ∧ Box g (t + 15) b17 91 [encA .u8 d27, [.int .i64 x19], encA .u8 d28, [.slice a13 l13.length c13]] [8, 1, 8, 1] ∧ RdS (Kd.int .u8) g 5 a13 l13.length c13 l13⟩] [[], [], [], [], [], [], [0], [1]] [(t + 14), (t + 15)] [] [] (by kernel_rfl) (by simp <;> omega) (by simp <;> omega) ⟨fun _ _ _ _ st h0 hl hj hB5 => (hB5.mono st (fun h => absurd (hl _ h) (by simp <;> omega))), fun _ _ _ _ st h0 hl hj hR2 => (RdS.mono (e := 5) hR2 st h0), fun _ _ _ _ st h0 hl hj hR3 => (RdS.mono (e := 5) hR3 st h0), fun _ _ _ _ st h0 hl hj hR4 => (RdS.mono (e := 5) hR4 st h0), fun _ _ _ _ st h0 hl hj hB6 => (hB6.mono st (fun h => absurd (hl _ h) (by simp <;> omega))), fun _ _ _ _ st h0 hl hj hR5 => (RdS.mono (e := 5) hR5 st h0), fun _ _ _ _ st h0 hl hj hR6 => (RdS.mono (e := 5) hR6 st h0), fun _ _ _ _ st h0 hl hj hR7 => (RdS.mono (e := 5) hR7 st h0), fun _ _ _ _ st h0 hl hj e0 => e0, fun _ _ _ _ st h0 hl hj ⟨a12, c12, e1, hR12⟩ => ⟨a12, c12, e1, (RdS.mono (e := 5) hR12 st h0)⟩, fun _ _ _ _ st h0 hl hj e2 => e2, fun _ _ _ _ st h0 hl hj ⟨a13, c13, e3, hR13⟩ => ⟨a13, c13, e3, (RdS.mono (e := 5) hR13 st h0)⟩, fun _ _ _ _ st h0 hl hj ⟨b16, e4, hB25⟩ => ⟨b16, e4, (hB25.mono st (hj 0 (by simp) _ rfl))⟩, fun _ _ _ _ st h0 hl hj ⟨b17, e5, hB26⟩ => ⟨b17, e5, (hB26.mono st (hj 1 (by simp) _ rfl))⟩, fun _ _ _ _ st h0 hl hj ⟨b16, a12, c12, e4, e1, hB25, hR12⟩ => ⟨b16, a12, c12, e4, e1, (hB25.mono st (hj 0 (by simp) _ rfl)), (RdS.mono (e := 5) hR12 st h0)⟩, fun _ _ _ _ st h0 hl hj ⟨b17, a13, c13, e5, e3, hB26, hR13⟩ => ⟨b17, a13, c13, e5, e3, (hB26.mono st (hj 1 (by simp) _ rfl)), (RdS.mono (e := 5) hR13 st h0)⟩, tv⟩ ⟨hB5, hR2, hR3, hR4, hB6, hR5, hR6, hR7, tv, tv, tv, tv, tv, tv, tv, tv, tv⟩ (by kernel_rfl) (fun vs => by kernel_rfl) ?_ ?_ ?_
 ·intro j hj; exact absurd hj (by simp)
 ·intro j hj
  have hq : j = 0 ∨ j = 1 ∨ j = 2 ∨ j = 3 ∨ j = 4 ∨ j = 5 ∨ j = 6 ∨ j = 7 := by have h : j < 8 := hj; omega
  rcases hq with rfl | rfl | rfl | rfl | rfl | rfl | rfl | rfl
  ·intro vs gq stq hl hf
   obtain ⟨v0, v1, v2, v3, v4, v5, v6, v7, rfl⟩ := len_k8 hl
   have hB5 := (show Box gq (t + 3) b5 43 [[.int .i64 x1], encA .u8 d3, [.int .i64 x2], [.slice a2 n2 c2], encA .u8 d4, [.int .i64 x3], encA .u8 d5, [.slice a3 n3 c3], [.slice a4 n4 c4]] [1, 8, 1, 1, 8, 1, 8, 1, 1] from hf _ (memI 0 rfl) (by kernel_rfl))
   refine WP.loadB (v := AG [[.int .i64 x1], encA .u8 d3, [.int .i64 x2], [.slice a2 n2 c2], encA .u8 d4, [.int .i64 x3], encA .u8 d5, [.slice a3 n3 c3], [.slice a4 n4 c4]]) hB5 (by kernel_rfl) (by kernel_rfl) ?_
   refine WP.dn (Shown.ok (v := AG [[.int .i64 x1], encA .u8 d3, [.int .i64 x2], [.slice a2 n2 c2], encA .u8 d4, [.int .i64 x3], encA .u8 d5, [.slice a3 n3 c3], [.slice a4 n4 c4]]) (by kernel_rfl) (Step.refl _ _) ?_)
   exact ⟨tv, tv, tv, tv, tv, tv, tv, tv, rfl, tv, tv, tv, tv, tv, tv, tv, tv⟩
  ·intro vs gq stq hl hf
   obtain ⟨v0, v1, v2, v3, v4, v5, v6, v7, rfl⟩ := len_k8 hl
   have hR2 := (show RdS (Kd.int .u8) gq 5 a2 n2 c2 l2 from hf _ (memI 1 rfl) (by kernel_rfl))
   have hR3 := (show RdS (Kd.int .u8) gq 5 a3 n3 c3 l3 from hf _ (memI 2 rfl) (by kernel_rfl))
   have hR4 := (show RdS (Kd.int .u8) gq 5 a4 n4 c4 l4 from hf _ (memI 3 rfl) (by kernel_rfl))
   have e0 := (show v0 = AG [[.int .i64 x1], encA .u8 d3, [.int .i64 x2], [.slice a2 n2 c2], encA .u8 d4, [.int .i64 x3], encA .u8 d5, [.slice a3 n3 c3], [.slice a4 n4 c4]] from hf _ (memI 8 rfl) (by kernel_rfl))
   subst e0
   have hcal22 := P.punish_Thing_own gq x1 d3 x2 l2 d4 x3 d5 l3 l4 a2 n2 c2 a3 n3 c3 a4 n4 c4 hR2 hR3 hR4 d25 x18 d26 l12 hk22
   refine WP.callC hcal22 (by kernel_rfl) ?_
   rintro _ g44 st44 ⟨a12, n12, c12, rfl, hR12⟩
   obtain rfl := hR12.len
   refine WP.dn (Shown.o (v := AG [encA .u8 d25, [.int .i64 x18], encA .u8 d26, [.slice a12 l12.length c12]]) st44.pure ?_)
   exact ⟨tv, tv, tv, tv, tv, tv, tv, tv, tv, ⟨a12, c12, rfl, hR12⟩, tv, tv, tv, tv, tv, tv, tv⟩
  ·intro vs gq stq hl hf
   obtain ⟨v0, v1, v2, v3, v4, v5, v6, v7, rfl⟩ := len_k8 hl
   have hB6 := (show Box gq (t + 4) b6 43 [[.int .i64 x4], encA .u8 d6, [.int .i64 x5], [.slice a5 n5 c5], encA .u8 d7, [.int .i64 x6], encA .u8 d8, [.slice a6 n6 c6], [.slice a7 n7 c7]] [1, 8, 1, 1, 8, 1, 8, 1, 1] from hf _ (memI 4 rfl) (by kernel_rfl))
   refine WP.loadB (v := AG [[.int .i64 x4], encA .u8 d6, [.int .i64 x5], [.slice a5 n5 c5], encA .u8 d7, [.int .i64 x6], encA .u8 d8, [.slice a6 n6 c6], [.slice a7 n7 c7]]) hB6 (by kernel_rfl) (by kernel_rfl) ?_
   refine WP.dn (Shown.ok (v := AG [[.int .i64 x4], encA .u8 d6, [.int .i64 x5], [.slice a5 n5 c5], encA .u8 d7, [.int .i64 x6], encA .u8 d8, [.slice a6 n6 c6], [.slice a7 n7 c7]]) (by kernel_rfl) (Step.refl _ _) ?_)
   exact ⟨tv, tv, tv, tv, tv, tv, tv, tv, tv, tv, rfl, tv, tv, tv, tv, tv, tv⟩
  ·intro vs gq stq hl hf
   obtain ⟨v0, v1, v2, v3, v4, v5, v6, v7, rfl⟩ := len_k8 hl
   have hR5 := (show RdS (Kd.int .u8) gq 5 a5 n5 c5 l5 from hf _ (memI 5 rfl) (by kernel_rfl))
   have hR6 := (show RdS (Kd.int .u8) gq 5 a6 n6 c6 l6 from hf _ (memI 6 rfl) (by kernel_rfl))
   have hR7 := (show RdS (Kd.int .u8) gq 5 a7 n7 c7 l7 from hf _ (memI 7 rfl) (by kernel_rfl))
   have e2 := (show v2 = AG [[.int .i64 x4], encA .u8 d6, [.int .i64 x5], [.slice a5 n5 c5], encA .u8 d7, [.int .i64 x6], encA .u8 d8, [.slice a6 n6 c6], [.slice a7 n7 c7]] from hf _ (memI 10 rfl) (by kernel_rfl))
   subst e2
   have hcal23 := P.punish_Thing_own gq x4 d6 x5 l5 d7 x6 d8 l6 l7 a5 n5 c5 a6 n6 c6 a7 n7 c7 hR5 hR6 hR7 d27 x19 d28 l13 hk23
   refine WP.callC hcal23 (by kernel_rfl) ?_
   rintro _ g45 st45 ⟨a13, n13, c13, rfl, hR13⟩
   obtain rfl := hR13.len
   refine WP.dn (Shown.o (v := AG [encA .u8 d27, [.int .i64 x19], encA .u8 d28, [.slice a13 l13.length c13]]) st45.pure ?_)
   exact ⟨tv, tv, tv, tv, tv, tv, tv, tv, tv, tv, tv, ⟨a13, c13, rfl, hR13⟩, tv, tv, tv, tv, tv⟩
  ·intro vs gq stq hl hf
   obtain ⟨v0, v1, v2, v3, v4, v5, v6, v7, rfl⟩ := len_k8 hl
   refine WP.alloc (T := 91) (t + 14) [encA .u8 (zA 8), [.int .i64 0], encA .u8 (zA 8), [.slice none 0 0]] [8, 1, 8, 1] (by kernel_rfl) (by simp [len_encA]) ?_
   intro g46 b16 st46 hB25
   refine WP.dn (Shown.o (v := .pointer (some ⟨b16, 0, none⟩)) st46.pure ?_)
   exact ⟨tv, tv, tv, tv, tv, tv, tv, tv, tv, tv, tv, tv, ⟨b16, rfl, hB25⟩, tv, tv, tv, tv⟩
  ·intro vs gq stq hl hf
   obtain ⟨v0, v1, v2, v3, v4, v5, v6, v7, rfl⟩ := len_k8 hl
   refine WP.alloc (T := 91) (t + 15) [encA .u8 (zA 8), [.int .i64 0], encA .u8 (zA 8), [.slice none 0 0]] [8, 1, 8, 1] (by kernel_rfl) (by simp [len_encA]) ?_
   intro g47 b17 st47 hB26
   refine WP.dn (Shown.o (v := .pointer (some ⟨b17, 0, none⟩)) st47.pure ?_)
   exact ⟨tv, tv, tv, tv, tv, tv, tv, tv, tv, tv, tv, tv, tv, ⟨b17, rfl, hB26⟩, tv, tv, tv⟩
  ·intro vs gq stq hl hf
   obtain ⟨v0, v1, v2, v3, v4, v5, v6, v7, rfl⟩ := len_k8 hl
   obtain ⟨a12, c12, e1, hR12⟩ := (show ∃ (a12 : Option Addr) (c12 : Nat), v1 = AG [encA .u8 d25, [.int .i64 x18], encA .u8 d26, [.slice a12 l12.length c12]] ∧ RdS (Kd.int .u8) gq 5 a12 l12.length c12 l12 from hf _ (memI 9 rfl) (by kernel_rfl))
   subst e1
   obtain ⟨b16, e4, hB25⟩ := (show ∃ (b16 : Nat), v4 = .pointer (some ⟨b16, 0, none⟩) ∧ Box gq (t + 14) b16 91 [encA .u8 (zA 8), [.int .i64 0], encA .u8 (zA 8), [.slice none 0 0]] [8, 1, 8, 1] from hf _ (memI 12 rfl) (by kernel_rfl))
   subst e4
   refine WP.storeB (ty := 91) (off := 0) (v := AG [encA .u8 d25, [.int .i64 x18], encA .u8 d26, [.slice a12 l12.length c12]]) hB25 [encA .u8 d25, [.int .i64 x18], encA .u8 d26, [.slice a12 l12.length c12]] [8, 1, 8, 1] (by kernel_rfl) (by kernel_rfl) (by simp [len_encA]) (by kernel_rfl) [encA .u8 d25, [.int .i64 x18], encA .u8 d26, [.slice a12 l12.length c12]] (by kernel_rfl) (.arr (.one rfl (.arr (.one rfl .nil)))) ?_
   intro g48 st48 hB27
   refine WP.dn (Shown.o (v := undef) st48 ?_)
   exact ⟨tv, tv, tv, tv, tv, tv, tv, tv, tv, tv, tv, tv, tv, tv, ⟨b16, a12, c12, rfl, rfl, hB27, (hR12.mono st48 (WL.no (by simp <;> omega)))⟩, tv, tv⟩
  ·intro vs gq stq hl hf
   obtain ⟨v0, v1, v2, v3, v4, v5, v6, v7, rfl⟩ := len_k8 hl
   obtain ⟨a13, c13, e3, hR13⟩ := (show ∃ (a13 : Option Addr) (c13 : Nat), v3 = AG [encA .u8 d27, [.int .i64 x19], encA .u8 d28, [.slice a13 l13.length c13]] ∧ RdS (Kd.int .u8) gq 5 a13 l13.length c13 l13 from hf _ (memI 11 rfl) (by kernel_rfl))
   subst e3
   obtain ⟨b17, e5, hB26⟩ := (show ∃ (b17 : Nat), v5 = .pointer (some ⟨b17, 0, none⟩) ∧ Box gq (t + 15) b17 91 [encA .u8 (zA 8), [.int .i64 0], encA .u8 (zA 8), [.slice none 0 0]] [8, 1, 8, 1] from hf _ (memI 13 rfl) (by kernel_rfl))
   subst e5
   refine WP.storeB (ty := 91) (off := 0) (v := AG [encA .u8 d27, [.int .i64 x19], encA .u8 d28, [.slice a13 l13.length c13]]) hB26 [encA .u8 d27, [.int .i64 x19], encA .u8 d28, [.slice a13 l13.length c13]] [8, 1, 8, 1] (by kernel_rfl) (by kernel_rfl) (by simp [len_encA]) (by kernel_rfl) [encA .u8 d27, [.int .i64 x19], encA .u8 d28, [.slice a13 l13.length c13]] (by kernel_rfl) (.arr (.one rfl (.arr (.one rfl .nil)))) ?_
   intro g49 st49 hB28
   refine WP.dn (Shown.o (v := undef) st49 ?_)
   exact ⟨tv, tv, tv, tv, tv, tv, tv, tv, tv, tv, tv, tv, tv, tv, tv, ⟨b17, a13, c13, rfl, rfl, hB28, (hR13.mono st49 (WL.no (by simp <;> omega)))⟩, tv⟩
 intro vs g50 st50 hl hf
 obtain ⟨v0, v1, v2, v3, v4, v5, v6, v7, rfl⟩ := len_k8 hl
 obtain ⟨b16, a12, c12, e4, e1, hB25, hR12⟩ := (show ∃ (b16 : Nat) (a12 : Option Addr) (c12 : Nat), v4 = .pointer (some ⟨b16, 0, none⟩) ∧ v1 = AG [encA .u8 d25, [.int .i64 x18], encA .u8 d26, [.slice a12 l12.length c12]] ∧ Box g50 (t + 14) b16 91 [encA .u8 d25, [.int .i64 x18], encA .u8 d26, [.slice a12 l12.length c12]] [8, 1, 8, 1] ∧ RdS (Kd.int .u8) g50 5 a12 l12.length c12 l12 from hf _ (memI 14 rfl) (by kernel_rfl))
 subst e4
 subst e1
 obtain ⟨b17, a13, c13, e5, e3, hB26, hR13⟩ := (show ∃ (b17 : Nat) (a13 : Option Addr) (c13 : Nat), v5 = .pointer (some ⟨b17, 0, none⟩) ∧ v3 = AG [encA .u8 d27, [.int .i64 x19], encA .u8 d28, [.slice a13 l13.length c13]] ∧ Box g50 (t + 15) b17 91 [encA .u8 d27, [.int .i64 x19], encA .u8 d28, [.slice a13 l13.length c13]] [8, 1, 8, 1] ∧ RdS (Kd.int .u8) g50 5 a13 l13.length c13 l13 from hf _ (memI 15 rfl) (by kernel_rfl))
 subst e5
 subst e3
 replace hB2 := hB2.mono st50 (WL.no2 (by omega) (by omega))
 replace hR1 := hR1.mono st50 (WL.no2 (by omega) (by omega))
 replace hB1 := hB1.mono st50 (WL.no2 (by omega) (by omega))
 replace hB3 := hB3.mono st50 (WL.no2 (by omega) (by omega))
 replace hB4 := hB4.mono st50 (WL.no2 (by omega) (by omega))
 replace hB5 := hB5.mono st50 (WL.no2 (by omega) (by omega))
 replace hR2 := hR2.mono st50 (WL.no2 (by omega) (by omega))
 replace hR3 := hR3.mono st50 (WL.no2 (by omega) (by omega))
 replace hR4 := hR4.mono st50 (WL.no2 (by omega) (by omega))
 replace hB6 := hB6.mono st50 (WL.no2 (by omega) (by omega))
 replace hR5 := hR5.mono st50 (WL.no2 (by omega) (by omega))
 replace hR6 := hR6.mono st50 (WL.no2 (by omega) (by omega))
 replace hR7 := hR7.mono st50 (WL.no2 (by omega) (by omega))
 replace tot := tot.trans (st50.up2 (.inr (by omega)) (.inr (by omega)))
 refine NX.then_n ?_
 refine CP.refr 95 [(0, .iface 57 (.pointer (some ⟨b1, 0, none⟩))), (6, .pointer (some ⟨b3, 0, none⟩)), (7, .pointer (some ⟨b4, 0, none⟩)), (8, .pointer (some ⟨b5, 0, none⟩)), (9, .pointer (some ⟨b6, 0, none⟩)), (14, .pointer (some ⟨b16, 0, none⟩)), (15, .pointer (some ⟨b17, 0, none⟩))] (by kernel_rfl) (by kernel_rfl) ?_
 clear ds
 intro ds
 refine CP.seq ?_
 refine CP.block ?_
 refine CP.seqR ?_
 refine WP.stl 1 ?_
 refine WP.loadB (v := .int .i64 x1) hB5 (by kernel_rfl) (by kernel_rfl) ?_
 refine WP.stl 1 ?_
 refine WP.loadB (v := .int .i64 x4) hB6 (by kernel_rfl) (by kernel_rfl) ?_
 refine WP.stl 2 ?_
 refine WP.dn ?_
 refine NX.then_n ?_
 refine CP.cond (b := (x1 != x4)) (by kernel_rfl) (fun h27 => ?_) (fun h27 => ?_)
 ·replace hs := of_if_t hs h27
  refine CP.seqR ?_
  refine WP.stl 1 ?_
  refine WP.dn ?_
  refine NX.then_n ?_
  refine CP.ret ?_
  refine NX.block_r ?_
  refine NX.then_r ?_
  replace hs := Option.some.inj hs
  obtain rfl := hs
  exact NX.fin (v := .int .i64 11) (Res.still (by kernel_rfl)) tot htL rfl
 replace hs := of_if_f hs h27
 refine CP.cut (fun tm g => ∃ (q11 : Bool), Fr 95 [(0, .iface 57 (.pointer (some ⟨b1, 0, none⟩))), (7, .pointer (some ⟨b4, 0, none⟩)), (8, .pointer (some ⟨b5, 0, none⟩)), (9, .pointer (some ⟨b6, 0, none⟩)), (14, .pointer (some ⟨b16, 0, none⟩)), (15, .pointer (some ⟨b17, 0, none⟩)), (40, .bool q11)] tm ∧ Step (fun l => NoM l ∨ t ≤ l) g0 g ∧ Box g m0 b1 121 [[.slice a1 n1 c1], [.map (some b2)]] [1, 1] ∧ RdS k_S_notary_entry g 126 a1 n1 c1 l1 ∧ MapB g m1 b2 kv_S_notary_entry (Value.int .i64) w1 ∧ Box g (t + 2) b4 37 [encA .u8 d2] [8] ∧ Box g (t + 3) b5 43 [[.int .i64 x1], encA .u8 d3, [.int .i64 x2], [.slice a2 n2 c2], encA .u8 d4, [.int .i64 x3], encA .u8 d5, [.slice a3 n3 c3], [.slice a4 n4 c4]] [1, 8, 1, 1, 8, 1, 8, 1, 1] ∧ RdS (Kd.int .u8) g 5 a2 n2 c2 l2 ∧ RdS (Kd.int .u8) g 5 a3 n3 c3 l3 ∧ RdS (Kd.int .u8) g 5 a4 n4 c4 l4 ∧ Box g (t + 4) b6 43 [[.int .i64 x4], encA .u8 d6, [.int .i64 x5], [.slice a5 n5 c5], encA .u8 d7, [.int .i64 x6], encA .u8 d8, [.slice a6 n6 c6], [.slice a7 n7 c7]] [1, 8, 1, 1, 8, 1, 8, 1, 1] ∧ RdS (Kd.int .u8) g 5 a5 n5 c5 l5 ∧ RdS (Kd.int .u8) g 5 a6 n6 c6 l6 ∧ RdS (Kd.int .u8) g 5 a7 n7 c7 l7 ∧ Box g (t + 14) b16 91 [encA .u8 d25, [.int .i64 x18], encA .u8 d26, [.slice a12 l12.length c12]] [8, 1, 8, 1] ∧ RdS (Kd.int .u8) g 5 a12 l12.length c12 l12 ∧ Box g (t + 15) b17 91 [encA .u8 d27, [.int .i64 x19], encA .u8 d28, [.slice a13 l13.length c13]] [8, 1, 8, 1] ∧ RdS (Kd.int .u8) g 5 a13 l13.length c13 l13 ∧ (F.punish_Twice.c1 l1 w1 d2 x1 d3 x2 l2 d4 x3 d5 l3 l4 x4 d6 x5 l5 d7 x6 d8 l6 l7 x18 d26 x19 d28 q11) = some o1) ?_ ?_
 ·refine CP.region ?_
  refine WP.stl 1 ?_
  refine WP.loadB (v := AG [encA .u8 d25]) hB25 (by kernel_rfl) (by kernel_rfl) ?_
  refine WP.loadB (v := AG [encA .u8 d1]) hB3 (by kernel_rfl) (by kernel_rfl) ?_
  refine WP.neV (by kernel_rfl) (by kernel_rfl) (EqV.arr (d := 9998) (t := 37) (e := 5) (m := 8) (k := .u8) (x := d25) (y := d1) (by kernel_rfl) (by kernel_rfl)) ?_
  refine WP.stl 1 ?_
  refine WP.guard 45 (b := (!(d25.1 == d1.1))) (by kernel_rfl) (fun h37 => ?_) (fun h37 => ?_)
  ·replace hs := of_if_t hs h37
   refine WP.stl 6 ?_
   refine WP.dn ?_
   refine NX.post ?_
   exact ⟨true, ⟨by kernel_rfl, by kernel_rfl⟩, tot, hB2, hR1, hB1, hB4, hB5, hR2, hR3, hR4, hB6, hR5, hR6, hR7, hB25, hR12, hB26, hR13, hs⟩
  replace hs := of_if_f hs h37
  refine WP.stl 1 ?_
  refine WP.loadB (v := AG [encA .u8 d27]) hB26 (by kernel_rfl) (by kernel_rfl) ?_
  refine WP.loadB (v := AG [encA .u8 d1]) hB3 (by kernel_rfl) (by kernel_rfl) ?_
  refine WP.neV (by kernel_rfl) (by kernel_rfl) (EqV.arr (d := 9998) (t := 37) (e := 5) (m := 8) (k := .u8) (x := d27) (y := d1) (by kernel_rfl) (by kernel_rfl)) ?_
  refine WP.stl 2 ?_
  refine WP.dn ?_
  refine NX.post ?_
  exact ⟨(!(d27.1 == d1.1)), ⟨by kernel_rfl, by kernel_rfl⟩, tot, hB2, hR1, hB1, hB4, hB5, hR2, hR3, hR4, hB6, hR5, hR6, hR7, hB25, hR12, hB26, hR13, hs⟩
 clear tot hs hB2 hR1 hB1 hB3 hB4 hB5 hR2 hR3 hR4 hB6 hR5 hR6 hR7 hB25 hR12 hB26 hR13
 rintro tm g ⟨q11, hF, tot, hB2, hR1, hB1, hB4, hB5, hR2, hR3, hR4, hB6, hR5, hR6, hR7, hB25, hR12, hB26, hR13, hs⟩
 clear ds
 obtain ⟨ds, rfl⟩ := hF.open
 clear hF
 unfold F.punish_Twice.c1 at hs
 refine CP.cond (b := q11) (by kernel_rfl) (fun h29 => ?_) (fun h29 => ?_)
 ·replace hs := of_if_t hs h29
  refine CP.seqR ?_
  refine WP.stl 1 ?_
  refine WP.dn ?_
  refine NX.then_n ?_
  refine CP.ret ?_
  refine NX.block_r ?_
  refine NX.then_r ?_
  replace hs := Option.some.inj hs
  obtain rfl := hs
  exact NX.fin (v := .int .i64 6) (Res.still (by kernel_rfl)) tot htL rfl
 replace hs := of_if_f hs h29
 refine CP.cut (fun tm g => ∃ (q12 : Bool), Fr 95 [(0, .iface 57 (.pointer (some ⟨b1, 0, none⟩))), (7, .pointer (some ⟨b4, 0, none⟩)), (8, .pointer (some ⟨b5, 0, none⟩)), (9, .pointer (some ⟨b6, 0, none⟩)), (51, .bool q12)] tm ∧ Step (fun l => NoM l ∨ t ≤ l) g0 g ∧ Box g m0 b1 121 [[.slice a1 n1 c1], [.map (some b2)]] [1, 1] ∧ RdS k_S_notary_entry g 126 a1 n1 c1 l1 ∧ MapB g m1 b2 kv_S_notary_entry (Value.int .i64) w1 ∧ Box g (t + 2) b4 37 [encA .u8 d2] [8] ∧ Box g (t + 3) b5 43 [[.int .i64 x1], encA .u8 d3, [.int .i64 x2], [.slice a2 n2 c2], encA .u8 d4, [.int .i64 x3], encA .u8 d5, [.slice a3 n3 c3], [.slice a4 n4 c4]] [1, 8, 1, 1, 8, 1, 8, 1, 1] ∧ RdS (Kd.int .u8) g 5 a2 n2 c2 l2 ∧ RdS (Kd.int .u8) g 5 a3 n3 c3 l3 ∧ RdS (Kd.int .u8) g 5 a4 n4 c4 l4 ∧ Box g (t + 4) b6 43 [[.int .i64 x4], encA .u8 d6, [.int .i64 x5], [.slice a5 n5 c5], encA .u8 d7, [.int .i64 x6], encA .u8 d8, [.slice a6 n6 c6], [.slice a7 n7 c7]] [1, 8, 1, 1, 8, 1, 8, 1, 1] ∧ RdS (Kd.int .u8) g 5 a5 n5 c5 l5 ∧ RdS (Kd.int .u8) g 5 a6 n6 c6 l6 ∧ RdS (Kd.int .u8) g 5 a7 n7 c7 l7 ∧ (F.punish_Twice.c2 l1 w1 d2 x1 d3 x2 l2 d4 x3 d5 l3 l4 x4 d6 x5 l5 d7 x6 d8 l6 l7 q12) = some o1) ?_ ?_
 ·refine CP.region ?_
  refine WP.stl 1 ?_
  refine WP.loadB (v := .int .i64 x18) hB25 (by kernel_rfl) (by kernel_rfl) ?_
  refine WP.stl 1 ?_
  refine WP.loadB (v := .int .i64 x19) hB26 (by kernel_rfl) (by kernel_rfl) ?_
  refine WP.stl 2 ?_
  refine WP.guard 57 (b := (x18 != x19)) (by kernel_rfl) (fun h36 => ?_) (fun h36 => ?_)
  ·replace hs := of_if_t hs h36
   refine WP.stl 7 ?_
   refine WP.dn ?_
   refine NX.post ?_
   exact ⟨true, ⟨by kernel_rfl, by kernel_rfl⟩, tot, hB2, hR1, hB1, hB4, hB5, hR2, hR3, hR4, hB6, hR5, hR6, hR7, hs⟩
  replace hs := of_if_f hs h36
  refine WP.stl 1 ?_
  refine WP.loadB (v := AG [encA .u8 d26]) hB25 (by kernel_rfl) (by kernel_rfl) ?_
  refine WP.stl 1 ?_
  refine WP.loadB (v := AG [encA .u8 d28]) hB26 (by kernel_rfl) (by kernel_rfl) ?_
  refine WP.neV (by kernel_rfl) (by kernel_rfl) (EqV.arr (d := 9998) (t := 37) (e := 5) (m := 8) (k := .u8) (x := d26) (y := d28) (by kernel_rfl) (by kernel_rfl)) ?_
  refine WP.stl 2 ?_
  refine WP.dn ?_
  refine NX.post ?_
  exact ⟨(!(d26.1 == d28.1)), ⟨by kernel_rfl, by kernel_rfl⟩, tot, hB2, hR1, hB1, hB4, hB5, hR2, hR3, hR4, hB6, hR5, hR6, hR7, hs⟩
 clear tot hs hB2 hR1 hB1 hB4 hB5 hR2 hR3 hR4 hB6 hR5 hR6 hR7 hB25 hR12 hB26 hR13
 rintro tm g ⟨q12, hF, tot, hB2, hR1, hB1, hB4, hB5, hR2, hR3, hR4, hB6, hR5, hR6, hR7, hs⟩
 clear ds
 obtain ⟨ds, rfl⟩ := hF.open
 clear hF
 unfold F.punish_Twice.c2 at hs
 refine CP.cond (b := q12) (by kernel_rfl) (fun h31 => ?_) (fun h31 => ?_)
 ·replace hs := of_if_t hs h31
  refine CP.seqR ?_
  refine WP.stl 1 ?_
  refine WP.dn ?_
  refine NX.then_n ?_
  refine CP.ret ?_
  refine NX.block_r ?_
  refine NX.then_r ?_
  replace hs := Option.some.inj hs
  obtain rfl := hs
  exact NX.fin (v := .int .i64 18) (Res.still (by kernel_rfl)) tot htL rfl
 replace hs := of_if_f hs h31
 refine CP.seq ?_
 replace hs := Option.bind_eq_some_iff.1 hs
 obtain ⟨d29, hk24, hs⟩ := hs
 replace hs := Option.bind_eq_some_iff.1 hs
 obtain ⟨d30, hk25, hs⟩ := hs
 refine CP.drawL (by kernel_rfl) [0, 1, 2, 3, 4] [[], [0], [], [0, 1, 2], [0, 1, 2, 3], [0, 1, 2, 3, 4]] [⟨none, [], [], fun l g => Box g (t + 3) b5 43 [[.int .i64 x1], encA .u8 d3, [.int .i64 x2], [.slice a2 n2 c2], encA .u8 d4, [.int .i64 x3], encA .u8 d5, [.slice a3 n3 c3], [.slice a4 n4 c4]] [1, 8, 1, 1, 8, 1, 8, 1, 1]⟩, ⟨none, [], [], fun l g => RdS (Kd.int .u8) g 5 a2 n2 c2 l2⟩, ⟨none, [], [], fun l g => RdS (Kd.int .u8) g 5 a3 n3 c3 l3⟩, ⟨none, [], [], fun l g => RdS (Kd.int .u8) g 5 a4 n4 c4 l4⟩, ⟨none, [], [], fun l g => Box g (t + 4) b6 43 [[.int .i64 x4], encA .u8 d6, [.int .i64 x5], [.slice a5 n5 c5], encA .u8 d7, [.int .i64 x6], encA .u8 d8, [.slice a6 n6 c6], [.slice a7 n7 c7]] [1, 8, 1, 1, 8, 1, 8, 1, 1]⟩, ⟨none, [], [], fun l g => RdS (Kd.int .u8) g 5 a5 n5 c5 l5⟩, ⟨none, [], [], fun l g => RdS (Kd.int .u8) g 5 a6 n6 c6 l6⟩, ⟨none, [], [], fun l g => RdS (Kd.int .u8) g 5 a7 n7 c7 l7⟩, ⟨some 0, [], [0], fun l g => l.getD 0 undef = AG [[.int .i64 x1], encA .u8 d3, [.int .i64 x2], [.slice a2 n2 c2], encA .u8 d4, [.int .i64 x3], encA .u8 d5, [.slice a3 n3 c3], [.slice a4 n4 c4]]⟩, ⟨some 1, [], [1], fun l g => l.getD 0 undef = AG [encA .u8 d29]⟩, ⟨some 2, [], [2], fun l g => l.getD 0 undef = AG [[.int .i64 x4], encA .u8 d6, [.int .i64 x5], [.slice a5 n5 c5], encA .u8 d7, [.int .i64 x6], encA .u8 d8, [.slice a6 n6 c6], [.slice a7 n7 c7]]⟩, ⟨some 3, [], [3], fun l g => l.getD 0 undef = AG [encA .u8 d30]⟩, ⟨some 4, [], [4], fun l g => l.getD 0 undef = .bool (d29.1 == d30.1)⟩] [[], [], [], [], []] [] [] [5] (by kernel_rfl) (by simp) (by simp) ⟨fun _ _ _ _ st h0 hl hj hB5 => (hB5.mono st (fun h => absurd (hl _ h) (by simp))), fun _ _ _ _ st h0 hl hj hR2 => (RdS.mono (e := 5) hR2 st h0), fun _ _ _ _ st h0 hl hj hR3 => (RdS.mono (e := 5) hR3 st h0), fun _ _ _ _ st h0 hl hj hR4 => (RdS.mono (e := 5) hR4 st h0), fun _ _ _ _ st h0 hl hj hB6 => (hB6.mono st (fun h => absurd (hl _ h) (by simp))), fun _ _ _ _ st h0 hl hj hR5 => (RdS.mono (e := 5) hR5 st h0), fun _ _ _ _ st h0 hl hj hR6 => (RdS.mono (e := 5) hR6 st h0), fun _ _ _ _ st h0 hl hj hR7 => (RdS.mono (e := 5) hR7 st h0), fun _ _ _ _ st h0 hl hj e0 => e0, fun _ _ _ _ st h0 hl hj e1 => e1, fun _ _ _ _ st h0 hl hj e2 => e2, fun _ _ _ _ st h0 hl hj e3 => e3, fun _ _ _ _ st h0 hl hj e4 => e4, tv⟩ ⟨hB5, hR2, hR3, hR4, hB6, hR5, hR6, hR7, tv, tv, tv, tv, tv, tv⟩ (by kernel_rfl) (fun vs => by kernel_rfl) ?_ ?_ ?_
 ·intro j hj
  have hq : j = 0 := by have h : j < 1 := hj; omega
  rcases hq with rfl
  ·intro vs gq stq hl hf
   obtain ⟨v0, v1, v2, v3, v4, rfl⟩ := len_k5 hl
   have e4 := (show v4 = .bool (d29.1 == d30.1) from hf _ (memI 12 rfl) (by kernel_rfl))
   subst e4
   show Option.isSome _ = true
   kernel_rfl
 ·intro j hj
  have hq : j = 0 ∨ j = 1 ∨ j = 2 ∨ j = 3 ∨ j = 4 := by have h : j < 5 := hj; omega
  rcases hq with rfl | rfl | rfl | rfl | rfl
  ·intro vs gq stq hl hf
   obtain ⟨v0, v1, v2, v3, v4, rfl⟩ := len_k5 hl
   have hB5 := (show Box gq (t + 3) b5 43 [[.int .i64 x1], encA .u8 d3, [.int .i64 x2], [.slice a2 n2 c2], encA .u8 d4, [.int .i64 x3], encA .u8 d5, [.slice a3 n3 c3], [.slice a4 n4 c4]] [1, 8, 1, 1, 8, 1, 8, 1, 1] from hf _ (memI 0 rfl) (by kernel_rfl))
   refine WP.loadB (v := AG [[.int .i64 x1], encA .u8 d3, [.int .i64 x2], [.slice a2 n2 c2], encA .u8 d4, [.int .i64 x3], encA .u8 d5, [.slice a3 n3 c3], [.slice a4 n4 c4]]) hB5 (by kernel_rfl) (by kernel_rfl) ?_
   refine WP.dn (Shown.ok (v := AG [[.int .i64 x1], encA .u8 d3, [.int .i64 x2], [.slice a2 n2 c2], encA .u8 d4, [.int .i64 x3], encA .u8 d5, [.slice a3 n3 c3], [.slice a4 n4 c4]]) (by kernel_rfl) (Step.refl _ _) ?_)
   exact ⟨tv, tv, tv, tv, tv, tv, tv, tv, rfl, tv, tv, tv, tv, tv⟩
  ·intro vs gq stq hl hf
   obtain ⟨v0, v1, v2, v3, v4, rfl⟩ := len_k5 hl
   have hR2 := (show RdS (Kd.int .u8) gq 5 a2 n2 c2 l2 from hf _ (memI 1 rfl) (by kernel_rfl))
   have hR3 := (show RdS (Kd.int .u8) gq 5 a3 n3 c3 l3 from hf _ (memI 2 rfl) (by kernel_rfl))
   have hR4 := (show RdS (Kd.int .u8) gq 5 a4 n4 c4 l4 from hf _ (memI 3 rfl) (by kernel_rfl))
   have e0 := (show v0 = AG [[.int .i64 x1], encA .u8 d3, [.int .i64 x2], [.slice a2 n2 c2], encA .u8 d4, [.int .i64 x3], encA .u8 d5, [.slice a3 n3 c3], [.slice a4 n4 c4]] from hf _ (memI 8 rfl) (by kernel_rfl))
   subst e0
   have hcal24 := P.punish_Thing_Digest gq x1 d3 x2 l2 d4 x3 d5 l3 l4 a2 n2 c2 a3 n3 c3 a4 n4 c4 hR2 hR3 hR4 d29 hk24
   refine WP.callC hcal24 (by kernel_rfl) ?_
   rintro _ g51 st51 rfl
   refine WP.dn (Shown.o (v := AG [encA .u8 d29]) st51.pure ?_)
   exact ⟨tv, tv, tv, tv, tv, tv, tv, tv, tv, rfl, tv, tv, tv, tv⟩
  ·intro vs gq stq hl hf
   obtain ⟨v0, v1, v2, v3, v4, rfl⟩ := len_k5 hl
   have hB6 := (show Box gq (t + 4) b6 43 [[.int .i64 x4], encA .u8 d6, [.int .i64 x5], [.slice a5 n5 c5], encA .u8 d7, [.int .i64 x6], encA .u8 d8, [.slice a6 n6 c6], [.slice a7 n7 c7]] [1, 8, 1, 1, 8, 1, 8, 1, 1] from hf _ (memI 4 rfl) (by kernel_rfl))
   refine WP.loadB (v := AG [[.int .i64 x4], encA .u8 d6, [.int .i64 x5], [.slice a5 n5 c5], encA .u8 d7, [.int .i64 x6], encA .u8 d8, [.slice a6 n6 c6], [.slice a7 n7 c7]]) hB6 (by kernel_rfl) (by kernel_rfl) ?_
   refine WP.dn (Shown.ok (v := AG [[.int .i64 x4], encA .u8 d6, [.int .i64 x5], [.slice a5 n5 c5], encA .u8 d7, [.int .i64 x6], encA .u8 d8, [.slice a6 n6 c6], [.slice a7 n7 c7]]) (by kernel_rfl) (Step.refl _ _) ?_)
   exact ⟨tv, tv, tv, tv, tv, tv, tv, tv, tv, tv, rfl, tv, tv, tv⟩
  ·intro vs gq stq hl hf
   obtain ⟨v0, v1, v2, v3, v4, rfl⟩ := len_k5 hl
   have hR5 := (show RdS (Kd.int .u8) gq 5 a5 n5 c5 l5 from hf _ (memI 5 rfl) (by kernel_rfl))
   have hR6 := (show RdS (Kd.int .u8) gq 5 a6 n6 c6 l6 from hf _ (memI 6 rfl) (by kernel_rfl))
   have hR7 := (show RdS (Kd.int .u8) gq 5 a7 n7 c7 l7 from hf _ (memI 7 rfl) (by kernel_rfl))
   have e2 := (show v2 = AG [[.int .i64 x4], encA .u8 d6, [.int .i64 x5], [.slice a5 n5 c5], encA .u8 d7, [.int .i64 x6], encA .u8 d8, [.slice a6 n6 c6], [.slice a7 n7 c7]] from hf _ (memI 10 rfl) (by kernel_rfl))
   subst e2
   have hcal25 := P.punish_Thing_Digest gq x4 d6 x5 l5 d7 x6 d8 l6 l7 a5 n5 c5 a6 n6 c6 a7 n7 c7 hR5 hR6 hR7 d30 hk25
   refine WP.callC hcal25 (by kernel_rfl) ?_
   rintro _ g52 st52 rfl
   refine WP.dn (Shown.o (v := AG [encA .u8 d30]) st52.pure ?_)
   exact ⟨tv, tv, tv, tv, tv, tv, tv, tv, tv, tv, tv, rfl, tv, tv⟩
  ·intro vs gq stq hl hf
   obtain ⟨v0, v1, v2, v3, v4, rfl⟩ := len_k5 hl
   have e1 := (show v1 = AG [encA .u8 d29] from hf _ (memI 9 rfl) (by kernel_rfl))
   subst e1
   have e3 := (show v3 = AG [encA .u8 d30] from hf _ (memI 11 rfl) (by kernel_rfl))
   subst e3
   refine WP.eqV (by kernel_rfl) (by kernel_rfl) (EqV.arr (d := 9998) (t := 37) (e := 5) (m := 8) (k := .u8) (x := d29) (y := d30) (by kernel_rfl) (by kernel_rfl)) ?_
   refine WP.dn (Shown.ok (v := .bool (d29.1 == d30.1)) (by kernel_rfl) (Step.refl _ _) ?_)
   exact ⟨tv, tv, tv, tv, tv, tv, tv, tv, tv, tv, tv, tv, rfl, tv⟩
 intro vs g53 st53 hl hf
 obtain ⟨v0, v1, v2, v3, v4, rfl⟩ := len_k5 hl
 have e4 := (show v4 = .bool (d29.1 == d30.1) from hf _ (memI 12 rfl) (by kernel_rfl))
 subst e4
 replace hB2 := hB2.mono st53.toNo (fun x => x)
 replace hR1 := hR1.mono st53.toNo (fun x => x)
 replace hB1 := hB1.mono st53.toNo (fun x => x)
 replace hB4 := hB4.mono st53.toNo (fun x => x)
 replace hB5 := hB5.mono st53.toNo (fun x => x)
 replace hR2 := hR2.mono st53.toNo (fun x => x)
 replace hR3 := hR3.mono st53.toNo (fun x => x)
 replace hR4 := hR4.mono st53.toNo (fun x => x)
 replace hB6 := hB6.mono st53.toNo (fun x => x)
 replace hR5 := hR5.mono st53.toNo (fun x => x)
 replace hR6 := hR6.mono st53.toNo (fun x => x)
 replace hR7 := hR7.mono st53.toNo (fun x => x)
 replace tot := tot.trans st53.toNo.pure
 refine NX.then_n ?_
 refine CP.refr 95 [(0, .iface 57 (.pointer (some ⟨b1, 0, none⟩))), (7, .pointer (some ⟨b4, 0, none⟩)), (8, .pointer (some ⟨b5, 0, none⟩)), (9, .pointer (some ⟨b6, 0, none⟩)), (64, .bool (d29.1 == d30.1))] (by kernel_rfl) (by kernel_rfl) ?_
 clear ds
 intro ds
 refine CP.cond (b := (d29.1 == d30.1)) (by kernel_rfl) (fun h32 => ?_) (fun h32 => ?_)
 ·replace hs := of_if_t hs h32
  refine CP.seqR ?_
  refine WP.stl 1 ?_
  refine WP.dn ?_
  refine NX.then_n ?_
  refine CP.ret ?_
  refine NX.block_r ?_
  refine NX.then_r ?_
  replace hs := Option.some.inj hs
  obtain rfl := hs
  exact NX.fin (v := .int .i64 7) (Res.still (by kernel_rfl)) tot htL rfl
 replace hs := of_if_f hs h32
 refine CP.cut (fun tm g => ∃ (q15 : Bool), Fr 95 [(70, .bool q15)] tm ∧ Step (fun l => NoM l ∨ t ≤ l) g0 g ∧ (F.punish_Twice.c3 q15) = some o1) ?_ ?_
 ·replace hs := Option.bind_eq_some_iff.1 hs
  obtain ⟨d33, hk30, hs⟩ := hs
  replace hs := Option.bind_eq_some_iff.1 hs
  obtain ⟨q16, hk31, hs⟩ := hs
  refine bool_split (b := (!q16)) (fun h35 => ?_) (fun h35 => ?_)
  ·replace hs := of_if_t hs h35
   refine CP.drawL (by kernel_rfl) [1, 2, 3, 5, 9, 11] N.punish_Twice_1 [⟨none, [], [], fun l g => Box g m0 b1 121 [[.slice a1 n1 c1], [.map (some b2)]] [1, 1]⟩, ⟨none, [], [], fun l g => RdS k_S_notary_entry g 126 a1 n1 c1 l1⟩, ⟨none, [], [], fun l g => MapB g m1 b2 kv_S_notary_entry (Value.int .i64) w1⟩, ⟨none, [], [], fun l g => Box g (t + 2) b4 37 [encA .u8 d2] [8]⟩, ⟨none, [], [], fun l g => Box g (t + 3) b5 43 [[.int .i64 x1], encA .u8 d3, [.int .i64 x2], [.slice a2 n2 c2], encA .u8 d4, [.int .i64 x3], encA .u8 d5, [.slice a3 n3 c3], [.slice a4 n4 c4]] [1, 8, 1, 1, 8, 1, 8, 1, 1]⟩, ⟨none, [], [], fun l g => RdS (Kd.int .u8) g 5 a2 n2 c2 l2⟩, ⟨none, [], [], fun l g => RdS (Kd.int .u8) g 5 a3 n3 c3 l3⟩, ⟨none, [], [], fun l g => RdS (Kd.int .u8) g 5 a4 n4 c4 l4⟩, ⟨some 0, [], [0], fun l g => l.getD 0 undef = AG [encA .u8 d2]⟩, ⟨some 1, [], [1], fun l g => l.getD 0 undef = AG [[.int .i64 x1], encA .u8 d3, [.int .i64 x2], [.slice a2 n2 c2], encA .u8 d4, [.int .i64 x3], encA .u8 d5, [.slice a3 n3 c3], [.slice a4 n4 c4]]⟩, ⟨some 2, [], [2], fun l g => l.getD 0 undef = AG [encA .u8 d33]⟩, ⟨some 3, [], [3], fun l g => l.getD 0 undef = .slice a4 n4 c4⟩, ⟨some 4, [], [4], fun l g => l.getD 0 undef = .bool q16⟩, ⟨some 5, [], [5], fun l g => l.getD 0 undef = .bool true⟩] [[], [], [], [], [], []] [] [0, 4, 6, 7, 8] [10, 12, 13, 14, 15, 16, 17, 18, 19, 20, 21, 22, 23, 24] (by kernel_rfl) (by simp) (by simp) ⟨fun _ _ _ _ st h0 hl hj hB2 => (hB2.mono st (fun h => absurd (hl _ h) (by simp))), fun _ _ _ _ st h0 hl hj hR1 => (RdS.mono (e := 126) hR1 st h0), fun _ _ _ _ st h0 hl hj hB1 => (hB1.mono st (fun h => absurd (hl _ h) (by simp))), fun _ _ _ _ st h0 hl hj hB4 => (hB4.mono st (fun h => absurd (hl _ h) (by simp))), fun _ _ _ _ st h0 hl hj hB5 => (hB5.mono st (fun h => absurd (hl _ h) (by simp))), fun _ _ _ _ st h0 hl hj hR2 => (RdS.mono (e := 5) hR2 st h0), fun _ _ _ _ st h0 hl hj hR3 => (RdS.mono (e := 5) hR3 st h0), fun _ _ _ _ st h0 hl hj hR4 => (RdS.mono (e := 5) hR4 st h0), fun _ _ _ _ st h0 hl hj e0 => e0, fun _ _ _ _ st h0 hl hj e1 => e1, fun _ _ _ _ st h0 hl hj e2 => e2, fun _ _ _ _ st h0 hl hj e3 => e3, fun _ _ _ _ st h0 hl hj e4 => e4, fun _ _ _ _ st h0 hl hj e5 => e5, tv⟩ ⟨hB2, hR1, hB1, hB4, hB5, hR2, hR3, hR4, tv, tv, tv, tv, tv, tv, tv⟩ (by kernel_rfl) (fun vs => by kernel_rfl) ?_ ?_ ?_
   ·intro j hj
    have hq : j = 0 ∨ j = 1 ∨ j = 2 ∨ j = 3 ∨ j = 4 ∨ j = 5 ∨ j = 6 ∨ j = 7 ∨ j = 8 ∨ j = 9 ∨ j = 10 ∨ j = 11 ∨ j = 12 ∨ j = 13 := by have h : j < 14 := hj; omega
    rcases hq with rfl | rfl | rfl | rfl | rfl | rfl | rfl | rfl | rfl | rfl | rfl | rfl | rfl | rfl
    ·intro vs gq stq hl hf
     obtain ⟨v0, v1, v2, v3, v4, v5, rfl⟩ := len_k6 hl
     have e4 := (show v4 = .bool q16 from hf _ (memI 12 rfl) (by kernel_rfl))
     subst e4
     show Option.isSome _ = true
     kernel_rfl
    ·intro vs gq stq hl hf
     obtain ⟨v0, v1, v2, v3, v4, v5, rfl⟩ := len_k6 hl
     have e5 := (show v5 = .bool true from hf _ (memI 13 rfl) (by kernel_rfl))
     subst e5
     show Option.isSome _ = true
     kernel_rfl
    ·intro vs gq stq hl hf
     obtain ⟨v0, v1, v2, v3, v4, v5, rfl⟩ := len_k6 hl
     have e5 := (show v5 = .bool true from hf _ (memI 13 rfl) (by kernel_rfl))
     subst e5
     show Option.isSome _ = true
     kernel_rfl
    ·intro vs gq stq hl hf
     obtain ⟨v0, v1, v2, v3, v4, v5, rfl⟩ := len_k6 hl
     have e5 := (show v5 = .bool true from hf _ (memI 13 rfl) (by kernel_rfl))
     subst e5
     show Option.isSome _ = true
     kernel_rfl
    ·intro vs gq stq hl hf
     obtain ⟨v0, v1, v2, v3, v4, v5, rfl⟩ := len_k6 hl
     have e5 := (show v5 = .bool true from hf _ (memI 13 rfl) (by kernel_rfl))
     subst e5
     show Option.isSome _ = true
     kernel_rfl
    ·intro vs gq stq hl hf
     obtain ⟨v0, v1, v2, v3, v4, v5, rfl⟩ := len_k6 hl
     have e5 := (show v5 = .bool true from hf _ (memI 13 rfl) (by kernel_rfl))
     subst e5
     show Option.isSome _ = true
     kernel_rfl
    ·intro vs gq stq hl hf
     obtain ⟨v0, v1, v2, v3, v4, v5, rfl⟩ := len_k6 hl
     have e5 := (show v5 = .bool true from hf _ (memI 13 rfl) (by kernel_rfl))
     subst e5
     show Option.isSome _ = true
     kernel_rfl
    ·intro vs gq stq hl hf
     obtain ⟨v0, v1, v2, v3, v4, v5, rfl⟩ := len_k6 hl
     have e5 := (show v5 = .bool true from hf _ (memI 13 rfl) (by kernel_rfl))
     subst e5
     show Option.isSome _ = true
     kernel_rfl
    ·intro vs gq stq hl hf
     obtain ⟨v0, v1, v2, v3, v4, v5, rfl⟩ := len_k6 hl
     have e5 := (show v5 = .bool true from hf _ (memI 13 rfl) (by kernel_rfl))
     subst e5
     show Option.isSome _ = true
     kernel_rfl
    ·intro vs gq stq hl hf
     obtain ⟨v0, v1, v2, v3, v4, v5, rfl⟩ := len_k6 hl
     have e5 := (show v5 = .bool true from hf _ (memI 13 rfl) (by kernel_rfl))
     subst e5
     show Option.isSome _ = true
     kernel_rfl
    ·intro vs gq stq hl hf
     obtain ⟨v0, v1, v2, v3, v4, v5, rfl⟩ := len_k6 hl
     have e5 := (show v5 = .bool true from hf _ (memI 13 rfl) (by kernel_rfl))
     subst e5
     show Option.isSome _ = true
     kernel_rfl
    ·intro vs gq stq hl hf
     obtain ⟨v0, v1, v2, v3, v4, v5, rfl⟩ := len_k6 hl
     have e5 := (show v5 = .bool true from hf _ (memI 13 rfl) (by kernel_rfl))
     subst e5
     show Option.isSome _ = true
     kernel_rfl
    ·intro vs gq stq hl hf
     obtain ⟨v0, v1, v2, v3, v4, v5, rfl⟩ := len_k6 hl
     have e5 := (show v5 = .bool true from hf _ (memI 13 rfl) (by kernel_rfl))
     subst e5
     show Option.isSome _ = true
     kernel_rfl
    ·intro vs gq stq hl hf
     obtain ⟨v0, v1, v2, v3, v4, v5, rfl⟩ := len_k6 hl
     have e5 := (show v5 = .bool true from hf _ (memI 13 rfl) (by kernel_rfl))
     subst e5
     show Option.isSome _ = true
     kernel_rfl
   ·intro j hj
    have hq : j = 0 ∨ j = 1 ∨ j = 2 ∨ j = 3 ∨ j = 4 ∨ j = 5 := by have h : j < 6 := hj; omega
    rcases hq with rfl | rfl | rfl | rfl | rfl | rfl
    ·intro vs gq stq hl hf
     obtain ⟨v0, v1, v2, v3, v4, v5, rfl⟩ := len_k6 hl
     have hB4 := (show Box gq (t + 2) b4 37 [encA .u8 d2] [8] from hf _ (memI 3 rfl) (by kernel_rfl))
     refine WP.loadB (v := AG [encA .u8 d2]) hB4 (by kernel_rfl) (by kernel_rfl) ?_
     refine WP.dn (Shown.ok (v := AG [encA .u8 d2]) (by kernel_rfl) (Step.refl _ _) ?_)
     exact ⟨tv, tv, tv, tv, tv, tv, tv, tv, rfl, tv, tv, tv, tv, tv, tv⟩
    ·intro vs gq stq hl hf
     obtain ⟨v0, v1, v2, v3, v4, v5, rfl⟩ := len_k6 hl
     have hB5 := (show Box gq (t + 3) b5 43 [[.int .i64 x1], encA .u8 d3, [.int .i64 x2], [.slice a2 n2 c2], encA .u8 d4, [.int .i64 x3], encA .u8 d5, [.slice a3 n3 c3], [.slice a4 n4 c4]] [1, 8, 1, 1, 8, 1, 8, 1, 1] from hf _ (memI 4 rfl) (by kernel_rfl))
     refine WP.loadB (v := AG [[.int .i64 x1], encA .u8 d3, [.int .i64 x2], [.slice a2 n2 c2], encA .u8 d4, [.int .i64 x3], encA .u8 d5, [.slice a3 n3 c3], [.slice a4 n4 c4]]) hB5 (by kernel_rfl) (by kernel_rfl) ?_
     refine WP.dn (Shown.ok (v := AG [[.int .i64 x1], encA .u8 d3, [.int .i64 x2], [.slice a2 n2 c2], encA .u8 d4, [.int .i64 x3], encA .u8 d5, [.slice a3 n3 c3], [.slice a4 n4 c4]]) (by kernel_rfl) (Step.refl _ _) ?_)
     exact ⟨tv, tv, tv, tv, tv, tv, tv, tv, tv, rfl, tv, tv, tv, tv, tv⟩
    ·intro vs gq stq hl hf
     obtain ⟨v0, v1, v2, v3, v4, v5, rfl⟩ := len_k6 hl
     have hR2 := (show RdS (Kd.int .u8) gq 5 a2 n2 c2 l2 from hf _ (memI 5 rfl) (by kernel_rfl))
     have hR3 := (show RdS (Kd.int .u8) gq 5 a3 n3 c3 l3 from hf _ (memI 6 rfl) (by kernel_rfl))
     have hR4 := (show RdS (Kd.int .u8) gq 5 a4 n4 c4 l4 from hf _ (memI 7 rfl) (by kernel_rfl))
     have e1 := (show v1 = AG [[.int .i64 x1], encA .u8 d3, [.int .i64 x2], [.slice a2 n2 c2], encA .u8 d4, [.int .i64 x3], encA .u8 d5, [.slice a3 n3 c3], [.slice a4 n4 c4]] from hf _ (memI 9 rfl) (by kernel_rfl))
     subst e1
     have hcal30 := P.punish_Thing_Digest gq x1 d3 x2 l2 d4 x3 d5 l3 l4 a2 n2 c2 a3 n3 c3 a4 n4 c4 hR2 hR3 hR4 d33 hk30
     refine WP.callC hcal30 (by kernel_rfl) ?_
     rintro _ g58 st58 rfl
     refine WP.dn (Shown.o (v := AG [encA .u8 d33]) st58.pure ?_)
     exact ⟨tv, tv, tv, tv, tv, tv, tv, tv, tv, tv, rfl, tv, tv, tv, tv⟩
    ·intro vs gq stq hl hf
     obtain ⟨v0, v1, v2, v3, v4, v5, rfl⟩ := len_k6 hl
     have hB5 := (show Box gq (t + 3) b5 43 [[.int .i64 x1], encA .u8 d3, [.int .i64 x2], [.slice a2 n2 c2], encA .u8 d4, [.int .i64 x3], encA .u8 d5, [.slice a3 n3 c3], [.slice a4 n4 c4]] [1, 8, 1, 1, 8, 1, 8, 1, 1] from hf _ (memI 4 rfl) (by kernel_rfl))
     refine WP.loadB (v := .slice a4 n4 c4) hB5 (by kernel_rfl) (by kernel_rfl) ?_
     refine WP.dn (Shown.ok (v := .slice a4 n4 c4) (by kernel_rfl) (Step.refl _ _) ?_)
     exact ⟨tv, tv, tv, tv, tv, tv, tv, tv, tv, tv, tv, rfl, tv, tv, tv⟩
    ·intro vs gq stq hl hf
     obtain ⟨v0, v1, v2, v3, v4, v5, rfl⟩ := len_k6 hl
     have hB2 := (show Box gq m0 b1 121 [[.slice a1 n1 c1], [.map (some b2)]] [1, 1] from hf _ (memI 0 rfl) (by kernel_rfl))
     have hR1 := (show RdS k_S_notary_entry gq 126 a1 n1 c1 l1 from hf _ (memI 1 rfl) (by kernel_rfl))
     have hB1 := (show MapB gq m1 b2 kv_S_notary_entry (Value.int .i64) w1 from hf _ (memI 2 rfl) (by kernel_rfl))
     have hR4 := (show RdS (Kd.int .u8) gq 5 a4 n4 c4 l4 from hf _ (memI 7 rfl) (by kernel_rfl))
     have e0 := (show v0 = AG [encA .u8 d2] from hf _ (memI 8 rfl) (by kernel_rfl))
     subst e0
     have e2 := (show v2 = AG [encA .u8 d33] from hf _ (memI 10 rfl) (by kernel_rfl))
     subst e2
     have e3 := (show v3 = .slice a4 n4 c4 from hf _ (memI 11 rfl) (by kernel_rfl))
     subst e3
     have hcal31 := P.notary_Book_Verify gq m0 m1 l1 w1 d2 d33 l4 a1 n1 c1 a4 n4 c4 b1 b2 hR1 hR4 hB1 hB2 (by omega) (by omega) (by omega) q16 hk31
     refine WP.callC hcal31 (by kernel_rfl) ?_
     rintro _ g59 st59 rfl
     refine WP.dn (Shown.o (v := .bool q16) st59.pure ?_)
     exact ⟨tv, tv, tv, tv, tv, tv, tv, tv, tv, tv, tv, tv, rfl, tv, tv⟩
    ·intro vs gq stq hl hf
     obtain ⟨v0, v1, v2, v3, v4, v5, rfl⟩ := len_k6 hl
     have e4 := (show v4 = .bool q16 from hf _ (memI 12 rfl) (by kernel_rfl))
     subst e4
     refine WP.stl 1 ?_
     refine WP.dn (Shown.ok (v := .bool (!q16)) (by kernel_rfl) (Step.refl _ _) ?_)
     exact ⟨tv, tv, tv, tv, tv, tv, tv, tv, tv, tv, tv, tv, tv, congrArg Value.bool h35, tv⟩
   intro vs g60 st60 hl hf
   obtain ⟨v0, v1, v2, v3, v4, v5, rfl⟩ := len_k6 hl
   have e5 := (show v5 = .bool true from hf _ (memI 13 rfl) (by kernel_rfl))
   subst e5
   replace tot := tot.trans st60.toNo.pure
   refine NX.post ?_
   exact ⟨true, ⟨by kernel_rfl, by kernel_rfl⟩, tot, hs⟩
  replace hs := of_if_f hs h35
  replace hs := Option.bind_eq_some_iff.1 hs
  obtain ⟨d34, hk32, hs⟩ := hs
  replace hs := Option.bind_eq_some_iff.1 hs
  obtain ⟨q17, hk33, hs⟩ := hs
  refine CP.drawL (by kernel_rfl) [1, 2, 3, 5, 9, 11, 13, 14, 15, 17, 21] N.punish_Twice_1 [⟨none, [], [], fun l g => Box g m0 b1 121 [[.slice a1 n1 c1], [.map (some b2)]] [1, 1]⟩, ⟨none, [], [], fun l g => RdS k_S_notary_entry g 126 a1 n1 c1 l1⟩, ⟨none, [], [], fun l g => MapB g m1 b2 kv_S_notary_entry (Value.int .i64) w1⟩, ⟨none, [], [], fun l g => Box g (t + 2) b4 37 [encA .u8 d2] [8]⟩, ⟨none, [], [], fun l g => Box g (t + 3) b5 43 [[.int .i64 x1], encA .u8 d3, [.int .i64 x2], [.slice a2 n2 c2], encA .u8 d4, [.int .i64 x3], encA .u8 d5, [.slice a3 n3 c3], [.slice a4 n4 c4]] [1, 8, 1, 1, 8, 1, 8, 1, 1]⟩, ⟨none, [], [], fun l g => RdS (Kd.int .u8) g 5 a2 n2 c2 l2⟩, ⟨none, [], [], fun l g => RdS (Kd.int .u8) g 5 a3 n3 c3 l3⟩, ⟨none, [], [], fun l g => RdS (Kd.int .u8) g 5 a4 n4 c4 l4⟩, ⟨none, [], [], fun l g => Box g (t + 4) b6 43 [[.int .i64 x4], encA .u8 d6, [.int .i64 x5], [.slice a5 n5 c5], encA .u8 d7, [.int .i64 x6], encA .u8 d8, [.slice a6 n6 c6], [.slice a7 n7 c7]] [1, 8, 1, 1, 8, 1, 8, 1, 1]⟩, ⟨none, [], [], fun l g => RdS (Kd.int .u8) g 5 a5 n5 c5 l5⟩, ⟨none, [], [], fun l g => RdS (Kd.int .u8) g 5 a6 n6 c6 l6⟩, ⟨none, [], [], fun l g => RdS (Kd.int .u8) g 5 a7 n7 c7 l7⟩, ⟨some 0, [], [0], fun l g => l.getD 0 undef = AG [encA .u8 d2]⟩, ⟨some 1, [], [1], fun l g => l.getD 0 undef = AG [[.int .i64 x1], encA .u8 d3, [.int .i64 x2], [.slice a2 n2 c2], encA .u8 d4, [.int .i64 x3], encA .u8 d5, [.slice a3 n3 c3], [.slice a4 n4 c4]]⟩, ⟨some 2, [], [2], fun l g => l.getD 0 undef = AG [encA .u8 d33]⟩, ⟨some 3, [], [3], fun l g => l.getD 0 undef = .slice a4 n4 c4⟩, ⟨some 4, [], [4], fun l g => l.getD 0 undef = .bool q16⟩, ⟨some 5, [], [5], fun l g => l.getD 0 undef = .bool false⟩, ⟨some 6, [], [6], fun l g => l.getD 0 undef = AG [encA .u8 d2]⟩, ⟨some 7, [], [7], fun l g => l.getD 0 undef = AG [[.int .i64 x4], encA .u8 d6, [.int .i64 x5], [.slice a5 n5 c5], encA .u8 d7, [.int .i64 x6], encA .u8 d8, [.slice a6 n6 c6], [.slice a7 n7 c7]]⟩, ⟨some 8, [], [8], fun l g => l.getD 0 undef = AG [encA .u8 d34]⟩, ⟨some 9, [], [9], fun l g => l.getD 0 undef = .slice a7 n7 c7⟩, ⟨some 10, [], [10], fun l g => l.getD 0 undef = .bool q17⟩] [[], [], [], [], [], [], [], [], [], [], []] [] [0, 4, 6, 7, 8] [10, 12, 16, 18, 19, 20, 22, 23, 24] (by kernel_rfl) (by simp) (by simp) ⟨fun _ _ _ _ st h0 hl hj hB2 => (hB2.mono st (fun h => absurd (hl _ h) (by simp))), fun _ _ _ _ st h0 hl hj hR1 => (RdS.mono (e := 126) hR1 st h0), fun _ _ _ _ st h0 hl hj hB1 => (hB1.mono st (fun h => absurd (hl _ h) (by simp))), fun _ _ _ _ st h0 hl hj hB4 => (hB4.mono st (fun h => absurd (hl _ h) (by simp))), fun _ _ _ _ st h0 hl hj hB5 => (hB5.mono st (fun h => absurd (hl _ h) (by simp))), fun _ _ _ _ st h0 hl hj hR2 => (RdS.mono (e := 5) hR2 st h0), fun _ _ _ _ st h0 hl hj hR3 => (RdS.mono (e := 5) hR3 st h0), fun _ _ _ _ st h0 hl hj hR4 => (RdS.mono (e := 5) hR4 st h0), fun _ _ _ _ st h0 hl hj hB6 => (hB6.mono st (fun h => absurd (hl _ h) (by simp))), fun _ _ _ _ st h0 hl hj hR5 => (RdS.mono (e := 5) hR5 st h0), fun _ _ _ _ st h0 hl hj hR6 => (RdS.mono (e := 5) hR6 st h0), fun _ _ _ _ st h0 hl hj hR7 => (RdS.mono (e := 5) hR7 st h0), fun _ _ _ _ st h0 hl hj e0 => e0, fun _ _ _ _ st h0 hl hj e1 => e1, fun _ _ _ _ st h0 hl hj e2 => e2, fun _ _ _ _ st h0 hl hj e3 => e3, fun _ _ _ _ st h0 hl hj e4 => e4, fun _ _ _ _ st h0 hl hj e5 => e5, fun _ _ _ _ st h0 hl hj e6 => e6, fun _ _ _ _ st h0 hl hj e7 => e7, fun _ _ _ _ st h0 hl hj e8 => e8, fun _ _ _ _ st h0 hl hj e9 => e9, fun _ _ _ _ st h0 hl hj e10 => e10, tv⟩ ⟨hB2, hR1, hB1, hB4, hB5, hR2, hR3, hR4, hB6, hR5, hR6, hR7, tv, tv, tv, tv, tv, tv, tv, tv, tv, tv, tv, tv⟩ (by kernel_rfl) (fun vs => by kernel_rfl) ?_ ?_ ?_
  ·intro j hj
   have hq : j = 0 ∨ j = 1 ∨ j = 2 ∨ j = 3 ∨ j = 4 ∨ j = 5 ∨ j = 6 ∨ j = 7 ∨ j = 8 := by have h : j < 9 := hj; omega
   rcases hq with rfl | rfl | rfl | rfl | rfl | rfl | rfl | rfl | rfl
   ·intro vs gq stq hl hf
    obtain ⟨v0, v1, v2, v3, v4, v5, v6, v7, v8, v9, v10, rfl⟩ := len_k11 hl
    have e4 := (show v4 = .bool q16 from hf _ (memI 16 rfl) (by kernel_rfl))
    subst e4
    show Option.isSome _ = true
    kernel_rfl
   ·intro vs gq stq hl hf
    obtain ⟨v0, v1, v2, v3, v4, v5, v6, v7, v8, v9, v10, rfl⟩ := len_k11 hl
    have e5 := (show v5 = .bool false from hf _ (memI 17 rfl) (by kernel_rfl))
    subst e5
    show Option.isSome _ = true
    kernel_rfl
   ·intro vs gq stq hl hf
    obtain ⟨v0, v1, v2, v3, v4, v5, v6, v7, v8, v9, v10, rfl⟩ := len_k11 hl
    have e5 := (show v5 = .bool false from hf _ (memI 17 rfl) (by kernel_rfl))
    subst e5
    show Option.isSome _ = true
    kernel_rfl
   ·intro vs gq stq hl hf
    obtain ⟨v0, v1, v2, v3, v4, v5, v6, v7, v8, v9, v10, rfl⟩ := len_k11 hl
    have e5 := (show v5 = .bool false from hf _ (memI 17 rfl) (by kernel_rfl))
    subst e5
    show Option.isSome _ = true
    kernel_rfl
   ·intro vs gq stq hl hf
    obtain ⟨v0, v1, v2, v3, v4, v5, v6, v7, v8, v9, v10, rfl⟩ := len_k11 hl
    have e5 := (show v5 = .bool false from hf _ (memI 17 rfl) (by kernel_rfl))
    subst e5
    show Option.isSome _ = true
    kernel_rfl
   ·intro vs gq stq hl hf
    obtain ⟨v0, v1, v2, v3, v4, v5, v6, v7, v8, v9, v10, rfl⟩ := len_k11 hl
    have e5 := (show v5 = .bool false from hf _ (memI 17 rfl) (by kernel_rfl))
    subst e5
    show Option.isSome _ = true
    kernel_rfl
   ·intro vs gq stq hl hf
    obtain ⟨v0, v1, v2, v3, v4, v5, v6, v7, v8, v9, v10, rfl⟩ := len_k11 hl
    have e5 := (show v5 = .bool false from hf _ (memI 17 rfl) (by kernel_rfl))
    subst e5
    have e10 := (show v10 = .bool q17 from hf _ (memI 22 rfl) (by kernel_rfl))
    subst e10
    show Option.isSome _ = true
    kernel_rfl
   ·intro vs gq stq hl hf
    obtain ⟨v0, v1, v2, v3, v4, v5, v6, v7, v8, v9, v10, rfl⟩ := len_k11 hl
    have e5 := (show v5 = .bool false from hf _ (memI 17 rfl) (by kernel_rfl))
    subst e5
    have e10 := (show v10 = .bool q17 from hf _ (memI 22 rfl) (by kernel_rfl))
    subst e10
    show Option.isSome _ = true
    kernel_rfl
   ·intro vs gq stq hl hf
    obtain ⟨v0, v1, v2, v3, v4, v5, v6, v7, v8, v9, v10, rfl⟩ := len_k11 hl
    have e5 := (show v5 = .bool false from hf _ (memI 17 rfl) (by kernel_rfl))
    subst e5
    have e10 := (show v10 = .bool q17 from hf _ (memI 22 rfl) (by kernel_rfl))
    subst e10
    show Option.isSome _ = true
    kernel_rfl
  ·intro j hj
   have hq : j = 0 ∨ j = 1 ∨ j = 2 ∨ j = 3 ∨ j = 4 ∨ j = 5 ∨ j = 6 ∨ j = 7 ∨ j = 8 ∨ j = 9 ∨ j = 10 := by have h : j < 11 := hj; omega
   rcases hq with rfl | rfl | rfl | rfl | rfl | rfl | rfl | rfl | rfl | rfl | rfl
   ·intro vs gq stq hl hf
    obtain ⟨v0, v1, v2, v3, v4, v5, v6, v7, v8, v9, v10, rfl⟩ := len_k11 hl
    have hB4 := (show Box gq (t + 2) b4 37 [encA .u8 d2] [8] from hf _ (memI 3 rfl) (by kernel_rfl))
    refine WP.loadB (v := AG [encA .u8 d2]) hB4 (by kernel_rfl) (by kernel_rfl) ?_
    refine WP.dn (Shown.ok (v := AG [encA .u8 d2]) (by kernel_rfl) (Step.refl _ _) ?_)
    exact ⟨tv, tv, tv, tv, tv, tv, tv, tv, tv, tv, tv, tv, rfl, tv, tv, tv, tv, tv, tv, tv, tv, tv, tv, tv⟩
   ·intro vs gq stq hl hf
    obtain ⟨v0, v1, v2, v3, v4, v5, v6, v7, v8, v9, v10, rfl⟩ := len_k11 hl
    have hB5 := (show Box gq (t + 3) b5 43 [[.int .i64 x1], encA .u8 d3, [.int .i64 x2], [.slice a2 n2 c2], encA .u8 d4, [.int .i64 x3], encA .u8 d5, [.slice a3 n3 c3], [.slice a4 n4 c4]] [1, 8, 1, 1, 8, 1, 8, 1, 1] from hf _ (memI 4 rfl) (by kernel_rfl))
    refine WP.loadB (v := AG [[.int .i64 x1], encA .u8 d3, [.int .i64 x2], [.slice a2 n2 c2], encA .u8 d4, [.int .i64 x3], encA .u8 d5, [.slice a3 n3 c3], [.slice a4 n4 c4]]) hB5 (by kernel_rfl) (by kernel_rfl) ?_
    refine WP.dn (Shown.ok (v := AG [[.int .i64 x1], encA .u8 d3, [.int .i64 x2], [.slice a2 n2 c2], encA .u8 d4, [.int .i64 x3], encA .u8 d5, [.slice a3 n3 c3], [.slice a4 n4 c4]]) (by kernel_rfl) (Step.refl _ _) ?_)
    exact ⟨tv, tv, tv, tv, tv, tv, tv, tv, tv, tv, tv, tv, tv, rfl, tv, tv, tv, tv, tv, tv, tv, tv, tv, tv⟩
   ·intro vs gq stq hl hf
    obtain ⟨v0, v1, v2, v3, v4, v5, v6, v7, v8, v9, v10, rfl⟩ := len_k11 hl
    have hR2 := (show RdS (Kd.int .u8) gq 5 a2 n2 c2 l2 from hf _ (memI 5 rfl) (by kernel_rfl))
    have hR3 := (show RdS (Kd.int .u8) gq 5 a3 n3 c3 l3 from hf _ (memI 6 rfl) (by kernel_rfl))
    have hR4 := (show RdS (Kd.int .u8) gq 5 a4 n4 c4 l4 from hf _ (memI 7 rfl) (by kernel_rfl))
    have e1 := (show v1 = AG [[.int .i64 x1], encA .u8 d3, [.int .i64 x2], [.slice a2 n2 c2], encA .u8 d4, [.int .i64 x3], encA .u8 d5, [.slice a3 n3 c3], [.slice a4 n4 c4]] from hf _ (memI 13 rfl) (by kernel_rfl))
    subst e1
    have hcal30 := P.punish_Thing_Digest gq x1 d3 x2 l2 d4 x3 d5 l3 l4 a2 n2 c2 a3 n3 c3 a4 n4 c4 hR2 hR3 hR4 d33 hk30
    refine WP.callC hcal30 (by kernel_rfl) ?_
    rintro _ g58 st58 rfl
    refine WP.dn (Shown.o (v := AG [encA .u8 d33]) st58.pure ?_)
    exact ⟨tv, tv, tv, tv, tv, tv, tv, tv, tv, tv, tv, tv, tv, tv, rfl, tv, tv, tv, tv, tv, tv, tv, tv, tv⟩
   ·intro vs gq stq hl hf
    obtain ⟨v0, v1, v2, v3, v4, v5, v6, v7, v8, v9, v10, rfl⟩ := len_k11 hl
    have hB5 := (show Box gq (t + 3) b5 43 [[.int .i64 x1], encA .u8 d3, [.int .i64 x2], [.slice a2 n2 c2], encA .u8 d4, [.int .i64 x3], encA .u8 d5, [.slice a3 n3 c3], [.slice a4 n4 c4]] [1, 8, 1, 1, 8, 1, 8, 1, 1] from hf _ (memI 4 rfl) (by kernel_rfl))
    refine WP.loadB (v := .slice a4 n4 c4) hB5 (by kernel_rfl) (by kernel_rfl) ?_
    refine WP.dn (Shown.ok (v := .slice a4 n4 c4) (by kernel_rfl) (Step.refl _ _) ?_)
    exact ⟨tv, tv, tv, tv, tv, tv, tv, tv, tv, tv, tv, tv, tv, tv, tv, rfl, tv, tv, tv, tv, tv, tv, tv, tv⟩
   ·intro vs gq stq hl hf
    obtain ⟨v0, v1, v2, v3, v4, v5, v6, v7, v8, v9, v10, rfl⟩ := len_k11 hl
    have hB2 := (show Box gq m0 b1 121 [[.slice a1 n1 c1], [.map (some b2)]] [1, 1] from hf _ (memI 0 rfl) (by kernel_rfl))
    have hR1 := (show RdS k_S_notary_entry gq 126 a1 n1 c1 l1 from hf _ (memI 1 rfl) (by kernel_rfl))
    have hB1 := (show MapB gq m1 b2 kv_S_notary_entry (Value.int .i64) w1 from hf _ (memI 2 rfl) (by kernel_rfl))
    have hR4 := (show RdS (Kd.int .u8) gq 5 a4 n4 c4 l4 from hf _ (memI 7 rfl) (by kernel_rfl))
    have e0 := (show v0 = AG [encA .u8 d2] from hf _ (memI 12 rfl) (by kernel_rfl))
    subst e0
    have e2 := (show v2 = AG [encA .u8 d33] from hf _ (memI 14 rfl) (by kernel_rfl))
    subst e2
    have e3 := (show v3 = .slice a4 n4 c4 from hf _ (memI 15 rfl) (by kernel_rfl))
    subst e3
    have hcal31 := P.notary_Book_Verify gq m0 m1 l1 w1 d2 d33 l4 a1 n1 c1 a4 n4 c4 b1 b2 hR1 hR4 hB1 hB2 (by omega) (by omega) (by omega) q16 hk31
    refine WP.callC hcal31 (by kernel_rfl) ?_
    rintro _ g59 st59 rfl
    refine WP.dn (Shown.o (v := .bool q16) st59.pure ?_)
    exact ⟨tv, tv, tv, tv, tv, tv, tv, tv, tv, tv, tv, tv, tv, tv, tv, tv, rfl, tv, tv, tv, tv, tv, tv, tv⟩
   ·intro vs gq stq hl hf
    obtain ⟨v0, v1, v2, v3, v4, v5, v6, v7, v8, v9, v10, rfl⟩ := len_k11 hl
    have e4 := (show v4 = .bool q16 from hf _ (memI 16 rfl) (by kernel_rfl))
    subst e4
    refine WP.stl 1 ?_
    refine WP.dn (Shown.ok (v := .bool (!q16)) (by kernel_rfl) (Step.refl _ _) ?_)
    exact ⟨tv, tv, tv, tv, tv, tv, tv, tv, tv, tv, tv, tv, tv, tv, tv, tv, tv, congrArg Value.bool h35, tv, tv, tv, tv, tv, tv⟩
   ·intro vs gq stq hl hf
    obtain ⟨v0, v1, v2, v3, v4, v5, v6, v7, v8, v9, v10, rfl⟩ := len_k11 hl
    have hB4 := (show Box gq (t + 2) b4 37 [encA .u8 d2] [8] from hf _ (memI 3 rfl) (by kernel_rfl))
    have e5 := (show v5 = .bool false from hf _ (memI 17 rfl) (by kernel_rfl))
    subst e5
    refine WP.loadB (v := AG [encA .u8 d2]) hB4 (by kernel_rfl) (by kernel_rfl) ?_
    refine WP.dn (Shown.ok (v := AG [encA .u8 d2]) (by kernel_rfl) (Step.refl _ _) ?_)
    exact ⟨tv, tv, tv, tv, tv, tv, tv, tv, tv, tv, tv, tv, tv, tv, tv, tv, tv, tv, rfl, tv, tv, tv, tv, tv⟩
   ·intro vs gq stq hl hf
    obtain ⟨v0, v1, v2, v3, v4, v5, v6, v7, v8, v9, v10, rfl⟩ := len_k11 hl
    have hB6 := (show Box gq (t + 4) b6 43 [[.int .i64 x4], encA .u8 d6, [.int .i64 x5], [.slice a5 n5 c5], encA .u8 d7, [.int .i64 x6], encA .u8 d8, [.slice a6 n6 c6], [.slice a7 n7 c7]] [1, 8, 1, 1, 8, 1, 8, 1, 1] from hf _ (memI 8 rfl) (by kernel_rfl))
    have e5 := (show v5 = .bool false from hf _ (memI 17 rfl) (by kernel_rfl))
    subst e5
    refine WP.loadB (v := AG [[.int .i64 x4], encA .u8 d6, [.int .i64 x5], [.slice a5 n5 c5], encA .u8 d7, [.int .i64 x6], encA .u8 d8, [.slice a6 n6 c6], [.slice a7 n7 c7]]) hB6 (by kernel_rfl) (by kernel_rfl) ?_
    refine WP.dn (Shown.ok (v := AG [[.int .i64 x4], encA .u8 d6, [.int .i64 x5], [.slice a5 n5 c5], encA .u8 d7, [.int .i64 x6], encA .u8 d8, [.slice a6 n6 c6], [.slice a7 n7 c7]]) (by kernel_rfl) (Step.refl _ _) ?_)
    exact ⟨tv, tv, tv, tv, tv, tv, tv, tv, tv, tv, tv, tv, tv, tv, tv, tv, tv, tv, tv, rfl, tv, tv, tv, tv⟩
   ·intro vs gq stq hl hf
    obtain ⟨v0, v1, v2, v3, v4, v5, v6, v7, v8, v9, v10, rfl⟩ := len_k11 hl
    have hR5 := (show RdS (Kd.int .u8) gq 5 a5 n5 c5 l5 from hf _ (memI 9 rfl) (by kernel_rfl))
    have hR6 := (show RdS (Kd.int .u8) gq 5 a6 n6 c6 l6 from hf _ (memI 10 rfl) (by kernel_rfl))
    have hR7 := (show RdS (Kd.int .u8) gq 5 a7 n7 c7 l7 from hf _ (memI 11 rfl) (by kernel_rfl))
    have e5 := (show v5 = .bool false from hf _ (memI 17 rfl) (by kernel_rfl))
    subst e5
    have e7 := (show v7 = AG [[.int .i64 x4], encA .u8 d6, [.int .i64 x5], [.slice a5 n5 c5], encA .u8 d7, [.int .i64 x6], encA .u8 d8, [.slice a6 n6 c6], [.slice a7 n7 c7]] from hf _ (memI 19 rfl) (by kernel_rfl))
    subst e7
    have hcal32 := P.punish_Thing_Digest gq x4 d6 x5 l5 d7 x6 d8 l6 l7 a5 n5 c5 a6 n6 c6 a7 n7 c7 hR5 hR6 hR7 d34 hk32
    refine WP.callC hcal32 (by kernel_rfl) ?_
    rintro _ g61 st61 rfl
    refine WP.dn (Shown.o (v := AG [encA .u8 d34]) st61.pure ?_)
    exact ⟨tv, tv, tv, tv, tv, tv, tv, tv, tv, tv, tv, tv, tv, tv, tv, tv, tv, tv, tv, tv, rfl, tv, tv, tv⟩
   ·intro vs gq stq hl hf
    obtain ⟨v0, v1, v2, v3, v4, v5, v6, v7, v8, v9, v10, rfl⟩ := len_k11 hl
    have hB6 := (show Box gq (t + 4) b6 43 [[.int .i64 x4], encA .u8 d6, [.int .i64 x5], [.slice a5 n5 c5], encA .u8 d7, [.int .i64 x6], encA .u8 d8, [.slice a6 n6 c6], [.slice a7 n7 c7]] [1, 8, 1, 1, 8, 1, 8, 1, 1] from hf _ (memI 8 rfl) (by kernel_rfl))
    have e5 := (show v5 = .bool false from hf _ (memI 17 rfl) (by kernel_rfl))
    subst e5
    refine WP.loadB (v := .slice a7 n7 c7) hB6 (by kernel_rfl) (by kernel_rfl) ?_
    refine WP.dn (Shown.ok (v := .slice a7 n7 c7) (by kernel_rfl) (Step.refl _ _) ?_)
    exact ⟨tv, tv, tv, tv, tv, tv, tv, tv, tv, tv, tv, tv, tv, tv, tv, tv, tv, tv, tv, tv, tv, rfl, tv, tv⟩
   ·intro vs gq stq hl hf
    obtain ⟨v0, v1, v2, v3, v4, v5, v6, v7, v8, v9, v10, rfl⟩ := len_k11 hl
    have hB2 := (show Box gq m0 b1 121 [[.slice a1 n1 c1], [.map (some b2)]] [1, 1] from hf _ (memI 0 rfl) (by kernel_rfl))
    have hR1 := (show RdS k_S_notary_entry gq 126 a1 n1 c1 l1 from hf _ (memI 1 rfl) (by kernel_rfl))
    have hB1 := (show MapB gq m1 b2 kv_S_notary_entry (Value.int .i64) w1 from hf _ (memI 2 rfl) (by kernel_rfl))
    have hR7 := (show RdS (Kd.int .u8) gq 5 a7 n7 c7 l7 from hf _ (memI 11 rfl) (by kernel_rfl))
    have e5 := (show v5 = .bool false from hf _ (memI 17 rfl) (by kernel_rfl))
    subst e5
    have e6 := (show v6 = AG [encA .u8 d2] from hf _ (memI 18 rfl) (by kernel_rfl))
    subst e6
    have e8 := (show v8 = AG [encA .u8 d34] from hf _ (memI 20 rfl) (by kernel_rfl))
    subst e8
    have e9 := (show v9 = .slice a7 n7 c7 from hf _ (memI 21 rfl) (by kernel_rfl))
    subst e9
    have hcal33 := P.notary_Book_Verify gq m0 m1 l1 w1 d2 d34 l7 a1 n1 c1 a7 n7 c7 b1 b2 hR1 hR7 hB1 hB2 (by omega) (by omega) (by omega) q17 hk33
    refine WP.callC hcal33 (by kernel_rfl) ?_
    rintro _ g62 st62 rfl
    refine WP.dn (Shown.o (v := .bool q17) st62.pure ?_)
    exact ⟨tv, tv, tv, tv, tv, tv, tv, tv, tv, tv, tv, tv, tv, tv, tv, tv, tv, tv, tv, tv, tv, tv, rfl, tv⟩
  intro vs g63 st63 hl hf
  obtain ⟨v0, v1, v2, v3, v4, v5, v6, v7, v8, v9, v10, rfl⟩ := len_k11 hl
  have e5 := (show v5 = .bool false from hf _ (memI 17 rfl) (by kernel_rfl))
  subst e5
  have e10 := (show v10 = .bool q17 from hf _ (memI 22 rfl) (by kernel_rfl))
  subst e10
  replace tot := tot.trans st63.toNo.pure
  refine NX.post ?_
  exact ⟨(!q17), ⟨by kernel_rfl, by kernel_rfl⟩, tot, hs⟩
 clear tot hs hB2 hR1 hB1 hB4 hB5 hR2 hR3 hR4 hB6 hR5 hR6 hR7
 rintro tm g ⟨q15, hF, tot, hs⟩
 clear ds
 obtain ⟨ds, rfl⟩ := hF.open
 clear hF
 unfold F.punish_Twice.c3 at hs
 refine CP.cond (b := q15) (by kernel_rfl) (fun h34 => ?_) (fun h34 => ?_)
 ·replace hs := of_if_t hs h34
  refine CP.seqR ?_
  refine WP.stl 1 ?_
  refine WP.dn ?_
  refine NX.then_n ?_
  refine CP.ret ?_
  refine NX.block_r ?_
  refine NX.then_r ?_
  replace hs := Option.some.inj hs
  obtain rfl := hs
  exact NX.fin (v := .int .i64 16) (Res.still (by kernel_rfl)) tot htL rfl
 replace hs := of_if_f hs h34
 refine CP.skip ?_
 refine NX.block_n ?_
 refine NX.then_n ?_
 refine CP.seqR ?_
 refine WP.stl 1 ?_
 refine WP.dn ?_
 refine NX.then_n ?_
 refine CP.ret ?_
 replace hs := Option.some.inj hs
 obtain rfl := hs
 exact NX.fin (v := .int .i64 0) (Res.still (by kernel_rfl)) tot htL rfl
def N.punish_Find_1_0 : List (List Nat) := [[], [], [], [], [], [], [4, 5], [4, 5, 6], [0, 1, 2, 3, 4, 5, 6, 7], [0, 1, 2, 3, 4, 5, 6, 7, 8], [0, 1, 2, 3, 4, 5, 6, 7, 8, 9]]
def F.punish_Find_1 (x1 : Int) (d1 : Arr Int 8) (x2 : Int) (l1 : List Int) (d2 : Arr Int 8) (x3 : Int) (d3 : Arr Int 8) (l2 : List Int) (l3 : List Int) (l4 : List S_notary_entry) (w1 : (List (S_notary_entry × Int))) (d4 : Arr Int 8) (d5 : Arr Int 8) (l5 : List S_punish_Thing) (x4 : Int) : Option (Bool) := (if (0 : Int) ≤ x4 ∧ x4 < (l5.length : Int) then ((F.punish_Twice l4 w1 d4 d5 x1 d1 x2 l1 d2 x3 d3 l2 l3 ((getI l5 x4).f1) ((getI l5 x4).f2) ((getI l5 x4).f3) ((getI l5 x4).f4) ((getI l5 x4).f5) ((getI l5 x4).f6) ((getI l5 x4).f7) ((getI l5 x4).f8) ((getI l5 x4).f9)).bind fun x5 => (some (x5 == 0))) else none)
theorem P.punish_Find_1 (g0 : GW) (m0 : Nat) (m1 : Nat) (m2 : Nat) (m3 : Nat) (m4 : Nat) (m5 : Nat) (m6 : Nat) (x1 : Int) (d1 : Arr Int 8) (x2 : Int) (l1 : List Int) (d2 : Arr Int 8) (x3 : Int) (d3 : Arr Int 8) (l2 : List Int) (l3 : List Int) (l4 : List S_notary_entry) (w1 : (List (S_notary_entry × Int))) (d4 : Arr Int 8) (d5 : Arr Int 8) (l5 : List S_punish_Thing) (x4 : Int) (a1 : Option Addr) (n1 : Nat) (c1 : Nat) (a2 : Option Addr) (n2 : Nat) (c2 : Nat) (a3 : Option Addr) (n3 : Nat) (c3 : Nat) (a4 : Option Addr) (n4 : Nat) (c4 : Nat) (a5 : Option Addr) (n5 : Nat) (c5 : Nat) (b1 : Nat) (b2 : Nat) (b3 : Nat) (b4 : Nat) (b5 : Nat) (b6 : Nat) (b7 : Nat) (hR1 : RdS (Kd.int .u8) g0 5 a1 n1 c1 l1) (hR2 : RdS (Kd.int .u8) g0 5 a2 n2 c2 l2) (hR3 : RdS (Kd.int .u8) g0 5 a3 n3 c3 l3) (hR4 : RdS k_S_notary_entry g0 126 a4 n4 c4 l4) (hR5 : RdS k_S_punish_Thing g0 43 a5 n5 c5 l5) (hB1 : MapB g0 m2 b3 kv_S_notary_entry (Value.int .i64) w1) (hB2 : Box g0 m1 b2 121 [[.slice a4 n4 c4], [.map (some b3)]] [1, 1]) (hB3 : Box g0 m0 b1 131 [[.iface 57 (.pointer (some ⟨b2, 0, none⟩))]] [1]) (hB4 : Box g0 m3 b4 37 [encA .u8 d4] [8]) (hB5 : Box g0 m4 b5 37 [encA .u8 d5] [8]) (hB6 : Box g0 m5 b6 76 [[.slice a5 n5 c5]] [1]) (hB7 : Box g0 m6 b7 3 [[.int .i64 x4]] [1]) (hm1_0 : m1 ≠ m0) (hm2_0 : m2 ≠ m0) (hm2_1 : m2 ≠ m1) (hm3_0 : m3 ≠ m0) (hm3_1 : m3 ≠ m1) (hm3_2 : m3 ≠ m2) (hm4_0 : m4 ≠ m0) (hm4_1 : m4 ≠ m1) (hm4_2 : m4 ≠ m2) (hm4_3 : m4 ≠ m3) (hm5_0 : m5 ≠ m0) (hm5_1 : m5 ≠ m1) (hm5_2 : m5 ≠ m2) (hm5_3 : m5 ≠ m3) (hm5_4 : m5 ≠ m4) (hm6_0 : m6 ≠ m0) (hm6_1 : m6 ≠ m1) (hm6_2 : m6 ≠ m2) (hm6_3 : m6 ≠ m3) (hm6_4 : m6 ≠ m4) (hm6_5 : m6 ≠ m5) (hm0 : m0 ≠ 0) (hm1 : m1 ≠ 0) (hm2 : m2 ≠ 0) (hm3 : m3 ≠ 0) (hm4 : m4 ≠ 0) (hm5 : m5 ≠ 0) (hm6 : m6 ≠ 0) (o1 : Bool) (hs : F.punish_Find_1 x1 d1 x2 l1 d2 x3 d3 l2 l3 l4 w1 d4 d5 l5 x4 = some o1) :
  Calls Try.prog 65 #[AG [[.int .i64 x1], encA .u8 d1, [.int .i64 x2], [.slice a1 n1 c1], encA .u8 d2, [.int .i64 x3], encA .u8 d3, [.slice a2 n2 c2], [.slice a3 n3 c3]], .pointer (some ⟨b1, 0, none⟩), .pointer (some ⟨b4, 0, none⟩), .pointer (some ⟨b5, 0, none⟩), .pointer (some ⟨b6, 0, none⟩), .pointer (some ⟨b7, 0, none⟩)] g0.w (Ret NoM g0 fun v g => v = .bool o1) := by
 refine calls_of (args := [AG [[.int .i64 x1], encA .u8 d1, [.int .i64 x2], [.slice a1 n1 c1], encA .u8 d2, [.int .i64 x3], encA .u8 d3, [.slice a2 n2 c2], [.slice a3 n3 c3]], .pointer (some ⟨b1, 0, none⟩), .pointer (some ⟨b4, 0, none⟩), .pointer (some ⟨b5, 0, none⟩), .pointer (some ⟨b6, 0, none⟩), .pointer (some ⟨b7, 0, none⟩)]) Try.func65 rfl (m0 + m1 + m2 + m3 + m4 + m5 + m6 + 0) ?_
 intro t ht htL
 refine ⟨_, rfl, ?_⟩
 refine CP.refr 18 [(0, AG [[.int .i64 x1], encA .u8 d1, [.int .i64 x2], [.slice a1 n1 c1], encA .u8 d2, [.int .i64 x3], encA .u8 d3, [.slice a2 n2 c2], [.slice a3 n3 c3]]), (1, .pointer (some ⟨b1, 0, none⟩)), (2, .pointer (some ⟨b4, 0, none⟩)), (3, .pointer (some ⟨b5, 0, none⟩)), (4, .pointer (some ⟨b6, 0, none⟩)), (5, .pointer (some ⟨b7, 0, none⟩))] (by kernel_rfl) (by kernel_rfl) ?_
 intro ds
 have tot : Step (fun l => NoM l ∨ t ≤ l) g0 g0 := Step.refl _ _
 unfold F.punish_Find_1 at hs
 refine CP.seqR ?_
 refine WP.alloc (T := 43) (t + 1) [[.int .i64 x1], encA .u8 d1, [.int .i64 x2], [.slice a1 n1 c1], encA .u8 d2, [.int .i64 x3], encA .u8 d3, [.slice a2 n2 c2], [.slice a3 n3 c3]] [1, 8, 1, 1, 8, 1, 8, 1, 1] (by kernel_rfl) (by simp [len_encA]) ?_
 intro g1 b8 st1 hB8
 replace hR1 := hR1.mono st1 (fun x => x)
 replace hR2 := hR2.mono st1 (fun x => x)
 replace hR3 := hR3.mono st1 (fun x => x)
 replace hB3 := hB3.mono st1 (fun x => x)
 replace hB2 := hB2.mono st1 (fun x => x)
 replace hR4 := hR4.mono st1 (fun x => x)
 replace hB1 := hB1.mono st1 (fun x => x)
 replace hB4 := hB4.mono st1 (fun x => x)
 replace hB5 := hB5.mono st1 (fun x => x)
 replace hB6 := hB6.mono st1 (fun x => x)
 replace hR5 := hR5.mono st1 (fun x => x)
 replace hB7 := hB7.mono st1 (fun x => x)
 replace tot := tot.trans st1.pure
 refine WP.stl 1 ?_
 refine WP.dn ?_
 refine NX.then_n ?_
 refine CP.seq ?_
 by_cases hc1 : (0 : Int) ≤ x4 ∧ x4 < (l5.length : Int)
 case neg => rw [if_neg hc1] at hs; cases hs
 replace hs := of_if_p hs hc1
 replace hs := Option.bind_eq_some_iff.1 hs
 obtain ⟨x5, hk1, hs⟩ := hs
 obtain ⟨b9, u1, ha1⟩ := hR5.at hc1
 refine CP.drawL (by kernel_rfl) [0, 1, 2, 3, 4, 5, 6, 7, 8] N.punish_Find_1_0 [⟨none, [], [], fun l g => Box g m0 b1 131 [[.iface 57 (.pointer (some ⟨b2, 0, none⟩))]] [1]⟩, ⟨none, [], [], fun l g => Box g m1 b2 121 [[.slice a4 n4 c4], [.map (some b3)]] [1, 1]⟩, ⟨none, [], [], fun l g => RdS k_S_notary_entry g 126 a4 n4 c4 l4⟩, ⟨none, [], [], fun l g => MapB g m2 b3 kv_S_notary_entry (Value.int .i64) w1⟩, ⟨none, [], [], fun l g => Box g m3 b4 37 [encA .u8 d4] [8]⟩, ⟨none, [], [], fun l g => Box g m4 b5 37 [encA .u8 d5] [8]⟩, ⟨none, [], [], fun l g => Box g m5 b6 76 [[.slice a5 n5 c5]] [1]⟩, ⟨none, [], [], fun l g => RdS k_S_punish_Thing g 43 a5 n5 c5 l5⟩, ⟨none, [], [], fun l g => Box g m6 b7 3 [[.int .i64 x4]] [1]⟩, ⟨none, [], [], fun l g => Box g (t + 1) b8 43 [[.int .i64 x1], encA .u8 d1, [.int .i64 x2], [.slice a1 n1 c1], encA .u8 d2, [.int .i64 x3], encA .u8 d3, [.slice a2 n2 c2], [.slice a3 n3 c3]] [1, 8, 1, 1, 8, 1, 8, 1, 1]⟩, ⟨none, [], [], fun l g => RdS (Kd.int .u8) g 5 a1 n1 c1 l1⟩, ⟨none, [], [], fun l g => RdS (Kd.int .u8) g 5 a2 n2 c2 l2⟩, ⟨none, [], [], fun l g => RdS (Kd.int .u8) g 5 a3 n3 c3 l3⟩, ⟨some 0, [], [0], fun l g => l.getD 0 undef = .iface 57 (.pointer (some ⟨b2, 0, none⟩))⟩, ⟨some 1, [], [1], fun l g => l.getD 0 undef = AG [encA .u8 d4]⟩, ⟨some 2, [], [2], fun l g => l.getD 0 undef = AG [encA .u8 d5]⟩, ⟨some 3, [], [3], fun l g => l.getD 0 undef = AG [[.int .i64 x1], encA .u8 d1, [.int .i64 x2], [.slice a1 n1 c1], encA .u8 d2, [.int .i64 x3], encA .u8 d3, [.slice a2 n2 c2], [.slice a3 n3 c3]]⟩, ⟨some 4, [], [4], fun l g => l.getD 0 undef = .slice a5 n5 c5⟩, ⟨some 5, [], [5], fun l g => l.getD 0 undef = .int .i64 x4⟩, ⟨some 6, [], [6], fun l g => l.getD 0 undef = .pointer (some ⟨b9, u1 + x4.toNat * 30, none⟩)⟩, ⟨some 7, [], [7], fun l g => ∃ (a6 : Option Addr) (c6 : Nat) (a7 : Option Addr) (c7 : Nat) (a8 : Option Addr) (c8 : Nat), l.getD 0 undef = AG [[.int .i64 ((getI l5 x4).f1)], encA .u8 ((getI l5 x4).f2), [.int .i64 ((getI l5 x4).f3)], [.slice a6 (((getI l5 x4).f4).length) c6], encA .u8 ((getI l5 x4).f5), [.int .i64 ((getI l5 x4).f6)], encA .u8 ((getI l5 x4).f7), [.slice a7 (((getI l5 x4).f8).length) c7], [.slice a8 (((getI l5 x4).f9).length) c8]] ∧ RdS (Kd.int .u8) g 5 a6 (((getI l5 x4).f4).length) c6 ((getI l5 x4).f4) ∧ RdS (Kd.int .u8) g 5 a7 (((getI l5 x4).f8).length) c7 ((getI l5 x4).f8) ∧ RdS (Kd.int .u8) g 5 a8 (((getI l5 x4).f9).length) c8 ((getI l5 x4).f9)⟩, ⟨some 8, [], [8], fun l g => l.getD 0 undef = .int .i64 x5⟩] [[], [], [], [], [], [], [], [], []] [] [] [9, 10] (by kernel_rfl) (by simp) (by simp) ⟨fun _ _ _ _ st h0 hl hj hB3 => (hB3.mono st (fun h => absurd (hl _ h) (by simp))), fun _ _ _ _ st h0 hl hj hB2 => (hB2.mono st (fun h => absurd (hl _ h) (by simp))), fun _ _ _ _ st h0 hl hj hR4 => (RdS.mono (e := 126) hR4 st h0), fun _ _ _ _ st h0 hl hj hB1 => (hB1.mono st (fun h => absurd (hl _ h) (by simp))), fun _ _ _ _ st h0 hl hj hB4 => (hB4.mono st (fun h => absurd (hl _ h) (by simp))), fun _ _ _ _ st h0 hl hj hB5 => (hB5.mono st (fun h => absurd (hl _ h) (by simp))), fun _ _ _ _ st h0 hl hj hB6 => (hB6.mono st (fun h => absurd (hl _ h) (by simp))), fun _ _ _ _ st h0 hl hj hR5 => (RdS.mono (e := 43) hR5 st h0), fun _ _ _ _ st h0 hl hj hB7 => (hB7.mono st (fun h => absurd (hl _ h) (by simp))), fun _ _ _ _ st h0 hl hj hB8 => (hB8.mono st (fun h => absurd (hl _ h) (by simp))), fun _ _ _ _ st h0 hl hj hR1 => (RdS.mono (e := 5) hR1 st h0), fun _ _ _ _ st h0 hl hj hR2 => (RdS.mono (e := 5) hR2 st h0), fun _ _ _ _ st h0 hl hj hR3 => (RdS.mono (e := 5) hR3 st h0), fun _ _ _ _ st h0 hl hj e0 => e0, fun _ _ _ _ st h0 hl hj e1 => e1, fun _ _ _ _ st h0 hl hj e2 => e2, fun _ _ _ _ st h0 hl hj e3 => e3, fun _ _ _ _ st h0 hl hj e4 => e4, fun _ _ _ _ st h0 hl hj e5 => e5, fun _ _ _ _ st h0 hl hj e6 => e6, fun _ _ _ _ st h0 hl hj ⟨a6, c6, a7, c7, a8, c8, e7, hR6, hR7, hR8⟩ => ⟨a6, c6, a7, c7, a8, c8, e7, (RdS.mono (e := 5) hR6 st h0), (RdS.mono (e := 5) hR7 st h0), (RdS.mono (e := 5) hR8 st h0)⟩, fun _ _ _ _ st h0 hl hj e8 => e8, tv⟩ ⟨hB3, hB2, hR4, hB1, hB4, hB5, hB6, hR5, hB7, hB8, hR1, hR2, hR3, tv, tv, tv, tv, tv, tv, tv, tv, tv, tv⟩ (by kernel_rfl) (fun vs => by kernel_rfl) ?_ ?_ ?_
 ·intro j hj
  have hq : j = 0 ∨ j = 1 := by have h : j < 2 := hj; omega
  rcases hq with rfl | rfl
  ·intro vs gq stq hl hf
   obtain ⟨v0, v1, v2, v3, v4, v5, v6, v7, v8, rfl⟩ := len_k9 hl
   have e8 := (show v8 = .int .i64 x5 from hf _ (memI 21 rfl) (by kernel_rfl))
   subst e8
   show Option.isSome _ = true
   kernel_rfl
  ·intro vs gq stq hl hf
   obtain ⟨v0, v1, v2, v3, v4, v5, v6, v7, v8, rfl⟩ := len_k9 hl
   have e8 := (show v8 = .int .i64 x5 from hf _ (memI 21 rfl) (by kernel_rfl))
   subst e8
   show Option.isSome _ = true
   kernel_rfl
 ·intro j hj
  have hq : j = 0 ∨ j = 1 ∨ j = 2 ∨ j = 3 ∨ j = 4 ∨ j = 5 ∨ j = 6 ∨ j = 7 ∨ j = 8 := by have h : j < 9 := hj; omega
  rcases hq with rfl | rfl | rfl | rfl | rfl | rfl | rfl | rfl | rfl
  ·intro vs gq stq hl hf
   obtain ⟨v0, v1, v2, v3, v4, v5, v6, v7, v8, rfl⟩ := len_k9 hl
   have hB3 := (show Box gq m0 b1 131 [[.iface 57 (.pointer (some ⟨b2, 0, none⟩))]] [1] from hf _ (memI 0 rfl) (by kernel_rfl))
   refine WP.loadB (v := .iface 57 (.pointer (some ⟨b2, 0, none⟩))) hB3 (by kernel_rfl) (by kernel_rfl) ?_
   refine WP.dn (Shown.ok (v := .iface 57 (.pointer (some ⟨b2, 0, none⟩))) (by kernel_rfl) (Step.refl _ _) ?_)
   exact ⟨tv, tv, tv, tv, tv, tv, tv, tv, tv, tv, tv, tv, tv, rfl, tv, tv, tv, tv, tv, tv, tv, tv, tv⟩
  ·intro vs gq stq hl hf
   obtain ⟨v0, v1, v2, v3, v4, v5, v6, v7, v8, rfl⟩ := len_k9 hl
   have hB4 := (show Box gq m3 b4 37 [encA .u8 d4] [8] from hf _ (memI 4 rfl) (by kernel_rfl))
   refine WP.loadB (v := AG [encA .u8 d4]) hB4 (by kernel_rfl) (by kernel_rfl) ?_
   refine WP.dn (Shown.ok (v := AG [encA .u8 d4]) (by kernel_rfl) (Step.refl _ _) ?_)
   exact ⟨tv, tv, tv, tv, tv, tv, tv, tv, tv, tv, tv, tv, tv, tv, rfl, tv, tv, tv, tv, tv, tv, tv, tv⟩
  ·intro vs gq stq hl hf
   obtain ⟨v0, v1, v2, v3, v4, v5, v6, v7, v8, rfl⟩ := len_k9 hl
   have hB5 := (show Box gq m4 b5 37 [encA .u8 d5] [8] from hf _ (memI 5 rfl) (by kernel_rfl))
   refine WP.loadB (v := AG [encA .u8 d5]) hB5 (by kernel_rfl) (by kernel_rfl) ?_
   refine WP.dn (Shown.ok (v := AG [encA .u8 d5]) (by kernel_rfl) (Step.refl _ _) ?_)
   exact ⟨tv, tv, tv, tv, tv, tv, tv, tv, tv, tv, tv, tv, tv, tv, tv, rfl, tv, tv, tv, tv, tv, tv, tv⟩
  ·intro vs gq stq hl hf
   obtain ⟨v0, v1, v2, v3, v4, v5, v6, v7, v8, rfl⟩ := len_k9 hl
   have hB8 := (show Box gq (t + 1) b8 43 [[.int .i64 x1], encA .u8 d1, [.int .i64 x2], [.slice a1 n1 c1], encA .u8 d2, [.int .i64 x3], encA .u8 d3, [.slice a2 n2 c2], [.slice a3 n3 c3]] [1, 8, 1, 1, 8, 1, 8, 1, 1] from hf _ (memI 9 rfl) (by kernel_rfl))
   refine WP.loadB (v := AG [[.int .i64 x1], encA .u8 d1, [.int .i64 x2], [.slice a1 n1 c1], encA .u8 d2, [.int .i64 x3], encA .u8 d3, [.slice a2 n2 c2], [.slice a3 n3 c3]]) hB8 (by kernel_rfl) (by kernel_rfl) ?_
   refine WP.dn (Shown.ok (v := AG [[.int .i64 x1], encA .u8 d1, [.int .i64 x2], [.slice a1 n1 c1], encA .u8 d2, [.int .i64 x3], encA .u8 d3, [.slice a2 n2 c2], [.slice a3 n3 c3]]) (by kernel_rfl) (Step.refl _ _) ?_)
   exact ⟨tv, tv, tv, tv, tv, tv, tv, tv, tv, tv, tv, tv, tv, tv, tv, tv, rfl, tv, tv, tv, tv, tv, tv⟩
  ·intro vs gq stq hl hf
   obtain ⟨v0, v1, v2, v3, v4, v5, v6, v7, v8, rfl⟩ := len_k9 hl
   have hB6 := (show Box gq m5 b6 76 [[.slice a5 n5 c5]] [1] from hf _ (memI 6 rfl) (by kernel_rfl))
   refine WP.loadB (v := .slice a5 n5 c5) hB6 (by kernel_rfl) (by kernel_rfl) ?_
   refine WP.dn (Shown.ok (v := .slice a5 n5 c5) (by kernel_rfl) (Step.refl _ _) ?_)
   exact ⟨tv, tv, tv, tv, tv, tv, tv, tv, tv, tv, tv, tv, tv, tv, tv, tv, tv, rfl, tv, tv, tv, tv, tv⟩
  ·intro vs gq stq hl hf
   obtain ⟨v0, v1, v2, v3, v4, v5, v6, v7, v8, rfl⟩ := len_k9 hl
   have hB7 := (show Box gq m6 b7 3 [[.int .i64 x4]] [1] from hf _ (memI 8 rfl) (by kernel_rfl))
   refine WP.loadB (v := .int .i64 x4) hB7 (by kernel_rfl) (by kernel_rfl) ?_
   refine WP.dn (Shown.ok (v := .int .i64 x4) (by kernel_rfl) (Step.refl _ _) ?_)
   exact ⟨tv, tv, tv, tv, tv, tv, tv, tv, tv, tv, tv, tv, tv, tv, tv, tv, tv, tv, rfl, tv, tv, tv, tv⟩
  ·intro vs gq stq hl hf
   obtain ⟨v0, v1, v2, v3, v4, v5, v6, v7, v8, rfl⟩ := len_k9 hl
   have hR5 := (show RdS k_S_punish_Thing gq 43 a5 n5 c5 l5 from hf _ (memI 7 rfl) (by kernel_rfl))
   have e4 := (show v4 = .slice a5 n5 c5 from hf _ (memI 17 rfl) (by kernel_rfl))
   subst e4
   have e5 := (show v5 = .int .i64 x4 from hf _ (memI 18 rfl) (by kernel_rfl))
   subst e5
   refine WP.indexA (t := 76) (e := 43) (sz := 30) (cap := c5) (k := .i64) (i := x4) hR5.len ha1 (by kernel_rfl) (by kernel_rfl) hc1 ?_
   refine WP.dn (Shown.ok (v := .pointer (some ⟨b9, u1 + x4.toNat * 30, none⟩)) (by kernel_rfl) (Step.refl _ _) ?_)
   exact ⟨tv, tv, tv, tv, tv, tv, tv, tv, tv, tv, tv, tv, tv, tv, tv, tv, tv, tv, tv, rfl, tv, tv, tv⟩
  ·intro vs gq stq hl hf
   obtain ⟨v0, v1, v2, v3, v4, v5, v6, v7, v8, rfl⟩ := len_k9 hl
   have hR5 := (show RdS k_S_punish_Thing gq 43 a5 n5 c5 l5 from hf _ (memI 7 rfl) (by kernel_rfl))
   have e6 := (show v6 = .pointer (some ⟨b9, u1 + x4.toNat * 30, none⟩) from hf _ (memI 19 rfl) (by kernel_rfl))
   subst e6
   obtain ⟨cs1, hcR1, hcV1⟩ := hR5.src.view (getI_some hc1) ha1
   obtain ⟨a6, n6, c6, a7, n7, c7, a8, n8, c8, hcR1, hR6, hR7, hR8⟩ := k_S_punish_Thing.opn hcR1
   refine WP.loadV [[.int .i64 ((getI l5 x4).f1)], encA .u8 ((getI l5 x4).f2), [.int .i64 ((getI l5 x4).f3)], [.slice a6 n6 c6], encA .u8 ((getI l5 x4).f5), [.int .i64 ((getI l5 x4).f6)], encA .u8 ((getI l5 x4).f7), [.slice a7 n7 c7], [.slice a8 n8 c8]] [1, 8, 1, 1, 8, 1, 8, 1, 1] hcV1 hcR1 (by simp [len_encA]) (f := 0) (ty := 43) (agg := true) (size := 30) (rs := [[.int .i64 ((getI l5 x4).f1)], encA .u8 ((getI l5 x4).f2), [.int .i64 ((getI l5 x4).f3)], [.slice a6 n6 c6], encA .u8 ((getI l5 x4).f5), [.int .i64 ((getI l5 x4).f6)], encA .u8 ((getI l5 x4).f7), [.slice a7 n7 c7], [.slice a8 n8 c8]]) (v := AG [[.int .i64 ((getI l5 x4).f1)], encA .u8 ((getI l5 x4).f2), [.int .i64 ((getI l5 x4).f3)], [.slice a6 n6 c6], encA .u8 ((getI l5 x4).f5), [.int .i64 ((getI l5 x4).f6)], encA .u8 ((getI l5 x4).f7), [.slice a7 n7 c7], [.slice a8 n8 c8]]) (by kernel_rfl) (by kernel_rfl) (by kernel_rfl) (by kernel_rfl) ?_
   obtain rfl := hR6.len
   obtain rfl := hR7.len
   obtain rfl := hR8.len
   refine WP.dn (Shown.ok (v := AG [[.int .i64 ((getI l5 x4).f1)], encA .u8 ((getI l5 x4).f2), [.int .i64 ((getI l5 x4).f3)], [.slice a6 (((getI l5 x4).f4).length) c6], encA .u8 ((getI l5 x4).f5), [.int .i64 ((getI l5 x4).f6)], encA .u8 ((getI l5 x4).f7), [.slice a7 (((getI l5 x4).f8).length) c7], [.slice a8 (((getI l5 x4).f9).length) c8]]) (by kernel_rfl) (Step.refl _ _) ?_)
   exact ⟨tv, tv, tv, tv, tv, tv, tv, tv, tv, tv, tv, tv, tv, tv, tv, tv, tv, tv, tv, tv, ⟨a6, c6, a7, c7, a8, c8, rfl, hR6, hR7, hR8⟩, tv, tv⟩
  ·intro vs gq stq hl hf
   obtain ⟨v0, v1, v2, v3, v4, v5, v6, v7, v8, rfl⟩ := len_k9 hl
   have hB2 := (show Box gq m1 b2 121 [[.slice a4 n4 c4], [.map (some b3)]] [1, 1] from hf _ (memI 1 rfl) (by kernel_rfl))
   have hR4 := (show RdS k_S_notary_entry gq 126 a4 n4 c4 l4 from hf _ (memI 2 rfl) (by kernel_rfl))
   have hB1 := (show MapB gq m2 b3 kv_S_notary_entry (Value.int .i64) w1 from hf _ (memI 3 rfl) (by kernel_rfl))
   have hR1 := (show RdS (Kd.int .u8) gq 5 a1 n1 c1 l1 from hf _ (memI 10 rfl) (by kernel_rfl))
   have hR2 := (show RdS (Kd.int .u8) gq 5 a2 n2 c2 l2 from hf _ (memI 11 rfl) (by kernel_rfl))
   have hR3 := (show RdS (Kd.int .u8) gq 5 a3 n3 c3 l3 from hf _ (memI 12 rfl) (by kernel_rfl))
   have e0 := (show v0 = .iface 57 (.pointer (some ⟨b2, 0, none⟩)) from hf _ (memI 13 rfl) (by kernel_rfl))
   subst e0
   have e1 := (show v1 = AG [encA .u8 d4] from hf _ (memI 14 rfl) (by kernel_rfl))
   subst e1
   have e2 := (show v2 = AG [encA .u8 d5] from hf _ (memI 15 rfl) (by kernel_rfl))
   subst e2
   have e3 := (show v3 = AG [[.int .i64 x1], encA .u8 d1, [.int .i64 x2], [.slice a1 n1 c1], encA .u8 d2, [.int .i64 x3], encA .u8 d3, [.slice a2 n2 c2], [.slice a3 n3 c3]] from hf _ (memI 16 rfl) (by kernel_rfl))
   subst e3
   obtain ⟨a6, c6, a7, c7, a8, c8, e7, hR6, hR7, hR8⟩ := (show ∃ (a6 : Option Addr) (c6 : Nat) (a7 : Option Addr) (c7 : Nat) (a8 : Option Addr) (c8 : Nat), v7 = AG [[.int .i64 ((getI l5 x4).f1)], encA .u8 ((getI l5 x4).f2), [.int .i64 ((getI l5 x4).f3)], [.slice a6 (((getI l5 x4).f4).length) c6], encA .u8 ((getI l5 x4).f5), [.int .i64 ((getI l5 x4).f6)], encA .u8 ((getI l5 x4).f7), [.slice a7 (((getI l5 x4).f8).length) c7], [.slice a8 (((getI l5 x4).f9).length) c8]] ∧ RdS (Kd.int .u8) gq 5 a6 (((getI l5 x4).f4).length) c6 ((getI l5 x4).f4) ∧ RdS (Kd.int .u8) gq 5 a7 (((getI l5 x4).f8).length) c7 ((getI l5 x4).f8) ∧ RdS (Kd.int .u8) gq 5 a8 (((getI l5 x4).f9).length) c8 ((getI l5 x4).f9) from hf _ (memI 20 rfl) (by kernel_rfl))
   subst e7
   have hcal1 := P.punish_Twice gq m1 m2 l4 w1 d4 d5 x1 d1 x2 l1 d2 x3 d3 l2 l3 ((getI l5 x4).f1) ((getI l5 x4).f2) ((getI l5 x4).f3) ((getI l5 x4).f4) ((getI l5 x4).f5) ((getI l5 x4).f6) ((getI l5 x4).f7) ((getI l5 x4).f8) ((getI l5 x4).f9) a4 n4 c4 a1 n1 c1 a2 n2 c2 a3 n3 c3 a6 (((getI l5 x4).f4).length) c6 a7 (((getI l5 x4).f8).length) c7 a8 (((getI l5 x4).f9).length) c8 b2 b3 hR4 hR1 hR2 hR3 hR6 hR7 hR8 hB1 hB2 (by omega) (by omega) (by omega) x5 hk1
   refine WP.callC hcal1 (by kernel_rfl) ?_
   rintro _ g2 st2 rfl
   refine WP.dn (Shown.o (v := .int .i64 x5) st2.pure ?_)
   exact ⟨tv, tv, tv, tv, tv, tv, tv, tv, tv, tv, tv, tv, tv, tv, tv, tv, tv, tv, tv, tv, tv, rfl, tv⟩
 intro vs g3 st3 hl hf
 obtain ⟨v0, v1, v2, v3, v4, v5, v6, v7, v8, rfl⟩ := len_k9 hl
 have e8 := (show v8 = .int .i64 x5 from hf _ (memI 21 rfl) (by kernel_rfl))
 subst e8
 replace tot := tot.trans st3.toNo.pure
 refine NX.then_n ?_
 refine CP.refr 18 [(7, .bool (x5 == 0))] (by kernel_rfl) (by kernel_rfl) ?_
 clear ds
 intro ds
 refine CP.ret ?_
 replace hs := Option.some.inj hs
 obtain rfl := hs
 exact NX.fin (v := .bool (x5 == 0)) (Res.still (by kernel_rfl)) tot htL rfl
def F.slices_IndexFunc_punish_Thing_punish_Thing.l1 (l1 : List S_punish_Thing) (l2 : List S_notary_entry) (w1 : (List (S_notary_entry × Int))) (d1 : Arr Int 8) (d2 : Arr Int 8) (l3 : List S_punish_Thing) (x1 : Int) : Nat → Int → Option (Int)
 | 0, _ => none
 | k + 1, x2 => (if decide (x2 < (l1.length : Int)) = true then (if (0 : Int) ≤ x2 ∧ x2 < (l1.length : Int) then ((F.punish_Find_1 ((getI l1 x2).f1) ((getI l1 x2).f2) ((getI l1 x2).f3) ((getI l1 x2).f4) ((getI l1 x2).f5) ((getI l1 x2).f6) ((getI l1 x2).f7) ((getI l1 x2).f8) ((getI l1 x2).f9) l2 w1 d1 d2 l3 x1).bind fun q3 => (if q3 = true then (some x2) else (F.slices_IndexFunc_punish_Thing_punish_Thing.l1 l1 l2 w1 d1 d2 l3 x1 k (IntKind.i64.wrap (x2 + 1))))) else none) else (some (-1)))
def F.slices_IndexFunc_punish_Thing_punish_Thing (l1 : List S_punish_Thing) (l2 : List S_notary_entry) (w1 : (List (S_notary_entry × Int))) (d1 : Arr Int 8) (d2 : Arr Int 8) (l3 : List S_punish_Thing) (x1 : Int) : Option (Int) := (F.slices_IndexFunc_punish_Thing_punish_Thing.l1 l1 l2 w1 d1 d2 l3 x1 fuel 0)
theorem P.slices_IndexFunc_punish_Thing_punish_Thing (g0 : GW) (m0 : Nat) (m1 : Nat) (m2 : Nat) (m3 : Nat) (m4 : Nat) (m5 : Nat) (m6 : Nat) (l1 : List S_punish_Thing) (l2 : List S_notary_entry) (w1 : (List (S_notary_entry × Int))) (d1 : Arr Int 8) (d2 : Arr Int 8) (l3 : List S_punish_Thing) (x1 : Int) (a1 : Option Addr) (n1 : Nat) (c1 : Nat) (a2 : Option Addr) (n2 : Nat) (c2 : Nat) (a3 : Option Addr) (n3 : Nat) (c3 : Nat) (b1 : Nat) (b2 : Nat) (b3 : Nat) (b4 : Nat) (b5 : Nat) (b6 : Nat) (b7 : Nat) (hR1 : RdS k_S_punish_Thing g0 43 a1 n1 c1 l1) (hR2 : RdS k_S_notary_entry g0 126 a2 n2 c2 l2) (hR3 : RdS k_S_punish_Thing g0 43 a3 n3 c3 l3) (hB1 : MapB g0 m2 b3 kv_S_notary_entry (Value.int .i64) w1) (hB2 : Box g0 m1 b2 121 [[.slice a2 n2 c2], [.map (some b3)]] [1, 1]) (hB3 : Box g0 m0 b1 131 [[.iface 57 (.pointer (some ⟨b2, 0, none⟩))]] [1]) (hB4 : Box g0 m3 b4 37 [encA .u8 d1] [8]) (hB5 : Box g0 m4 b5 37 [encA .u8 d2] [8]) (hB6 : Box g0 m5 b6 76 [[.slice a3 n3 c3]] [1]) (hB7 : Box g0 m6 b7 3 [[.int .i64 x1]] [1]) (hm1_0 : m1 ≠ m0) (hm2_0 : m2 ≠ m0) (hm2_1 : m2 ≠ m1) (hm3_0 : m3 ≠ m0) (hm3_1 : m3 ≠ m1) (hm3_2 : m3 ≠ m2) (hm4_0 : m4 ≠ m0) (hm4_1 : m4 ≠ m1) (hm4_2 : m4 ≠ m2) (hm4_3 : m4 ≠ m3) (hm5_0 : m5 ≠ m0) (hm5_1 : m5 ≠ m1) (hm5_2 : m5 ≠ m2) (hm5_3 : m5 ≠ m3) (hm5_4 : m5 ≠ m4) (hm6_0 : m6 ≠ m0) (hm6_1 : m6 ≠ m1) (hm6_2 : m6 ≠ m2) (hm6_3 : m6 ≠ m3) (hm6_4 : m6 ≠ m4) (hm6_5 : m6 ≠ m5) (hm0 : m0 ≠ 0) (hm1 : m1 ≠ 0) (hm2 : m2 ≠ 0) (hm3 : m3 ≠ 0) (hm4 : m4 ≠ 0) (hm5 : m5 ≠ 0) (hm6 : m6 ≠ 0) (o1 : Int) (hs : F.slices_IndexFunc_punish_Thing_punish_Thing l1 l2 w1 d1 d2 l3 x1 = some o1) :
  Calls Try.prog 66 #[.slice a1 n1 c1, .func (.func 65) #[] #[.pointer (some ⟨b1, 0, none⟩), .pointer (some ⟨b4, 0, none⟩), .pointer (some ⟨b5, 0, none⟩), .pointer (some ⟨b6, 0, none⟩), .pointer (some ⟨b7, 0, none⟩)]] g0.w (Ret NoM g0 fun v g => v = .int .i64 o1) := by
 refine calls_of (args := [.slice a1 n1 c1, .func (.func 65) #[] #[.pointer (some ⟨b1, 0, none⟩), .pointer (some ⟨b4, 0, none⟩), .pointer (some ⟨b5, 0, none⟩), .pointer (some ⟨b6, 0, none⟩), .pointer (some ⟨b7, 0, none⟩)]]) Try.func66 rfl (m0 + m1 + m2 + m3 + m4 + m5 + m6 + 0) ?_
 intro t ht htL
 refine ⟨_, rfl, ?_⟩
 refine CP.refr 19 [(0, .slice a1 n1 c1), (1, .func (.func 65) #[] #[.pointer (some ⟨b1, 0, none⟩), .pointer (some ⟨b4, 0, none⟩), .pointer (some ⟨b5, 0, none⟩), .pointer (some ⟨b6, 0, none⟩), .pointer (some ⟨b7, 0, none⟩)])] (by kernel_rfl) (by kernel_rfl) ?_
 intro ds
 have tot : Step (fun l => NoM l ∨ t ≤ l) g0 g0 := Step.refl _ _
 unfold F.slices_IndexFunc_punish_Thing_punish_Thing at hs
 refine CP.seqR ?_
 refine WP.stl 1 ?_
 refine WP.dn ?_
 refine NX.then_n ?_
 refine CP.seq ?_
 refine CP.seqR ?_
 refine WP.stl 1 ?_
 refine WP.len (a := a1) (cp := c1) hR1.len (by kernel_rfl) ?_
 refine WP.stl 1 ?_
 refine WP.dn ?_
 refine NX.then_n ?_
 refine CP.block ?_
 generalize fuel = k1 at hs
 refine CP.loop (fun k1 tm g => ∃ (x2 : Int), Fr 19 [(0, .slice a1 n1 c1), (1, .func (.func 65) #[] #[.pointer (some ⟨b1, 0, none⟩), .pointer (some ⟨b4, 0, none⟩), .pointer (some ⟨b5, 0, none⟩), .pointer (some ⟨b6, 0, none⟩), .pointer (some ⟨b7, 0, none⟩)]), (7, .int .i64 (l1.length : Int)), (8, .int .i64 x2)] tm ∧ Step (fun l => NoM l ∨ t ≤ l) g0 g ∧ RdS k_S_punish_Thing g 43 a1 n1 c1 l1 ∧ Box g m0 b1 131 [[.iface 57 (.pointer (some ⟨b2, 0, none⟩))]] [1] ∧ Box g m1 b2 121 [[.slice a2 n2 c2], [.map (some b3)]] [1, 1] ∧ RdS k_S_notary_entry g 126 a2 n2 c2 l2 ∧ MapB g m2 b3 kv_S_notary_entry (Value.int .i64) w1 ∧ Box g m3 b4 37 [encA .u8 d1] [8] ∧ Box g m4 b5 37 [encA .u8 d2] [8] ∧ Box g m5 b6 76 [[.slice a3 n3 c3]] [1] ∧ RdS k_S_punish_Thing g 43 a3 n3 c3 l3 ∧ Box g m6 b7 3 [[.int .i64 x1]] [1] ∧ F.slices_IndexFunc_punish_Thing_punish_Thing.l1 l1 l2 w1 d1 d2 l3 x1 k1 x2 = some o1) k1 ?_ ?_ ?_
 ·exact ⟨0, ⟨by kernel_rfl, by kernel_rfl⟩, tot, hR1, hB3, hB2, hR2, hB1, hB4, hB5, hB6, hR3, hB7, hs⟩
 ·rintro tm g ⟨x2, hF, tot, hR1, hB3, hB2, hR2, hB1, hB4, hB5, hB6, hR3, hB7, hs⟩
  exact absurd hs (by simp [F.slices_IndexFunc_punish_Thing_punish_Thing.l1])
 clear tot hs hR1 hB3 hB2 hR2 hB1 hB4 hB5 hB6 hR3 hB7
 rintro k1 tm g ⟨x2, hF, tot, hR1, hB3, hB2, hR2, hB1, hB4, hB5, hB6, hR3, hB7, hs⟩
 clear ds
 obtain ⟨ds, rfl⟩ := hF.open
 clear hF
 unfold F.slices_IndexFunc_punish_Thing_punish_Thing.l1 at hs
 refine CP.seqR ?_
 refine WP.stl 1 ?_
 refine WP.dn ?_
 refine NX.then_n ?_
 refine CP.seq ?_
 refine CP.cond (b := decide (x2 < (l1.length : Int))) (by kernel_rfl) (fun h5 => ?_) (fun h5 => ?_)
 ·replace hs := of_if_t hs h5
  refine CP.skip ?_
  refine NX.then_n ?_
  refine CP.seq ?_
  refine CP.block ?_
  refine CP.seqR ?_
  refine WP.stl 2 ?_
  refine WP.dn ?_
  refine NX.then_n ?_
  refine CP.seqR ?_
  refine WP.stl 3 ?_
  by_cases hc3 : (0 : Int) ≤ x2 ∧ x2 < (l1.length : Int)
  case neg => rw [if_neg hc3] at hs; cases hs
  replace hs := of_if_p hs hc3
  obtain ⟨b10, u3, ha3⟩ := hR1.at hc3
  refine WP.indexA (t := 76) (e := 43) (sz := 30) (cap := c1) (k := .i64) (i := x2) hR1.len ha3 (by kernel_rfl) (by kernel_rfl) hc3 ?_
  obtain ⟨cs3, hcR3, hcV3⟩ := hR1.src.view (getI_some hc3) ha3
  obtain ⟨a10, n10, c10, a11, n11, c11, a12, n12, c12, hcR3, hR10, hR11, hR12⟩ := k_S_punish_Thing.opn hcR3
  refine WP.loadV [[.int .i64 ((getI l1 x2).f1)], encA .u8 ((getI l1 x2).f2), [.int .i64 ((getI l1 x2).f3)], [.slice a10 n10 c10], encA .u8 ((getI l1 x2).f5), [.int .i64 ((getI l1 x2).f6)], encA .u8 ((getI l1 x2).f7), [.slice a11 n11 c11], [.slice a12 n12 c12]] [1, 8, 1, 1, 8, 1, 8, 1, 1] hcV3 hcR3 (by simp [len_encA]) (f := 0) (ty := 43) (agg := true) (size := 30) (rs := [[.int .i64 ((getI l1 x2).f1)], encA .u8 ((getI l1 x2).f2), [.int .i64 ((getI l1 x2).f3)], [.slice a10 n10 c10], encA .u8 ((getI l1 x2).f5), [.int .i64 ((getI l1 x2).f6)], encA .u8 ((getI l1 x2).f7), [.slice a11 n11 c11], [.slice a12 n12 c12]]) (v := AG [[.int .i64 ((getI l1 x2).f1)], encA .u8 ((getI l1 x2).f2), [.int .i64 ((getI l1 x2).f3)], [.slice a10 n10 c10], encA .u8 ((getI l1 x2).f5), [.int .i64 ((getI l1 x2).f6)], encA .u8 ((getI l1 x2).f7), [.slice a11 n11 c11], [.slice a12 n12 c12]]) (by kernel_rfl) (by kernel_rfl) (by kernel_rfl) (by kernel_rfl) ?_
  replace hs := Option.bind_eq_some_iff.1 hs
  obtain ⟨q3, hk3, hs⟩ := hs
  have hcal3 := P.punish_Find_1 g m0 m1 m2 m3 m4 m5 m6 ((getI l1 x2).f1) ((getI l1 x2).f2) ((getI l1 x2).f3) ((getI l1 x2).f4) ((getI l1 x2).f5) ((getI l1 x2).f6) ((getI l1 x2).f7) ((getI l1 x2).f8) ((getI l1 x2).f9) l2 w1 d1 d2 l3 x1 a10 n10 c10 a11 n11 c11 a12 n12 c12 a2 n2 c2 a3 n3 c3 b1 b2 b3 b4 b5 b6 b7 hR10 hR11 hR12 hR2 hR3 hB1 hB2 hB3 hB4 hB5 hB6 hB7 (by omega) (by omega) (by omega) (by omega) (by omega) (by omega) (by omega) (by omega) (by omega) (by omega) (by omega) (by omega) (by omega) (by omega) (by omega) (by omega) (by omega) (by omega) (by omega) (by omega) (by omega) (by omega) (by omega) (by omega) (by omega) (by omega) (by omega) (by omega) q3 hk3
  refine WP.callC hcal3 (by kernel_rfl) ?_
  rintro _ g3 st3 rfl
  replace hR1 := hR1.mono st3 (fun x => x)
  replace hB3 := hB3.mono st3 (fun x => x)
  replace hB2 := hB2.mono st3 (fun x => x)
  replace hR2 := hR2.mono st3 (fun x => x)
  replace hB1 := hB1.mono st3 (fun x => x)
  replace hB4 := hB4.mono st3 (fun x => x)
  replace hB5 := hB5.mono st3 (fun x => x)
  replace hB6 := hB6.mono st3 (fun x => x)
  replace hR3 := hR3.mono st3 (fun x => x)
  replace hB7 := hB7.mono st3 (fun x => x)
  replace hR10 := hR10.mono st3 (fun x => x)
  replace hR11 := hR11.mono st3 (fun x => x)
  replace hR12 := hR12.mono st3 (fun x => x)
  replace tot := tot.trans st3.pure
  refine WP.dn ?_
  refine NX.then_n ?_
  refine CP.cond (b := q3) (by kernel_rfl) (fun h6 => ?_) (fun h6 => ?_)
  ·replace hs := of_if_t hs h6
   refine CP.seqR ?_
   refine WP.stl 2 ?_
   refine WP.dn ?_
   refine NX.then_n ?_
   refine CP.ret ?_
   refine NX.block_r ?_
   refine NX.then_r ?_
   refine NX.then_r ?_
   refine NX.block_r ?_
   refine NX.then_r ?_
   replace hs := Option.some.inj hs
   obtain rfl := hs
   exact NX.fin (v := .int .i64 x2) (Res.still (by kernel_rfl)) tot htL rfl
  replace hs := of_if_f hs h6
  refine CP.skip ?_
  refine NX.block_n ?_
  refine NX.then_n ?_
  refine CP.region ?_
  refine WP.stl 2 ?_
  refine WP.dn ?_
  refine NX.post ?_
  exact ⟨(IntKind.i64.wrap (x2 + 1)), ⟨by kernel_rfl, by kernel_rfl⟩, tot, hR1, hB3, hB2, hR2, hB1, hB4, hB5, hB6, hR3, hB7, hs⟩
 replace hs := of_if_f hs h5
 refine CP.exit ?_
 refine NX.then_e ?_
 refine NX.then_e ?_
 refine NX.block_s ?_
 refine NX.then_n ?_
 refine CP.seqR ?_
 refine WP.stl 1 ?_
 refine WP.dn ?_
 refine NX.then_n ?_
 refine CP.ret ?_
 replace hs := Option.some.inj hs
 obtain rfl := hs
 exact NX.fin (v := .int .i64 (-1)) (Res.still (by kernel_rfl)) tot htL rfl
def F.punish_Find.c1 (x5 : Int) (x6 : Int) (q1 : Bool) : Option (Int × Int × Bool) := (some (x5, x6, q1))
def F.punish_Find.l1 (l1 : List S_notary_entry) (w1 : (List (S_notary_entry × Int))) (d1 : Arr Int 8) (d2 : Arr Int 8) (l2 : List S_punish_Thing) : Nat → Int → Option (Int × Int × Bool)
 | 0, _ => none
 | k + 1, x8 => (if decide (x8 < (l2.length : Int)) = true then (if (0 : Int) ≤ 0 ∧ 0 ≤ x8 ∧ x8 ≤ (l2.length : Int) then ((F.slices_IndexFunc_punish_Thing_punish_Thing (sliceI l2 0 x8) l1 w1 d1 d2 l2 x8).bind fun x11 => (if decide (x11 ≥ 0) = true then (F.punish_Find.c1 x11 x8 true) else (F.punish_Find.l1 l1 w1 d1 d2 l2 k (IntKind.i64.wrap (x8 + 1))))) else none) else (F.punish_Find.c1 0 0 false))
def F.punish_Find (l1 : List S_notary_entry) (w1 : (List (S_notary_entry × Int))) (d1 : Arr Int 8) (d2 : Arr Int 8) (l2 : List S_punish_Thing) : Option (Int × Int × Bool) := (F.punish_Find.l1 l1 w1 d1 d2 l2 fuel 0)
theorem P.punish_Find (g0 : GW) (m0 : Nat) (m1 : Nat) (l1 : List S_notary_entry) (w1 : (List (S_notary_entry × Int))) (d1 : Arr Int 8) (d2 : Arr Int 8) (l2 : List S_punish_Thing) (a1 : Option Addr) (n1 : Nat) (c1 : Nat) (a2 : Option Addr) (n2 : Nat) (c2 : Nat) (b1 : Nat) (b2 : Nat) (hR1 : RdS k_S_notary_entry g0 126 a1 n1 c1 l1) (hR2 : RdS k_S_punish_Thing g0 43 a2 n2 c2 l2) (hB1 : MapB g0 m1 b2 kv_S_notary_entry (Value.int .i64) w1) (hB2 : Box g0 m0 b1 121 [[.slice a1 n1 c1], [.map (some b2)]] [1, 1]) (hm1_0 : m1 ≠ m0) (hm0 : m0 ≠ 0) (hm1 : m1 ≠ 0) (o1 : Int) (o2 : Int) (o3 : Bool) (hs : F.punish_Find l1 w1 d1 d2 l2 = some (o1, o2, o3)) :
  Calls Try.prog 36 #[.iface 57 (.pointer (some ⟨b1, 0, none⟩)), AG [encA .u8 d1], AG [encA .u8 d2], .slice a2 n2 c2] g0.w (Ret NoM g0 fun v g => v = .tuple #[.int .i64 o1, .int .i64 o2, .bool o3]) := by
 refine calls_of (args := [.iface 57 (.pointer (some ⟨b1, 0, none⟩)), AG [encA .u8 d1], AG [encA .u8 d2], .slice a2 n2 c2]) Try.func36 rfl (m0 + m1 + 0) ?_
 intro t ht htL
 refine ⟨_, rfl, ?_⟩
 refine CP.refr 36 [(0, .iface 57 (.pointer (some ⟨b1, 0, none⟩))), (1, AG [encA .u8 d1]), (2, AG [encA .u8 d2]), (3, .slice a2 n2 c2)] (by kernel_rfl) (by kernel_rfl) ?_
 intro ds
 have tot : Step (fun l => NoM l ∨ t ≤ l) g0 g0 := Step.refl _ _
 unfold F.punish_Find at hs
 refine CP.seqR ?_
 refine WP.alloc (T := 131) (t + 1) [[.iface 57 (.pointer (some ⟨b1, 0, none⟩))]] [1] (by kernel_rfl) rfl ?_
 intro g1 b3 st1 hB3
 replace hB2 := hB2.mono st1 (fun x => x)
 replace hR1 := hR1.mono st1 (fun x => x)
 replace hB1 := hB1.mono st1 (fun x => x)
 replace hR2 := hR2.mono st1 (fun x => x)
 replace tot := tot.trans st1.pure
 refine WP.alloc (T := 37) (t + 2) [encA .u8 d1] [8] (by kernel_rfl) (by simp [len_encA]) ?_
 intro g2 b4 st2 hB4
 replace hB2 := hB2.mono st2 (fun x => x)
 replace hR1 := hR1.mono st2 (fun x => x)
 replace hB1 := hB1.mono st2 (fun x => x)
 replace hR2 := hR2.mono st2 (fun x => x)
 replace hB3 := hB3.mono st2 (fun x => x)
 replace tot := tot.trans st2.pure
 refine WP.alloc (T := 37) (t + 3) [encA .u8 d2] [8] (by kernel_rfl) (by simp [len_encA]) ?_
 intro g3 b5 st3 hB5
 replace hB2 := hB2.mono st3 (fun x => x)
 replace hR1 := hR1.mono st3 (fun x => x)
 replace hB1 := hB1.mono st3 (fun x => x)
 replace hR2 := hR2.mono st3 (fun x => x)
 replace hB3 := hB3.mono st3 (fun x => x)
 replace hB4 := hB4.mono st3 (fun x => x)
 replace tot := tot.trans st3.pure
 refine WP.alloc (T := 76) (t + 4) [[.slice a2 n2 c2]] [1] (by kernel_rfl) rfl ?_
 intro g4 b6 st4 hB6
 replace hB2 := hB2.mono st4 (fun x => x)
 replace hR1 := hR1.mono st4 (fun x => x)
 replace hB1 := hB1.mono st4 (fun x => x)
 replace hR2 := hR2.mono st4 (fun x => x)
 replace hB3 := hB3.mono st4 (fun x => x)
 replace hB4 := hB4.mono st4 (fun x => x)
 replace hB5 := hB5.mono st4 (fun x => x)
 replace tot := tot.trans st4.pure
 refine WP.stl 3 ?_
 refine WP.dn ?_
 refine NX.then_n ?_
 refine CP.scope ?_
 refine CP.seqR ?_
 refine WP.stl 3 ?_
 refine WP.dn ?_
 refine NX.then_n ?_
 refine CP.seq ?_
 refine CP.label ?_
 refine NX.then_n ?_
 refine CP.cut (fun tm g => ∃ (x5 : Int) (x6 : Int) (q1 : Bool), Fr 36 [(11, .int .i64 x5), (12, .int .i64 x6), (13, .bool q1)] tm ∧ Step (fun l => NoM l ∨ t ≤ l) g0 g ∧ (F.punish_Find.c1 x5 x6 q1) = some (o1, o2, o3)) ?_ ?_
 ·refine CP.seqR ?_
  refine WP.loadB (v := .slice a2 n2 c2) hB6 (by kernel_rfl) (by kernel_rfl) ?_
  refine WP.len (a := a2) (cp := c2) hR2.len (by kernel_rfl) ?_
  refine WP.stl 1 ?_
  refine WP.dn ?_
  refine NX.then_n ?_
  refine CP.refr 36 [(4, .pointer (some ⟨b3, 0, none⟩)), (5, .pointer (some ⟨b4, 0, none⟩)), (6, .pointer (some ⟨b5, 0, none⟩)), (7, .pointer (some ⟨b6, 0, none⟩)), (11, .int .i64 0), (12, .int .i64 0), (13, .bool false), (18, .int .i64 (l2.length : Int)), (19, .int .i64 0)] (by kernel_rfl) (by kernel_rfl) ?_
  clear ds
  intro ds
  refine CP.block ?_
  generalize fuel = k1 at hs
  refine CP.loop (fun k1 tm g => ∃ (x8 : Int), Fr 36 [(4, .pointer (some ⟨b3, 0, none⟩)), (5, .pointer (some ⟨b4, 0, none⟩)), (6, .pointer (some ⟨b5, 0, none⟩)), (7, .pointer (some ⟨b6, 0, none⟩)), (11, .int .i64 0), (12, .int .i64 0), (13, .bool false), (18, .int .i64 (l2.length : Int)), (19, .int .i64 x8)] tm ∧ Step (fun l => NoM l ∨ t ≤ l) g0 g ∧ Box g (t + 1) b3 131 [[.iface 57 (.pointer (some ⟨b1, 0, none⟩))]] [1] ∧ Box g m0 b1 121 [[.slice a1 n1 c1], [.map (some b2)]] [1, 1] ∧ RdS k_S_notary_entry g 126 a1 n1 c1 l1 ∧ MapB g m1 b2 kv_S_notary_entry (Value.int .i64) w1 ∧ Box g (t + 2) b4 37 [encA .u8 d1] [8] ∧ Box g (t + 3) b5 37 [encA .u8 d2] [8] ∧ Box g (t + 4) b6 76 [[.slice a2 n2 c2]] [1] ∧ RdS k_S_punish_Thing g 43 a2 n2 c2 l2 ∧ F.punish_Find.l1 l1 w1 d1 d2 l2 k1 x8 = some (o1, o2, o3)) k1 ?_ ?_ ?_
  ·exact ⟨0, ⟨by kernel_rfl, by kernel_rfl⟩, tot, hB3, hB2, hR1, hB1, hB4, hB5, hB6, hR2, hs⟩
  ·rintro tm g ⟨x8, hF, tot, hB3, hB2, hR1, hB1, hB4, hB5, hB6, hR2, hs⟩
   exact absurd hs (by simp [F.punish_Find.l1])
  clear tot hs hB3 hB2 hR1 hB1 hB4 hB5 hB6 hR2
  rintro k1 tm g ⟨x8, hF, tot, hB3, hB2, hR1, hB1, hB4, hB5, hB6, hR2, hs⟩
  clear ds
  obtain ⟨ds, rfl⟩ := hF.open
  clear hF
  unfold F.punish_Find.l1 at hs
  refine CP.seqR ?_
  refine WP.stl 1 ?_
  refine WP.dn ?_
  refine NX.then_n ?_
  refine CP.seq ?_
  refine CP.cond (b := decide (x8 < (l2.length : Int))) (by kernel_rfl) (fun h9 => ?_) (fun h9 => ?_)
  ·replace hs := of_if_t hs h9
   refine CP.skip ?_
   refine NX.then_n ?_
   refine CP.seq ?_
   refine CP.block ?_
   refine CP.seqR ?_
   refine WP.stl 1 ?_
   refine WP.alloc (T := 3) (t + 9) [[.int .i64 0]] [1] (by kernel_rfl) rfl ?_
   intro g17 b11 st17 hB15
   replace hB3 := hB3.mono st17 (fun x => x)
   replace hB2 := hB2.mono st17 (fun x => x)
   replace hR1 := hR1.mono st17 (fun x => x)
   replace hB1 := hB1.mono st17 (fun x => x)
   replace hB4 := hB4.mono st17 (fun x => x)
   replace hB5 := hB5.mono st17 (fun x => x)
   replace hB6 := hB6.mono st17 (fun x => x)
   replace hR2 := hR2.mono st17 (fun x => x)
   replace tot := tot.trans st17.pure
   refine WP.storeB (ty := 3) (off := 0) (v := .int .i64 x8) hB15 [[.int .i64 x8]] [1] (by kernel_rfl) (by kernel_rfl) rfl (by kernel_rfl) [[.int .i64 x8]] (by kernel_rfl) (.one rfl .nil) ?_
   intro g18 st18 hB16
   replace hB3 := hB3.mono st18 (WL.no1 (by omega))
   replace hB2 := hB2.mono st18 (WL.no1 (by omega))
   replace hR1 := hR1.mono st18 (WL.no1 (by omega))
   replace hB1 := hB1.mono st18 (WL.no1 (by omega))
   replace hB4 := hB4.mono st18 (WL.no1 (by omega))
   replace hB5 := hB5.mono st18 (WL.no1 (by omega))
   replace hB6 := hB6.mono st18 (WL.no1 (by omega))
   replace hR2 := hR2.mono st18 (WL.no1 (by omega))
   replace tot := tot.trans (st18.up1 (.inr (by omega)))
   clear hB15
   have hB15 := hB16
   clear hB16
   refine WP.dn ?_
   refine NX.then_n ?_
   refine CP.seqR ?_
   refine WP.stl 2 ?_
   refine WP.dn ?_
   refine NX.then_n ?_
   refine CP.seqR ?_
   refine WP.loadB (v := .slice a2 n2 c2) hB6 (by kernel_rfl) (by kernel_rfl) ?_
   refine WP.loadB (v := .int .i64 x8) hB15 (by kernel_rfl) (by kernel_rfl) ?_
   by_cases hc5 : (0 : Int) ≤ 0 ∧ 0 ≤ x8 ∧ x8 ≤ (l2.length : Int)
   case neg => rw [if_neg hc5] at hs; cases hs
   replace hs := of_if_p hs hc5
   refine WP.sliceR (lo := none) (hi := some (.int .i64 x8)) hR2 0 x8 (by kernel_rfl) (.inl ⟨rfl, rfl⟩) (.inr ⟨_, rfl⟩) hc5 ?_
   intro a7 c7 hR7
   refine WP.stl 1 ?_
   replace hs := Option.bind_eq_some_iff.1 hs
   obtain ⟨x11, hk5, hs⟩ := hs
   have hcal5 := P.slices_IndexFunc_punish_Thing_punish_Thing g18 (t + 1) m0 m1 (t + 2) (t + 3) (t + 4) (t + 9) (sliceI l2 0 x8) l1 w1 d1 d2 l2 x8 a7 (x8.toNat - (0 : Int).toNat) c7 a1 n1 c1 a2 n2 c2 b3 b1 b2 b4 b5 b6 b11 hR7 hR1 hR2 hB1 hB2 hB3 hB4 hB5 hB6 hB15 (by omega) (by omega) (by omega) (by omega) (by omega) (by omega) (by omega) (by omega) (by omega) (by omega) (by omega) (by omega) (by omega) (by omega) (by omega) (by omega) (by omega) (by omega) (by omega) (by omega) (by omega) (by omega) (by omega) (by omega) (by omega) (by omega) (by omega) (by omega) x11 hk5
   refine WP.callC hcal5 (by kernel_rfl) ?_
   rintro _ g19 st19 rfl
   replace hB3 := hB3.mono st19 (fun x => x)
   replace hB2 := hB2.mono st19 (fun x => x)
   replace hR1 := hR1.mono st19 (fun x => x)
   replace hB1 := hB1.mono st19 (fun x => x)
   replace hB4 := hB4.mono st19 (fun x => x)
   replace hB5 := hB5.mono st19 (fun x => x)
   replace hB6 := hB6.mono st19 (fun x => x)
   replace hR2 := hR2.mono st19 (fun x => x)
   replace hB15 := hB15.mono st19 (fun x => x)
   replace hR7 := hR7.mono st19 (fun x => x)
   replace tot := tot.trans st19.pure
   refine WP.stl 1 ?_
   refine WP.dn ?_
   refine NX.then_n ?_
   refine CP.seqR ?_
   refine WP.stl 2 ?_
   refine WP.dn ?_
   refine NX.then_n ?_
   refine CP.refr 36 [(4, .pointer (some ⟨b3, 0, none⟩)), (5, .pointer (some ⟨b4, 0, none⟩)), (6, .pointer (some ⟨b5, 0, none⟩)), (7, .pointer (some ⟨b6, 0, none⟩)), (11, .int .i64 0), (12, .int .i64 0), (13, .bool false), (14, .pointer (some ⟨b11, 0, none⟩)), (16, .int .i64 x11), (18, .int .i64 (l2.length : Int)), (19, .int .i64 x8), (29, .bool (decide (x11 ≥ 0)))] (by kernel_rfl) (by kernel_rfl) ?_
   clear ds
   intro ds
   refine CP.cond (b := decide (x11 ≥ 0)) (by kernel_rfl) (fun h10 => ?_) (fun h10 => ?_)
   ·replace hs := of_if_t hs h10
    refine CP.seq ?_
    refine CP.drawL (by kernel_rfl) [1] [[], [], [0], [0, 1, 2], [0, 1, 2, 3]] [⟨none, [], [], fun l g => Box g (t + 9) b11 3 [[.int .i64 x8]] [1]⟩, ⟨some 0, [], [0], fun l g => l.getD 0 undef = .int .i64 x8⟩] [[]] [] [0, 2, 4] [3] (by kernel_rfl) (by simp) (by simp) ⟨fun _ _ _ _ st h0 hl hj hB15 => (hB15.mono st (fun h => absurd (hl _ h) (by simp))), fun _ _ _ _ st h0 hl hj e0 => e0, tv⟩ ⟨hB15, tv, tv⟩ (by kernel_rfl) (fun vs => by kernel_rfl) ?_ ?_ ?_
    ·intro j hj
     have hq : j = 0 := by have h : j < 1 := hj; omega
     rcases hq with rfl
     ·intro vs gq stq hl hf
      obtain ⟨v0, rfl⟩ := len_k1 hl
      have e0 := (show v0 = .int .i64 x8 from hf _ (memI 1 rfl) (by kernel_rfl))
      subst e0
      show Option.isSome _ = true
      kernel_rfl
    ·intro j hj
     have hq : j = 0 := by have h : j < 1 := hj; omega
     rcases hq with rfl
     ·intro vs gq stq hl hf
      obtain ⟨v0, rfl⟩ := len_k1 hl
      have hB15 := (show Box gq (t + 9) b11 3 [[.int .i64 x8]] [1] from hf _ (memI 0 rfl) (by kernel_rfl))
      refine WP.loadB (v := .int .i64 x8) hB15 (by kernel_rfl) (by kernel_rfl) ?_
      refine WP.dn (Shown.ok (v := .int .i64 x8) (by kernel_rfl) (Step.refl _ _) ?_)
      exact ⟨tv, rfl, tv⟩
    intro vs g20 st20 hl hf
    obtain ⟨v0, rfl⟩ := len_k1 hl
    have e0 := (show v0 = .int .i64 x8 from hf _ (memI 1 rfl) (by kernel_rfl))
    subst e0
    replace tot := tot.trans st20.toNo.pure
    refine NX.then_n ?_
    refine CP.refr 36 [(11, .int .i64 x11), (12, .int .i64 x8), (13, .bool true)] (by kernel_rfl) (by kernel_rfl) ?_
    clear ds
    intro ds
    refine CP.exit ?_
    refine NX.block_o (by rfl) ?_
    refine NX.then_e ?_
    refine NX.then_e ?_
    refine NX.block_s ?_
    refine NX.post ?_
    exact ⟨x11, x8, true, ⟨by kernel_rfl, by kernel_rfl⟩, tot, hs⟩
   replace hs := of_if_f hs h10
   refine CP.skip ?_
   refine NX.block_n ?_
   refine NX.then_n ?_
   refine CP.region ?_
   refine WP.stl 2 ?_
   refine WP.dn ?_
   refine NX.post ?_
   exact ⟨(IntKind.i64.wrap (x8 + 1)), ⟨by kernel_rfl, by kernel_rfl⟩, tot, hB3, hB2, hR1, hB1, hB4, hB5, hB6, hR2, hs⟩
  replace hs := of_if_f hs h9
  refine CP.exit ?_
  refine NX.then_e ?_
  refine NX.then_e ?_
  refine NX.block_s ?_
  refine NX.post ?_
  exact ⟨0, 0, false, ⟨by kernel_rfl, by kernel_rfl⟩, tot, hs⟩
 clear tot hs hB3 hB2 hR1 hB1 hB4 hB5 hB6 hR2
 rintro tm g ⟨x5, x6, q1, hF, tot, hs⟩
 clear ds
 obtain ⟨ds, rfl⟩ := hF.open
 clear hF
 unfold F.punish_Find.c1 at hs
 refine CP.seqR ?_
 refine WP.stl 6 ?_
 refine WP.dn ?_
 refine NX.then_n ?_
 refine CP.ret ?_
 refine NX.scope_r ?_
 replace hs := Option.some.inj hs
 simp only [Prod.mk.injEq] at hs
 obtain ⟨rfl, rfl, rfl⟩ := hs
 exact NX.fin (v := .tuple #[.int .i64 x5, .int .i64 x6, .bool q1]) (Res.still (by kernel_rfl)) tot htL rfl
def N.punish_Thing_Place_0 : List (List Nat) := [[], [0], [], [2], [], [4], [0, 1], [0, 1, 2, 3, 6], [0, 1, 2, 3, 4, 5, 6, 7]]
def F.punish_Thing_Place (x1 : Int) (d1 : Arr Int 8) (x2 : Int) (l1 : List Int) (d2 : Arr Int 8) (x3 : Int) (d3 : Arr Int 8) (l2 : List Int) (l3 : List Int) : Option ((Arr Int 8) × Int × (Arr Int 8)) := ((F.punish_Thing_own x1 d1 x2 l1 d2 x3 d3 l2 l3).bind fun (d4, x4, d5, l4) => (some (d4, x4, d5)))
theorem P.punish_Thing_Place (g0 : GW) (x1 : Int) (d1 : Arr Int 8) (x2 : Int) (l1 : List Int) (d2 : Arr Int 8) (x3 : Int) (d3 : Arr Int 8) (l2 : List Int) (l3 : List Int) (a1 : Option Addr) (n1 : Nat) (c1 : Nat) (a2 : Option Addr) (n2 : Nat) (c2 : Nat) (a3 : Option Addr) (n3 : Nat) (c3 : Nat) (hR1 : RdS (Kd.int .u8) g0 5 a1 n1 c1 l1) (hR2 : RdS (Kd.int .u8) g0 5 a2 n2 c2 l2) (hR3 : RdS (Kd.int .u8) g0 5 a3 n3 c3 l3) (o1 : Arr Int 8) (o2 : Int) (o3 : Arr Int 8) (hs : F.punish_Thing_Place x1 d1 x2 l1 d2 x3 d3 l2 l3 = some (o1, o2, o3)) :
  Calls Try.prog 26 #[AG [[.int .i64 x1], encA .u8 d1, [.int .i64 x2], [.slice a1 n1 c1], encA .u8 d2, [.int .i64 x3], encA .u8 d3, [.slice a2 n2 c2], [.slice a3 n3 c3]]] g0.w (Ret NoM g0 fun v g => v = .tuple #[AG [encA .u8 o1], .int .i64 o2, AG [encA .u8 o3]]) := by
 refine calls_of (args := [AG [[.int .i64 x1], encA .u8 d1, [.int .i64 x2], [.slice a1 n1 c1], encA .u8 d2, [.int .i64 x3], encA .u8 d3, [.slice a2 n2 c2], [.slice a3 n3 c3]]]) Try.func26 rfl (0) ?_
 intro t ht htL
 refine ⟨_, rfl, ?_⟩
 refine CP.refr 14 [(0, AG [[.int .i64 x1], encA .u8 d1, [.int .i64 x2], [.slice a1 n1 c1], encA .u8 d2, [.int .i64 x3], encA .u8 d3, [.slice a2 n2 c2], [.slice a3 n3 c3]])] (by kernel_rfl) (by kernel_rfl) ?_
 intro ds
 have tot : Step (fun l => NoM l ∨ t ≤ l) g0 g0 := Step.refl _ _
 unfold F.punish_Thing_Place at hs
 refine CP.seqR ?_
 refine WP.alloc (T := 43) (t + 1) [[.int .i64 x1], encA .u8 d1, [.int .i64 x2], [.slice a1 n1 c1], encA .u8 d2, [.int .i64 x3], encA .u8 d3, [.slice a2 n2 c2], [.slice a3 n3 c3]] [1, 8, 1, 1, 8, 1, 8, 1, 1] (by kernel_rfl) (by simp [len_encA]) ?_
 intro g1 b1 st1 hB1
 replace hR1 := hR1.mono st1 (fun x => x)
 replace hR2 := hR2.mono st1 (fun x => x)
 replace hR3 := hR3.mono st1 (fun x => x)
 replace tot := tot.trans st1.pure
 refine WP.alloc (T := 37) (t + 2) [encA .u8 (zA 8)] [8] (by kernel_rfl) (by simp [len_encA]) ?_
 intro g2 b2 st2 hB2
 replace hR1 := hR1.mono st2 (fun x => x)
 replace hR2 := hR2.mono st2 (fun x => x)
 replace hR3 := hR3.mono st2 (fun x => x)
 replace hB1 := hB1.mono st2 (fun x => x)
 replace tot := tot.trans st2.pure
 refine WP.stl 1 ?_
 refine WP.alloc (T := 37) (t + 3) [encA .u8 (zA 8)] [8] (by kernel_rfl) (by simp [len_encA]) ?_
 intro g3 b3 st3 hB3
 replace hR1 := hR1.mono st3 (fun x => x)
 replace hR2 := hR2.mono st3 (fun x => x)
 replace hR3 := hR3.mono st3 (fun x => x)
 replace hB1 := hB1.mono st3 (fun x => x)
 replace hB2 := hB2.mono st3 (fun x => x)
 replace tot := tot.trans st3.pure
 refine WP.dn ?_
 refine NX.then_n ?_
 refine CP.seqR ?_
 refine WP.loadB (v := AG [[.int .i64 x1], encA .u8 d1, [.int .i64 x2], [.slice a1 n1 c1], encA .u8 d2, [.int .i64 x3], encA .u8 d3, [.slice a2 n2 c2], [.slice a3 n3 c3]]) hB1 (by kernel_rfl) (by kernel_rfl) ?_
 replace hs := Option.bind_eq_some_iff.1 hs
 obtain ⟨⟨d4, x4, d5, l4⟩, hk1, hs⟩ := hs
 dsimp only at hs
 have hcal1 := P.punish_Thing_own g3 x1 d1 x2 l1 d2 x3 d3 l2 l3 a1 n1 c1 a2 n2 c2 a3 n3 c3 hR1 hR2 hR3 d4 x4 d5 l4 hk1
 refine WP.callC hcal1 (by kernel_rfl) ?_
 rintro _ g4 st4 ⟨a4, n4, c4, rfl, hR4⟩
 replace hB1 := hB1.mono st4 (fun x => x)
 replace hR1 := hR1.mono st4 (fun x => x)
 replace hR2 := hR2.mono st4 (fun x => x)
 replace hR3 := hR3.mono st4 (fun x => x)
 replace hB2 := hB2.mono st4 (fun x => x)
 replace hB3 := hB3.mono st4 (fun x => x)
 replace tot := tot.trans st4.pure
 refine WP.alloc (T := 91) (t + 4) [encA .u8 (zA 8), [.int .i64 0], encA .u8 (zA 8), [.slice none 0 0]] [8, 1, 8, 1] (by kernel_rfl) (by simp [len_encA]) ?_
 intro g5 b4 st5 hB4
 replace hB1 := hB1.mono st5 (fun x => x)
 replace hR1 := hR1.mono st5 (fun x => x)
 replace hR2 := hR2.mono st5 (fun x => x)
 replace hR3 := hR3.mono st5 (fun x => x)
 replace hB2 := hB2.mono st5 (fun x => x)
 replace hB3 := hB3.mono st5 (fun x => x)
 replace hR4 := hR4.mono st5 (fun x => x)
 replace tot := tot.trans st5.pure
 refine WP.storeB (ty := 91) (off := 0) (v := AG [encA .u8 d4, [.int .i64 x4], encA .u8 d5, [.slice a4 n4 c4]]) hB4 [encA .u8 d4, [.int .i64 x4], encA .u8 d5, [.slice a4 n4 c4]] [8, 1, 8, 1] (by kernel_rfl) (by kernel_rfl) (by simp [len_encA]) (by kernel_rfl) [encA .u8 d4, [.int .i64 x4], encA .u8 d5, [.slice a4 n4 c4]] (by kernel_rfl) (.arr (.one rfl (.arr (.one rfl .nil)))) ?_
 intro g6 st6 hB5
 replace hB1 := hB1.mono st6 (WL.no1 (by omega))
 replace hR1 := hR1.mono st6 (WL.no1 (by omega))
 replace hR2 := hR2.mono st6 (WL.no1 (by omega))
 replace hR3 := hR3.mono st6 (WL.no1 (by omega))
 replace hB2 := hB2.mono st6 (WL.no1 (by omega))
 replace hB3 := hB3.mono st6 (WL.no1 (by omega))
 replace hR4 := hR4.mono st6 (WL.no1 (by omega))
 replace tot := tot.trans (st6.up1 (.inr (by omega)))
 clear hB4
 have hB4 := hB5
 clear hB5
 refine WP.dn ?_
 refine NX.then_n ?_
 refine CP.seq ?_
 refine CP.drawL (by kernel_rfl) [1, 3, 5, 6, 8] N.punish_Thing_Place_0 [⟨none, [0], [], fun l g => Box g (t + 2) b2 37 [encA .u8 (zA 8)] [8]⟩, ⟨none, [1], [], fun l g => Box g (t + 3) b3 37 [encA .u8 (zA 8)] [8]⟩, ⟨none, [], [], fun l g => Box g (t + 4) b4 91 [encA .u8 d4, [.int .i64 x4], encA .u8 d5, [.slice a4 n4 c4]] [8, 1, 8, 1]⟩, ⟨some 0, [], [0], fun l g => l.getD 0 undef = AG [encA .u8 d4]⟩, ⟨some 1, [], [1], fun l g => l.getD 0 undef = .int .i64 x4⟩, ⟨some 2, [], [2], fun l g => l.getD 0 undef = AG [encA .u8 d5]⟩, ⟨some 3, [0], [], fun l g => Box g (t + 2) b2 37 [encA .u8 d4] [8]⟩, ⟨some 4, [1], [], fun l g => Box g (t + 3) b3 37 [encA .u8 d5] [8]⟩] [[], [], [], [0], [1]] [(t + 2), (t + 3)] [0, 2, 4] [7] (by kernel_rfl) (by simp <;> omega) (by simp <;> omega) ⟨fun _ _ _ _ st h0 hl hj hB2 => (hB2.mono st (hj 0 (by simp) _ rfl)), fun _ _ _ _ st h0 hl hj hB3 => (hB3.mono st (hj 1 (by simp) _ rfl)), fun _ _ _ _ st h0 hl hj hB4 => (hB4.mono st (fun h => absurd (hl _ h) (by simp <;> omega))), fun _ _ _ _ st h0 hl hj e0 => e0, fun _ _ _ _ st h0 hl hj e1 => e1, fun _ _ _ _ st h0 hl hj e2 => e2, fun _ _ _ _ st h0 hl hj hB2 => (hB2.mono st (hj 0 (by simp) _ rfl)), fun _ _ _ _ st h0 hl hj hB3 => (hB3.mono st (hj 1 (by simp) _ rfl)), tv⟩ ⟨hB2, hB3, hB4, tv, tv, tv, tv, tv, tv⟩ (by kernel_rfl) (fun vs => by kernel_rfl) ?_ ?_ ?_
 ·intro j hj
  have hq : j = 0 := by have h : j < 1 := hj; omega
  rcases hq with rfl
  ·intro vs gq stq hl hf
   obtain ⟨v0, v1, v2, v3, v4, rfl⟩ := len_k5 hl
   have e1 := (show v1 = .int .i64 x4 from hf _ (memI 4 rfl) (by kernel_rfl))
   subst e1
   show Option.isSome _ = true
   kernel_rfl
 ·intro j hj
  have hq : j = 0 ∨ j = 1 ∨ j = 2 ∨ j = 3 ∨ j = 4 := by have h : j < 5 := hj; omega
  rcases hq with rfl | rfl | rfl | rfl | rfl
  ·intro vs gq stq hl hf
   obtain ⟨v0, v1, v2, v3, v4, rfl⟩ := len_k5 hl
   have hB4 := (show Box gq (t + 4) b4 91 [encA .u8 d4, [.int .i64 x4], encA .u8 d5, [.slice a4 n4 c4]] [8, 1, 8, 1] from hf _ (memI 2 rfl) (by kernel_rfl))
   refine WP.loadB (v := AG [encA .u8 d4]) hB4 (by kernel_rfl) (by kernel_rfl) ?_
   refine WP.dn (Shown.ok (v := AG [encA .u8 d4]) (by kernel_rfl) (Step.refl _ _) ?_)
   exact ⟨tv, tv, tv, rfl, tv, tv, tv, tv, tv⟩
  ·intro vs gq stq hl hf
   obtain ⟨v0, v1, v2, v3, v4, rfl⟩ := len_k5 hl
   have hB4 := (show Box gq (t + 4) b4 91 [encA .u8 d4, [.int .i64 x4], encA .u8 d5, [.slice a4 n4 c4]] [8, 1, 8, 1] from hf _ (memI 2 rfl) (by kernel_rfl))
   refine WP.loadB (v := .int .i64 x4) hB4 (by kernel_rfl) (by kernel_rfl) ?_
   refine WP.dn (Shown.ok (v := .int .i64 x4) (by kernel_rfl) (Step.refl _ _) ?_)
   exact ⟨tv, tv, tv, tv, rfl, tv, tv, tv, tv⟩
  ·intro vs gq stq hl hf
   obtain ⟨v0, v1, v2, v3, v4, rfl⟩ := len_k5 hl
   have hB4 := (show Box gq (t + 4) b4 91 [encA .u8 d4, [.int .i64 x4], encA .u8 d5, [.slice a4 n4 c4]] [8, 1, 8, 1] from hf _ (memI 2 rfl) (by kernel_rfl))
   refine WP.loadB (v := AG [encA .u8 d5]) hB4 (by kernel_rfl) (by kernel_rfl) ?_
   refine WP.dn (Shown.ok (v := AG [encA .u8 d5]) (by kernel_rfl) (Step.refl _ _) ?_)
   exact ⟨tv, tv, tv, tv, tv, rfl, tv, tv, tv⟩
  ·intro vs gq stq hl hf
   obtain ⟨v0, v1, v2, v3, v4, rfl⟩ := len_k5 hl
   have hB2 := (show Box gq (t + 2) b2 37 [encA .u8 (zA 8)] [8] from hf _ (memI 0 rfl) (by kernel_rfl))
   have e0 := (show v0 = AG [encA .u8 d4] from hf _ (memI 3 rfl) (by kernel_rfl))
   subst e0
   refine WP.storeB (ty := 37) (off := 0) (v := AG [encA .u8 d4]) hB2 [encA .u8 d4] [8] (by kernel_rfl) (by kernel_rfl) (by simp [len_encA]) (by kernel_rfl) [encA .u8 d4] (by kernel_rfl) (.arr .nil) ?_
   intro g7 st7 hB6
   refine WP.dn (Shown.o (v := undef) st7 ?_)
   exact ⟨tv, tv, tv, tv, tv, tv, hB6, tv, tv⟩
  ·intro vs gq stq hl hf
   obtain ⟨v0, v1, v2, v3, v4, rfl⟩ := len_k5 hl
   have hB3 := (show Box gq (t + 3) b3 37 [encA .u8 (zA 8)] [8] from hf _ (memI 1 rfl) (by kernel_rfl))
   have e2 := (show v2 = AG [encA .u8 d5] from hf _ (memI 5 rfl) (by kernel_rfl))
   subst e2
   refine WP.storeB (ty := 37) (off := 0) (v := AG [encA .u8 d5]) hB3 [encA .u8 d5] [8] (by kernel_rfl) (by kernel_rfl) (by simp [len_encA]) (by kernel_rfl) [encA .u8 d5] (by kernel_rfl) (.arr .nil) ?_
   intro g8 st8 hB7
   refine WP.dn (Shown.o (v := undef) st8 ?_)
   exact ⟨tv, tv, tv, tv, tv, tv, tv, hB7, tv⟩
 intro vs g9 st9 hl hf
 obtain ⟨v0, v1, v2, v3, v4, rfl⟩ := len_k5 hl
 have e1 := (show v1 = .int .i64 x4 from hf _ (memI 4 rfl) (by kernel_rfl))
 subst e1
 have hB2 := (show Box g9 (t + 2) b2 37 [encA .u8 d4] [8] from hf _ (memI 6 rfl) (by kernel_rfl))
 have hB3 := (show Box g9 (t + 3) b3 37 [encA .u8 d5] [8] from hf _ (memI 7 rfl) (by kernel_rfl))
 replace tot := tot.trans (st9.up2 (.inr (by omega)) (.inr (by omega)))
 refine NX.then_n ?_
 refine CP.refr 14 [(2, .pointer (some ⟨b2, 0, none⟩)), (3, .int .i64 x4), (4, .pointer (some ⟨b3, 0, none⟩))] (by kernel_rfl) (by kernel_rfl) ?_
 clear ds
 intro ds
 refine CP.ret ?_
 replace hs := Option.some.inj hs
 simp only [Prod.mk.injEq] at hs
 obtain ⟨rfl, rfl, rfl⟩ := hs
 exact NX.fin (v := .tuple #[AG [encA .u8 d4], .int .i64 x4, AG [encA .u8 d5]]) (Res.three rfl (RV.box (agg := true) (size := 8) (rs := [encA .u8 d4]) hB2 (by kernel_rfl) (by kernel_rfl) (by kernel_rfl) (by kernel_rfl)) (RV.tmp (by kernel_rfl)) (RV.box (agg := true) (size := 8) (rs := [encA .u8 d5]) hB3 (by kernel_rfl) (by kernel_rfl) (by kernel_rfl) (by kernel_rfl))) tot htL rfl
end Go.Proofs.Ytlnockimfgfcgaa
