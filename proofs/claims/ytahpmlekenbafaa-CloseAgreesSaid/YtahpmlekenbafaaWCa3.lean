/-
  Walks, written by program: each Go function computes the plain function of its name, in whatever world its arguments' facts hold.
-/
import Derived.Test.YtahpmlekenbafaaWCa2
namespace Go.Proofs.Ytahpmlekenbafaa
open Go.RowKit Go.Lab
attribute [local irreducible] WP CP NX wpList Code.wp Calls
set_option maxRecDepth 100000
set_option maxHeartbeats 4000000
set_option linter.unusedVariables false

def N.notary_Book_Verify_0 : List (List Nat) := [[], [0], [0, 1], [0, 1, 2], [], [], [4, 5], [0, 1, 2, 3, 4, 5, 6], [0, 1, 2, 3, 4, 5, 6, 7], [0, 1, 2, 3, 4, 5, 6, 7, 8], [0, 1, 2, 3, 4, 5, 6, 7, 8], [0, 1, 2, 3, 4, 5, 6, 7, 8, 9], [0, 1, 2, 3, 4, 5, 6, 7, 8, 9, 10, 11]]
def F.notary_Book_Verify.c1 (q1 : Bool) : Option (Bool) := (some q1)
def N.notary_Book_Verify_1 : List (List Nat) := [[], [0], [0, 1], [0, 1], [0, 1, 3], [0, 1, 3, 4], [0, 1, 3, 4, 5], [0, 1], [0, 1, 7], [0, 1, 7, 8], [0, 1, 7, 8, 9], [0, 1, 7, 8, 9, 10], [0, 1, 3, 4, 5, 6, 7, 8, 9, 10, 11], [0, 1, 2, 3, 4, 5, 6, 7, 8, 9, 10, 11, 12], [0, 1, 2, 3, 4, 5, 6, 7, 8, 9, 10, 11, 12, 13], [0, 1, 2, 3, 4, 5, 6, 7, 8, 9, 10, 11, 12, 13, 14]]
def F.notary_Book_Verify (l1 : List S_notary_entry) (w1 : (List (S_notary_entry × Int))) (d1 : Arr Int 8) (d2 : Arr Int 8) (l2 : List Int) : Option (Bool) := (if ((l2.length : Int) != 2) = true then (some false) else (if (mapGet eqk_S_notary_entry 0 w1 (⟨d1, d2⟩ : S_notary_entry)).2 = true then (if (0 : Int) ≤ 0 ∧ 0 < (l2.length : Int) then (if (0 : Int) ≤ 1 ∧ 1 < (l2.length : Int) then (F.notary_Book_Verify.c1 (((mapGet eqk_S_notary_entry 0 w1 (⟨d1, d2⟩ : S_notary_entry)).1) == (bitOr .i64 (IntKind.i64.wrap (getI l2 0)) (shV true .i64 (IntKind.i64.wrap (getI l2 1)) 8)))) else none) else none) else (F.notary_Book_Verify.c1 false)))
theorem P.notary_Book_Verify (g0 : GW) (m0 : Nat) (m1 : Nat) (l1 : List S_notary_entry) (w1 : (List (S_notary_entry × Int))) (d1 : Arr Int 8) (d2 : Arr Int 8) (l2 : List Int) (a1 : Option Addr) (n1 : Nat) (c1 : Nat) (a2 : Option Addr) (n2 : Nat) (c2 : Nat) (b1 : Nat) (b2 : Nat) (hR1 : RdS k_S_notary_entry g0 136 a1 n1 c1 l1) (hR2 : RdS (Kd.int .u8) g0 5 a2 n2 c2 l2) (hB1 : MapB g0 m1 b2 kv_S_notary_entry (Value.int .i64) w1) (hB2 : Box g0 m0 b1 91 [[.slice a1 n1 c1], [.map (some b2)]] [1, 1]) (hm1_0 : m1 ≠ m0) (hm0 : m0 ≠ 0) (hm1 : m1 ≠ 0) (o1 : Bool) (hs : F.notary_Book_Verify l1 w1 d1 d2 l2 = some o1) :
  Calls Try.prog 80 #[.pointer (some ⟨b1, 0, none⟩), AG [encA .u8 d1], AG [encA .u8 d2], .slice a2 n2 c2] g0.w (Ret NoM g0 fun v g => v = .bool o1) := by
 refine calls_of (args := [.pointer (some ⟨b1, 0, none⟩), AG [encA .u8 d1], AG [encA .u8 d2], .slice a2 n2 c2]) Try.func80 rfl (m0 + m1 + 0) ?_
 intro t ht htL
 refine ⟨_, rfl, ?_⟩
 refine CP.refr 44 [(0, .pointer (some ⟨b1, 0, none⟩)), (1, AG [encA .u8 d1]), (2, AG [encA .u8 d2]), (3, .slice a2 n2 c2)] (by kernel_rfl) (by kernel_rfl) ?_
 intro ds
 have tot : Step (fun l => NoM l ∨ t ≤ l) g0 g0 := Step.refl _ _
 unfold F.notary_Book_Verify at hs
 refine CP.seqR ?_
 refine WP.alloc (T := 47) (t + 1) [encA .u8 d1] [8] (by kernel_rfl) (by simp [len_encA]) ?_
 intro g1 b3 st1 hB3
 replace hB2 := hB2.mono st1 (fun x => x)
 replace hR1 := hR1.mono st1 (fun x => x)
 replace hB1 := hB1.mono st1 (fun x => x)
 replace hR2 := hR2.mono st1 (fun x => x)
 replace tot := tot.trans st1.pure
 refine WP.alloc (T := 47) (t + 2) [encA .u8 d2] [8] (by kernel_rfl) (by simp [len_encA]) ?_
 intro g2 b4 st2 hB4
 replace hB2 := hB2.mono st2 (fun x => x)
 replace hR1 := hR1.mono st2 (fun x => x)
 replace hB1 := hB1.mono st2 (fun x => x)
 replace hR2 := hR2.mono st2 (fun x => x)
 replace hB3 := hB3.mono st2 (fun x => x)
 replace tot := tot.trans st2.pure
 refine WP.stl 1 ?_
 refine WP.dn ?_
 refine NX.then_n ?_
 refine CP.seq ?_
 refine CP.seq ?_
 refine CP.region ?_
 refine WP.stl 4 ?_
 refine WP.len (a := a2) (cp := c2) hR2.len (by kernel_rfl) ?_
 refine WP.stl 2 ?_
 refine WP.dn ?_
 refine NX.then_n ?_
 refine CP.cond (b := ((l2.length : Int) != 2)) (by kernel_rfl) (fun h1 => ?_) (fun h1 => ?_)
 ·replace hs := of_if_t hs h1
  refine CP.seqR ?_
  refine WP.stl 1 ?_
  refine WP.dn ?_
  refine NX.then_n ?_
  refine CP.ret ?_
  refine NX.then_r ?_
  replace hs := Option.some.inj hs
  obtain rfl := hs
  exact NX.fin (v := .bool false) (Res.still (by kernel_rfl)) tot htL rfl
 replace hs := of_if_f hs h1
 refine CP.skip ?_
 refine NX.then_n ?_
 refine CP.seq ?_
 refine CP.drawL (by kernel_rfl) [3, 4, 5, 6, 7] N.notary_Book_Verify_0 [⟨none, [], [], fun l g => Box g m0 b1 91 [[.slice a1 n1 c1], [.map (some b2)]] [1, 1]⟩, ⟨none, [], [], fun l g => MapB g m1 b2 kv_S_notary_entry (Value.int .i64) w1⟩, ⟨none, [], [], fun l g => Box g (t + 1) b3 47 [encA .u8 d1] [8]⟩, ⟨none, [], [], fun l g => Box g (t + 2) b4 47 [encA .u8 d2] [8]⟩, ⟨some 0, [], [0], fun l g => l.getD 0 undef = .map (some b2)⟩, ⟨some 1, [], [1], fun l g => l.getD 0 undef = AG [encA .u8 d1]⟩, ⟨some 2, [], [2], fun l g => l.getD 0 undef = AG [encA .u8 d2]⟩, ⟨some 3, [], [3], fun l g => l.getD 0 undef = AG [encA .u8 d1, encA .u8 d2]⟩, ⟨some 4, [], [4], fun l g => l.getD 0 undef = .tuple #[.int .i64 ((mapGet eqk_S_notary_entry 0 w1 (⟨d1, d2⟩ : S_notary_entry)).1), .bool ((mapGet eqk_S_notary_entry 0 w1 (⟨d1, d2⟩ : S_notary_entry)).2)]⟩] [[], [], [], [], []] [] [0, 1, 2] [8, 9, 10, 11, 12] (by kernel_rfl) (by simp) (by simp) ⟨fun _ _ _ _ st h0 hl hj hB2 => (hB2.mono st (fun h => absurd (hl _ h) (by simp))), fun _ _ _ _ st h0 hl hj hB1 => (hB1.mono st (fun h => absurd (hl _ h) (by simp))), fun _ _ _ _ st h0 hl hj hB3 => (hB3.mono st (fun h => absurd (hl _ h) (by simp))), fun _ _ _ _ st h0 hl hj hB4 => (hB4.mono st (fun h => absurd (hl _ h) (by simp))), fun _ _ _ _ st h0 hl hj e0 => e0, fun _ _ _ _ st h0 hl hj e1 => e1, fun _ _ _ _ st h0 hl hj e2 => e2, fun _ _ _ _ st h0 hl hj e3 => e3, fun _ _ _ _ st h0 hl hj e4 => e4, tv⟩ ⟨hB2, hB1, hB3, hB4, tv, tv, tv, tv, tv, tv⟩ (by kernel_rfl) (fun vs => by kernel_rfl) ?_ ?_ ?_
 ·intro j hj
  have hq : j = 0 ∨ j = 1 ∨ j = 2 ∨ j = 3 ∨ j = 4 := by have h : j < 5 := hj; omega
  rcases hq with rfl | rfl | rfl | rfl | rfl
  ·intro vs gq stq hl hf
   obtain ⟨v0, v1, v2, v3, v4, rfl⟩ := len_k5 hl
   have e4 := (show v4 = .tuple #[.int .i64 ((mapGet eqk_S_notary_entry 0 w1 (⟨d1, d2⟩ : S_notary_entry)).1), .bool ((mapGet eqk_S_notary_entry 0 w1 (⟨d1, d2⟩ : S_notary_entry)).2)] from hf _ (memI 8 rfl) (by kernel_rfl))
   subst e4
   show Option.isSome _ = true
   kernel_rfl
  ·intro vs gq stq hl hf
   obtain ⟨v0, v1, v2, v3, v4, rfl⟩ := len_k5 hl
   have e4 := (show v4 = .tuple #[.int .i64 ((mapGet eqk_S_notary_entry 0 w1 (⟨d1, d2⟩ : S_notary_entry)).1), .bool ((mapGet eqk_S_notary_entry 0 w1 (⟨d1, d2⟩ : S_notary_entry)).2)] from hf _ (memI 8 rfl) (by kernel_rfl))
   subst e4
   show Option.isSome _ = true
   kernel_rfl
  ·intro vs gq stq hl hf
   obtain ⟨v0, v1, v2, v3, v4, rfl⟩ := len_k5 hl
   have e4 := (show v4 = .tuple #[.int .i64 ((mapGet eqk_S_notary_entry 0 w1 (⟨d1, d2⟩ : S_notary_entry)).1), .bool ((mapGet eqk_S_notary_entry 0 w1 (⟨d1, d2⟩ : S_notary_entry)).2)] from hf _ (memI 8 rfl) (by kernel_rfl))
   subst e4
   show Option.isSome _ = true
   kernel_rfl
  ·intro vs gq stq hl hf
   obtain ⟨v0, v1, v2, v3, v4, rfl⟩ := len_k5 hl
   have e4 := (show v4 = .tuple #[.int .i64 ((mapGet eqk_S_notary_entry 0 w1 (⟨d1, d2⟩ : S_notary_entry)).1), .bool ((mapGet eqk_S_notary_entry 0 w1 (⟨d1, d2⟩ : S_notary_entry)).2)] from hf _ (memI 8 rfl) (by kernel_rfl))
   subst e4
   show Option.isSome _ = true
   kernel_rfl
  ·intro vs gq stq hl hf
   obtain ⟨v0, v1, v2, v3, v4, rfl⟩ := len_k5 hl
   have e4 := (show v4 = .tuple #[.int .i64 ((mapGet eqk_S_notary_entry 0 w1 (⟨d1, d2⟩ : S_notary_entry)).1), .bool ((mapGet eqk_S_notary_entry 0 w1 (⟨d1, d2⟩ : S_notary_entry)).2)] from hf _ (memI 8 rfl) (by kernel_rfl))
   subst e4
   show Option.isSome _ = true
   kernel_rfl
 ·intro j hj
  have hq : j = 0 ∨ j = 1 ∨ j = 2 ∨ j = 3 ∨ j = 4 := by have h : j < 5 := hj; omega
  rcases hq with rfl | rfl | rfl | rfl | rfl
  ·intro vs gq stq hl hf
   obtain ⟨v0, v1, v2, v3, v4, rfl⟩ := len_k5 hl
   have hB2 := (show Box gq m0 b1 91 [[.slice a1 n1 c1], [.map (some b2)]] [1, 1] from hf _ (memI 0 rfl) (by kernel_rfl))
   refine WP.loadB (v := .map (some b2)) hB2 (by kernel_rfl) (by kernel_rfl) ?_
   refine WP.dn (Shown.ok (v := .map (some b2)) (by kernel_rfl) (Step.refl _ _) ?_)
   exact ⟨tv, tv, tv, tv, rfl, tv, tv, tv, tv, tv⟩
  ·intro vs gq stq hl hf
   obtain ⟨v0, v1, v2, v3, v4, rfl⟩ := len_k5 hl
   have hB3 := (show Box gq (t + 1) b3 47 [encA .u8 d1] [8] from hf _ (memI 2 rfl) (by kernel_rfl))
   refine WP.loadB (v := AG [encA .u8 d1]) hB3 (by kernel_rfl) (by kernel_rfl) ?_
   refine WP.dn (Shown.ok (v := AG [encA .u8 d1]) (by kernel_rfl) (Step.refl _ _) ?_)
   exact ⟨tv, tv, tv, tv, tv, rfl, tv, tv, tv, tv⟩
  ·intro vs gq stq hl hf
   obtain ⟨v0, v1, v2, v3, v4, rfl⟩ := len_k5 hl
   have hB4 := (show Box gq (t + 2) b4 47 [encA .u8 d2] [8] from hf _ (memI 3 rfl) (by kernel_rfl))
   refine WP.loadB (v := AG [encA .u8 d2]) hB4 (by kernel_rfl) (by kernel_rfl) ?_
   refine WP.dn (Shown.ok (v := AG [encA .u8 d2]) (by kernel_rfl) (Step.refl _ _) ?_)
   exact ⟨tv, tv, tv, tv, tv, tv, rfl, tv, tv, tv⟩
  ·intro vs gq stq hl hf
   obtain ⟨v0, v1, v2, v3, v4, rfl⟩ := len_k5 hl
   have e1 := (show v1 = AG [encA .u8 d1] from hf _ (memI 5 rfl) (by kernel_rfl))
   subst e1
   have e2 := (show v2 = AG [encA .u8 d2] from hf _ (memI 6 rfl) (by kernel_rfl))
   subst e2
   refine WP.buildS (places := #[(0, 8), (8, 8)]) (t := 136) [encA .u8 (zA 8), encA .u8 (zA 8)] [8, 8] (by kernel_rfl) (by kernel_rfl) (by simp [len_encA]) (by kernel_rfl) ((.cons (i := 0) (off := 0) (v := AG [encA .u8 d1]) (mid := [encA .u8 d1, encA .u8 (zA 8)]) [encA .u8 d1] [8] (by kernel_rfl) (by kernel_rfl) (by simp [len_encA]) (by kernel_rfl) (.cons (i := 1) (off := 8) (v := AG [encA .u8 d2]) (mid := [encA .u8 d1, encA .u8 d2]) [encA .u8 d2] [8] (by kernel_rfl) (by kernel_rfl) (by simp [len_encA]) (by kernel_rfl) .nil))) ?_
   refine WP.dn (Shown.ok (v := AG [encA .u8 d1, encA .u8 d2]) (by kernel_rfl) (Step.refl _ _) ?_)
   exact ⟨tv, tv, tv, tv, tv, tv, tv, rfl, tv, tv⟩
  ·intro vs gq stq hl hf
   obtain ⟨v0, v1, v2, v3, v4, rfl⟩ := len_k5 hl
   have hB1 := (show MapB gq m1 b2 kv_S_notary_entry (Value.int .i64) w1 from hf _ (memI 1 rfl) (by kernel_rfl))
   have e0 := (show v0 = .map (some b2) from hf _ (memI 4 rfl) (by kernel_rfl))
   subst e0
   have e3 := (show v3 = AG [encA .u8 d1, encA .u8 d2] from hf _ (memI 7 rfl) (by kernel_rfl))
   subst e3
   refine WP.mapGet (et := 3) (z := 0) (k := (⟨d1, d2⟩ : S_notary_entry)) hB1 keyOk_S_notary_entry (by kernel_rfl) (by kernel_rfl) ?_
   refine WP.dn (Shown.ok (v := .tuple #[.int .i64 ((mapGet eqk_S_notary_entry 0 w1 (⟨d1, d2⟩ : S_notary_entry)).1), .bool ((mapGet eqk_S_notary_entry 0 w1 (⟨d1, d2⟩ : S_notary_entry)).2)]) (by kernel_rfl) (Step.refl _ _) ?_)
   exact ⟨tv, tv, tv, tv, tv, tv, tv, tv, rfl, tv⟩
 intro vs g3 st3 hl hf
 obtain ⟨v0, v1, v2, v3, v4, rfl⟩ := len_k5 hl
 have e4 := (show v4 = .tuple #[.int .i64 ((mapGet eqk_S_notary_entry 0 w1 (⟨d1, d2⟩ : S_notary_entry)).1), .bool ((mapGet eqk_S_notary_entry 0 w1 (⟨d1, d2⟩ : S_notary_entry)).2)] from hf _ (memI 8 rfl) (by kernel_rfl))
 subst e4
 replace hR2 := hR2.mono st3.toNo (fun x => x)
 replace tot := tot.trans st3.toNo.pure
 refine NX.then_n ?_
 refine CP.refr 44 [(3, .slice a2 n2 c2), (9, .int .i64 ((mapGet eqk_S_notary_entry 0 w1 (⟨d1, d2⟩ : S_notary_entry)).1)), (10, .bool ((mapGet eqk_S_notary_entry 0 w1 (⟨d1, d2⟩ : S_notary_entry)).2))] (by kernel_rfl) (by kernel_rfl) ?_
 clear ds
 intro ds
 refine CP.cut (fun tm g => ∃ (q1 : Bool), Fr 44 [(8, .bool q1)] tm ∧ Step (fun l => NoM l ∨ t ≤ l) g0 g ∧ (F.notary_Book_Verify.c1 q1) = some o1) ?_ ?_
 ·refine bool_split (b := (mapGet eqk_S_notary_entry 0 w1 (⟨d1, d2⟩ : S_notary_entry)).2) (fun h3 => ?_) (fun h3 => ?_)
  ·replace hs := of_if_t hs h3
   by_cases hc3 : (0 : Int) ≤ 0 ∧ 0 < (l2.length : Int)
   case neg => rw [if_neg hc3] at hs; cases hs
   replace hs := of_if_p hs hc3
   by_cases hc4 : (0 : Int) ≤ 1 ∧ 1 < (l2.length : Int)
   case neg => rw [if_neg hc4] at hs; cases hs
   replace hs := of_if_p hs hc4
   obtain ⟨b7, u3, ha3⟩ := hR2.at hc3
   obtain ⟨b8, u4, ha4⟩ := hR2.at hc4
   refine CP.drawL (by kernel_rfl) [1, 4, 5, 8, 9] N.notary_Book_Verify_1 [⟨none, [], [], fun l g => RdS (Kd.int .u8) g 5 a2 n2 c2 l2⟩, ⟨some 0, [], [0], fun l g => l.getD 0 undef = .bool true⟩, ⟨some 1, [], [1], fun l g => l.getD 0 undef = .pointer (some ⟨b7, u3 + (0 : Int).toNat * 1, none⟩)⟩, ⟨some 2, [], [2], fun l g => l.getD 0 undef = .int .u8 (getI l2 0)⟩, ⟨some 3, [], [3], fun l g => l.getD 0 undef = .pointer (some ⟨b8, u4 + (1 : Int).toNat * 1, none⟩)⟩, ⟨some 4, [], [4], fun l g => l.getD 0 undef = .int .u8 (getI l2 1)⟩] [[], [], [], [], []] [] [0] [2, 3, 6, 7, 10, 11, 12, 13, 14, 15] (by kernel_rfl) (by simp) (by simp) ⟨fun _ _ _ _ st h0 hl hj hR2 => (RdS.mono (e := 5) hR2 st h0), fun _ _ _ _ st h0 hl hj e0 => e0, fun _ _ _ _ st h0 hl hj e1 => e1, fun _ _ _ _ st h0 hl hj e2 => e2, fun _ _ _ _ st h0 hl hj e3 => e3, fun _ _ _ _ st h0 hl hj e4 => e4, tv⟩ ⟨hR2, tv, tv, tv, tv, tv, tv⟩ (by kernel_rfl) (fun vs => by kernel_rfl) ?_ ?_ ?_
   ·intro j hj
    have hq : j = 0 ∨ j = 1 ∨ j = 2 ∨ j = 3 ∨ j = 4 ∨ j = 5 ∨ j = 6 ∨ j = 7 ∨ j = 8 ∨ j = 9 := by have h : j < 10 := hj; omega
    rcases hq with rfl | rfl | rfl | rfl | rfl | rfl | rfl | rfl | rfl | rfl
    ·intro vs gq stq hl hf
     obtain ⟨v0, v1, v2, v3, v4, rfl⟩ := len_k5 hl
     have e0 := (show v0 = .bool true from hf _ (memI 1 rfl) (by kernel_rfl))
     subst e0
     show Option.isSome _ = true
     kernel_rfl
    ·intro vs gq stq hl hf
     obtain ⟨v0, v1, v2, v3, v4, rfl⟩ := len_k5 hl
     have e0 := (show v0 = .bool true from hf _ (memI 1 rfl) (by kernel_rfl))
     subst e0
     show Option.isSome _ = true
     kernel_rfl
    ·intro vs gq stq hl hf
     obtain ⟨v0, v1, v2, v3, v4, rfl⟩ := len_k5 hl
     have e0 := (show v0 = .bool true from hf _ (memI 1 rfl) (by kernel_rfl))
     subst e0
     have e2 := (show v2 = .int .u8 (getI l2 0) from hf _ (memI 3 rfl) (by kernel_rfl))
     subst e2
     show Option.isSome _ = true
     kernel_rfl
    ·intro vs gq stq hl hf
     obtain ⟨v0, v1, v2, v3, v4, rfl⟩ := len_k5 hl
     have e0 := (show v0 = .bool true from hf _ (memI 1 rfl) (by kernel_rfl))
     subst e0
     show Option.isSome _ = true
     kernel_rfl
    ·intro vs gq stq hl hf
     obtain ⟨v0, v1, v2, v3, v4, rfl⟩ := len_k5 hl
     have e0 := (show v0 = .bool true from hf _ (memI 1 rfl) (by kernel_rfl))
     subst e0
     have e4 := (show v4 = .int .u8 (getI l2 1) from hf _ (memI 5 rfl) (by kernel_rfl))
     subst e4
     show Option.isSome _ = true
     kernel_rfl
    ·intro vs gq stq hl hf
     obtain ⟨v0, v1, v2, v3, v4, rfl⟩ := len_k5 hl
     have e0 := (show v0 = .bool true from hf _ (memI 1 rfl) (by kernel_rfl))
     subst e0
     have e4 := (show v4 = .int .u8 (getI l2 1) from hf _ (memI 5 rfl) (by kernel_rfl))
     subst e4
     show Option.isSome _ = true
     kernel_rfl
    ·intro vs gq stq hl hf
     obtain ⟨v0, v1, v2, v3, v4, rfl⟩ := len_k5 hl
     have e0 := (show v0 = .bool true from hf _ (memI 1 rfl) (by kernel_rfl))
     subst e0
     have e2 := (show v2 = .int .u8 (getI l2 0) from hf _ (memI 3 rfl) (by kernel_rfl))
     subst e2
     have e4 := (show v4 = .int .u8 (getI l2 1) from hf _ (memI 5 rfl) (by kernel_rfl))
     subst e4
     show Option.isSome _ = true
     kernel_rfl
    ·intro vs gq stq hl hf
     obtain ⟨v0, v1, v2, v3, v4, rfl⟩ := len_k5 hl
     have e0 := (show v0 = .bool true from hf _ (memI 1 rfl) (by kernel_rfl))
     subst e0
     have e2 := (show v2 = .int .u8 (getI l2 0) from hf _ (memI 3 rfl) (by kernel_rfl))
     subst e2
     have e4 := (show v4 = .int .u8 (getI l2 1) from hf _ (memI 5 rfl) (by kernel_rfl))
     subst e4
     show Option.isSome _ = true
     kernel_rfl
    ·intro vs gq stq hl hf
     obtain ⟨v0, v1, v2, v3, v4, rfl⟩ := len_k5 hl
     have e0 := (show v0 = .bool true from hf _ (memI 1 rfl) (by kernel_rfl))
     subst e0
     have e2 := (show v2 = .int .u8 (getI l2 0) from hf _ (memI 3 rfl) (by kernel_rfl))
     subst e2
     have e4 := (show v4 = .int .u8 (getI l2 1) from hf _ (memI 5 rfl) (by kernel_rfl))
     subst e4
     show Option.isSome _ = true
     kernel_rfl
    ·intro vs gq stq hl hf
     obtain ⟨v0, v1, v2, v3, v4, rfl⟩ := len_k5 hl
     have e0 := (show v0 = .bool true from hf _ (memI 1 rfl) (by kernel_rfl))
     subst e0
     have e2 := (show v2 = .int .u8 (getI l2 0) from hf _ (memI 3 rfl) (by kernel_rfl))
     subst e2
     have e4 := (show v4 = .int .u8 (getI l2 1) from hf _ (memI 5 rfl) (by kernel_rfl))
     subst e4
     show Option.isSome _ = true
     kernel_rfl
   ·intro j hj
    have hq : j = 0 ∨ j = 1 ∨ j = 2 ∨ j = 3 ∨ j = 4 := by have h : j < 5 := hj; omega
    rcases hq with rfl | rfl | rfl | rfl | rfl
    ·intro vs gq stq hl hf
     obtain ⟨v0, v1, v2, v3, v4, rfl⟩ := len_k5 hl
     refine WP.stl 1 ?_
     refine WP.dn (Shown.ok (v := .bool ((mapGet eqk_S_notary_entry 0 w1 (⟨d1, d2⟩ : S_notary_entry)).2)) (by kernel_rfl) (Step.refl _ _) ?_)
     exact ⟨tv, congrArg Value.bool h3, tv, tv, tv, tv, tv⟩
    ·intro vs gq stq hl hf
     obtain ⟨v0, v1, v2, v3, v4, rfl⟩ := len_k5 hl
     have hR2 := (show RdS (Kd.int .u8) gq 5 a2 n2 c2 l2 from hf _ (memI 0 rfl) (by kernel_rfl))
     have e0 := (show v0 = .bool true from hf _ (memI 1 rfl) (by kernel_rfl))
     subst e0
     refine WP.indexA (t := 74) (e := 5) (sz := 1) (cap := c2) (k := .i64) (i := 0) hR2.len ha3 (by kernel_rfl) (by kernel_rfl) hc3 ?_
     refine WP.dn (Shown.ok (v := .pointer (some ⟨b7, u3 + (0 : Int).toNat * 1, none⟩)) (by kernel_rfl) (Step.refl _ _) ?_)
     exact ⟨tv, tv, rfl, tv, tv, tv, tv⟩
    ·intro vs gq stq hl hf
     obtain ⟨v0, v1, v2, v3, v4, rfl⟩ := len_k5 hl
     have hR2 := (show RdS (Kd.int .u8) gq 5 a2 n2 c2 l2 from hf _ (memI 0 rfl) (by kernel_rfl))
     have e0 := (show v0 = .bool true from hf _ (memI 1 rfl) (by kernel_rfl))
     subst e0
     have e1 := (show v1 = .pointer (some ⟨b7, u3 + (0 : Int).toNat * 1, none⟩) from hf _ (memI 2 rfl) (by kernel_rfl))
     subst e1
     obtain ⟨cs3, hcR3, hcV3⟩ := hR2.src.view (getI_some hc3) ha3
     replace hcR3 := Kd.o_int hcR3
     refine WP.loadV [[.int .u8 (getI l2 0)]] [1] hcV3 hcR3 rfl (f := 0) (ty := 5) (agg := false) (size := 1) (rs := [[.int .u8 (getI l2 0)]]) (v := .int .u8 (getI l2 0)) (by kernel_rfl) (by kernel_rfl) (by kernel_rfl) (by kernel_rfl) ?_
     refine WP.dn (Shown.ok (v := .int .u8 (getI l2 0)) (by kernel_rfl) (Step.refl _ _) ?_)
     exact ⟨tv, tv, tv, rfl, tv, tv, tv⟩
    ·intro vs gq stq hl hf
     obtain ⟨v0, v1, v2, v3, v4, rfl⟩ := len_k5 hl
     have hR2 := (show RdS (Kd.int .u8) gq 5 a2 n2 c2 l2 from hf _ (memI 0 rfl) (by kernel_rfl))
     have e0 := (show v0 = .bool true from hf _ (memI 1 rfl) (by kernel_rfl))
     subst e0
     refine WP.indexA (t := 74) (e := 5) (sz := 1) (cap := c2) (k := .i64) (i := 1) hR2.len ha4 (by kernel_rfl) (by kernel_rfl) hc4 ?_
     refine WP.dn (Shown.ok (v := .pointer (some ⟨b8, u4 + (1 : Int).toNat * 1, none⟩)) (by kernel_rfl) (Step.refl _ _) ?_)
     exact ⟨tv, tv, tv, tv, rfl, tv, tv⟩
    ·intro vs gq stq hl hf
     obtain ⟨v0, v1, v2, v3, v4, rfl⟩ := len_k5 hl
     have hR2 := (show RdS (Kd.int .u8) gq 5 a2 n2 c2 l2 from hf _ (memI 0 rfl) (by kernel_rfl))
     have e0 := (show v0 = .bool true from hf _ (memI 1 rfl) (by kernel_rfl))
     subst e0
     have e3 := (show v3 = .pointer (some ⟨b8, u4 + (1 : Int).toNat * 1, none⟩) from hf _ (memI 4 rfl) (by kernel_rfl))
     subst e3
     obtain ⟨cs4, hcR4, hcV4⟩ := hR2.src.view (getI_some hc4) ha4
     replace hcR4 := Kd.o_int hcR4
     refine WP.loadV [[.int .u8 (getI l2 1)]] [1] hcV4 hcR4 rfl (f := 0) (ty := 5) (agg := false) (size := 1) (rs := [[.int .u8 (getI l2 1)]]) (v := .int .u8 (getI l2 1)) (by kernel_rfl) (by kernel_rfl) (by kernel_rfl) (by kernel_rfl) ?_
     refine WP.dn (Shown.ok (v := .int .u8 (getI l2 1)) (by kernel_rfl) (Step.refl _ _) ?_)
     exact ⟨tv, tv, tv, tv, tv, rfl, tv⟩
   intro vs g4 st4 hl hf
   obtain ⟨v0, v1, v2, v3, v4, rfl⟩ := len_k5 hl
   have e0 := (show v0 = .bool true from hf _ (memI 1 rfl) (by kernel_rfl))
   subst e0
   have e2 := (show v2 = .int .u8 (getI l2 0) from hf _ (memI 3 rfl) (by kernel_rfl))
   subst e2
   have e4 := (show v4 = .int .u8 (getI l2 1) from hf _ (memI 5 rfl) (by kernel_rfl))
   subst e4
   replace tot := tot.trans st4.toNo.pure
   refine NX.post ?_
   exact ⟨(((mapGet eqk_S_notary_entry 0 w1 (⟨d1, d2⟩ : S_notary_entry)).1) == (bitOr .i64 (IntKind.i64.wrap (getI l2 0)) (shV true .i64 (IntKind.i64.wrap (getI l2 1)) 8))), ⟨by kernel_rfl, by kernel_rfl⟩, tot, hs⟩
  replace hs := of_if_f hs h3
  refine CP.drawL (by kernel_rfl) [1] N.notary_Book_Verify_1 [⟨some 0, [], [0], fun l g => l.getD 0 undef = .bool false⟩] [[]] [] [0] [2, 3, 4, 5, 6, 7, 8, 9, 10, 11, 12, 13, 14, 15] (by kernel_rfl) (by simp) (by simp) ⟨fun _ _ _ _ st h0 hl hj e0 => e0, tv⟩ ⟨tv, tv⟩ (by kernel_rfl) (fun vs => by kernel_rfl) ?_ ?_ ?_
  ·intro j hj
   have hq : j = 0 ∨ j = 1 ∨ j = 2 ∨ j = 3 ∨ j = 4 ∨ j = 5 ∨ j = 6 ∨ j = 7 ∨ j = 8 ∨ j = 9 ∨ j = 10 ∨ j = 11 ∨ j = 12 ∨ j = 13 := by have h : j < 14 := hj; omega
   rcases hq with rfl | rfl | rfl | rfl | rfl | rfl | rfl | rfl | rfl | rfl | rfl | rfl | rfl | rfl
   ·intro vs gq stq hl hf
    obtain ⟨v0, rfl⟩ := len_k1 hl
    have e0 := (show v0 = .bool false from hf _ (memI 0 rfl) (by kernel_rfl))
    subst e0
    show Option.isSome _ = true
    kernel_rfl
   ·intro vs gq stq hl hf
    obtain ⟨v0, rfl⟩ := len_k1 hl
    have e0 := (show v0 = .bool false from hf _ (memI 0 rfl) (by kernel_rfl))
    subst e0
    show Option.isSome _ = true
    kernel_rfl
   ·intro vs gq stq hl hf
    obtain ⟨v0, rfl⟩ := len_k1 hl
    have e0 := (show v0 = .bool false from hf _ (memI 0 rfl) (by kernel_rfl))
    subst e0
    show Option.isSome _ = true
    kernel_rfl
   ·intro vs gq stq hl hf
    obtain ⟨v0, rfl⟩ := len_k1 hl
    have e0 := (show v0 = .bool false from hf _ (memI 0 rfl) (by kernel_rfl))
    subst e0
    show Option.isSome _ = true
    kernel_rfl
   ·intro vs gq stq hl hf
    obtain ⟨v0, rfl⟩ := len_k1 hl
    have e0 := (show v0 = .bool false from hf _ (memI 0 rfl) (by kernel_rfl))
    subst e0
    show Option.isSome _ = true
    kernel_rfl
   ·intro vs gq stq hl hf
    obtain ⟨v0, rfl⟩ := len_k1 hl
    have e0 := (show v0 = .bool false from hf _ (memI 0 rfl) (by kernel_rfl))
    subst e0
    show Option.isSome _ = true
    kernel_rfl
   ·intro vs gq stq hl hf
    obtain ⟨v0, rfl⟩ := len_k1 hl
    have e0 := (show v0 = .bool false from hf _ (memI 0 rfl) (by kernel_rfl))
    subst e0
    show Option.isSome _ = true
    kernel_rfl
   ·intro vs gq stq hl hf
    obtain ⟨v0, rfl⟩ := len_k1 hl
    have e0 := (show v0 = .bool false from hf _ (memI 0 rfl) (by kernel_rfl))
    subst e0
    show Option.isSome _ = true
    kernel_rfl
   ·intro vs gq stq hl hf
    obtain ⟨v0, rfl⟩ := len_k1 hl
    have e0 := (show v0 = .bool false from hf _ (memI 0 rfl) (by kernel_rfl))
    subst e0
    show Option.isSome _ = true
    kernel_rfl
   ·intro vs gq stq hl hf
    obtain ⟨v0, rfl⟩ := len_k1 hl
    have e0 := (show v0 = .bool false from hf _ (memI 0 rfl) (by kernel_rfl))
    subst e0
    show Option.isSome _ = true
    kernel_rfl
   ·intro vs gq stq hl hf
    obtain ⟨v0, rfl⟩ := len_k1 hl
    have e0 := (show v0 = .bool false from hf _ (memI 0 rfl) (by kernel_rfl))
    subst e0
    show Option.isSome _ = true
    kernel_rfl
   ·intro vs gq stq hl hf
    obtain ⟨v0, rfl⟩ := len_k1 hl
    have e0 := (show v0 = .bool false from hf _ (memI 0 rfl) (by kernel_rfl))
    subst e0
    show Option.isSome _ = true
    kernel_rfl
   ·intro vs gq stq hl hf
    obtain ⟨v0, rfl⟩ := len_k1 hl
    have e0 := (show v0 = .bool false from hf _ (memI 0 rfl) (by kernel_rfl))
    subst e0
    show Option.isSome _ = true
    kernel_rfl
   ·intro vs gq stq hl hf
    obtain ⟨v0, rfl⟩ := len_k1 hl
    have e0 := (show v0 = .bool false from hf _ (memI 0 rfl) (by kernel_rfl))
    subst e0
    show Option.isSome _ = true
    kernel_rfl
  ·intro j hj
   have hq : j = 0 := by have h : j < 1 := hj; omega
   rcases hq with rfl
   ·intro vs gq stq hl hf
    obtain ⟨v0, rfl⟩ := len_k1 hl
    refine WP.stl 1 ?_
    refine WP.dn (Shown.ok (v := .bool ((mapGet eqk_S_notary_entry 0 w1 (⟨d1, d2⟩ : S_notary_entry)).2)) (by kernel_rfl) (Step.refl _ _) ?_)
    exact ⟨congrArg Value.bool h3, tv⟩
  intro vs g5 st5 hl hf
  obtain ⟨v0, rfl⟩ := len_k1 hl
  have e0 := (show v0 = .bool false from hf _ (memI 0 rfl) (by kernel_rfl))
  subst e0
  replace tot := tot.trans st5.toNo.pure
  refine NX.post ?_
  exact ⟨false, ⟨by kernel_rfl, by kernel_rfl⟩, tot, hs⟩
 clear tot hs hR2
 rintro tm g ⟨q1, hF, tot, hs⟩
 clear ds
 obtain ⟨ds, rfl⟩ := hF.open
 clear hF
 unfold F.notary_Book_Verify.c1 at hs
 refine CP.ret ?_
 replace hs := Option.some.inj hs
 obtain rfl := hs
 exact NX.fin (v := .bool q1) (Res.still (by kernel_rfl)) tot htL rfl
def F.notary_signed.c1 (q2 : Bool) : Option (Bool) := (some q2)
def N.notary_signed_0 : List (List Nat) := [[], [0], [0, 1], [0, 1, 2], [0, 1, 2], [0, 1, 2, 4], [0, 1, 2, 3, 4, 5], [0, 1, 2, 3, 4, 5, 6], [0, 1, 2, 3, 4, 5, 6, 7], [0, 1, 2, 3, 4, 5, 6, 7, 8], [0, 1, 2, 3, 4, 5, 6, 7, 8], [0, 1, 2, 3, 4, 5, 6, 7, 8], [0, 1, 2, 3, 4, 5, 6, 7, 8], [0, 1, 2, 3, 4, 5, 6, 7, 8], [0, 1, 2, 3, 4, 5, 6, 7, 8, 12, 13], [0, 1, 2, 3, 4, 5, 6, 7, 8, 12, 13, 14], [0, 1, 2, 3, 4, 5, 6, 7, 8, 9], [0, 1, 2, 3, 4, 5, 6, 7, 8, 9, 16], [0, 1, 2, 3, 4, 5, 6, 7, 8, 9, 16, 17], [0, 1, 2, 3, 4, 5, 6, 7, 8, 9, 10, 11, 12, 13, 14, 15, 16, 17, 18], [0, 1, 2, 3, 4, 5, 6, 7, 8, 9, 10, 11, 12, 13, 14, 15, 16, 17, 18, 19], [0, 1, 2, 3, 4, 5, 6, 7, 8, 9, 10, 11, 12, 13, 14, 15, 16, 17, 18, 19, 20]]
def F.notary_signed (l1 : List S_notary_entry) (w1 : (List (S_notary_entry × Int))) (d1 : Arr Int 8) (d2 : Arr Int 8) (l2 : List (List Int)) (x1 : Int) : Option (Bool) := (if decide (x1 < (l2.length : Int)) = true then (if (0 : Int) ≤ x1 ∧ x1 < (l2.length : Int) then ((F.notary_Book_Verify l1 w1 d1 d2 (getI l2 x1)).bind fun q3 => (F.notary_signed.c1 q3)) else none) else (F.notary_signed.c1 false))
theorem P.notary_signed (g0 : GW) (m0 : Nat) (m1 : Nat) (l1 : List S_notary_entry) (w1 : (List (S_notary_entry × Int))) (d1 : Arr Int 8) (d2 : Arr Int 8) (l2 : List (List Int)) (x1 : Int) (a1 : Option Addr) (n1 : Nat) (c1 : Nat) (a2 : Option Addr) (n2 : Nat) (c2 : Nat) (b1 : Nat) (b2 : Nat) (hR1 : RdS k_S_notary_entry g0 136 a1 n1 c1 l1) (hR2 : RdS (Kd.slice 5 (Kd.int .u8)) g0 74 a2 n2 c2 l2) (hB1 : MapB g0 m1 b2 kv_S_notary_entry (Value.int .i64) w1) (hB2 : Box g0 m0 b1 91 [[.slice a1 n1 c1], [.map (some b2)]] [1, 1]) (hm1_0 : m1 ≠ m0) (hm0 : m0 ≠ 0) (hm1 : m1 ≠ 0) (o1 : Bool) (hs : F.notary_signed l1 w1 d1 d2 l2 x1 = some o1) :
  Calls Try.prog 55 #[.iface 50 (.pointer (some ⟨b1, 0, none⟩)), AG [encA .u8 d1], AG [encA .u8 d2], .slice a2 n2 c2, .int .i64 x1] g0.w (Ret NoM g0 fun v g => v = .bool o1) := by
 refine calls_of (args := [.iface 50 (.pointer (some ⟨b1, 0, none⟩)), AG [encA .u8 d1], AG [encA .u8 d2], .slice a2 n2 c2, .int .i64 x1]) Try.func55 rfl (m0 + m1 + 0) ?_
 intro t ht htL
 refine ⟨_, rfl, ?_⟩
 refine CP.refr 32 [(0, .iface 50 (.pointer (some ⟨b1, 0, none⟩))), (1, AG [encA .u8 d1]), (2, AG [encA .u8 d2]), (3, .slice a2 n2 c2), (4, .int .i64 x1)] (by kernel_rfl) (by kernel_rfl) ?_
 intro ds
 have tot : Step (fun l => NoM l ∨ t ≤ l) g0 g0 := Step.refl _ _
 unfold F.notary_signed at hs
 refine CP.seqR ?_
 refine WP.alloc (T := 47) (t + 1) [encA .u8 d1] [8] (by kernel_rfl) (by simp [len_encA]) ?_
 intro g1 b3 st1 hB3
 replace hB2 := hB2.mono st1 (fun x => x)
 replace hR1 := hR1.mono st1 (fun x => x)
 replace hB1 := hB1.mono st1 (fun x => x)
 replace hR2 := hR2.mono st1 (fun x => x)
 replace tot := tot.trans st1.pure
 refine WP.alloc (T := 47) (t + 2) [encA .u8 d2] [8] (by kernel_rfl) (by simp [len_encA]) ?_
 intro g2 b4 st2 hB4
 replace hB2 := hB2.mono st2 (fun x => x)
 replace hR1 := hR1.mono st2 (fun x => x)
 replace hB1 := hB1.mono st2 (fun x => x)
 replace hR2 := hR2.mono st2 (fun x => x)
 replace hB3 := hB3.mono st2 (fun x => x)
 replace tot := tot.trans st2.pure
 refine WP.stl 1 ?_
 refine WP.dn ?_
 refine NX.then_n ?_
 refine CP.cut (fun tm g => ∃ (q2 : Bool), Fr 32 [(10, .bool q2)] tm ∧ Step (fun l => NoM l ∨ t ≤ l) g0 g ∧ (F.notary_signed.c1 q2) = some o1) ?_ ?_
 ·refine bool_split (b := decide (x1 < (l2.length : Int))) (fun h2 => ?_) (fun h2 => ?_)
  ·replace hs := of_if_t hs h2
   by_cases hc2 : (0 : Int) ≤ x1 ∧ x1 < (l2.length : Int)
   case neg => rw [if_neg hc2] at hs; cases hs
   replace hs := of_if_p hs hc2
   replace hs := Option.bind_eq_some_iff.1 hs
   obtain ⟨q3, hk2, hs⟩ := hs
   obtain ⟨b6, u2, ha2⟩ := hR2.at hc2
   refine CP.drawL (by kernel_rfl) [5, 8, 10, 11, 14, 15, 19] N.notary_signed_0 [⟨none, [], [], fun l g => Box g m0 b1 91 [[.slice a1 n1 c1], [.map (some b2)]] [1, 1]⟩, ⟨none, [], [], fun l g => RdS k_S_notary_entry g 136 a1 n1 c1 l1⟩, ⟨none, [], [], fun l g => MapB g m1 b2 kv_S_notary_entry (Value.int .i64) w1⟩, ⟨none, [], [], fun l g => RdS (Kd.slice 5 (Kd.int .u8)) g 74 a2 n2 c2 l2⟩, ⟨none, [], [], fun l g => Box g (t + 1) b3 47 [encA .u8 d1] [8]⟩, ⟨none, [], [], fun l g => Box g (t + 2) b4 47 [encA .u8 d2] [8]⟩, ⟨some 0, [], [0], fun l g => l.getD 0 undef = .int .i64 (l2.length : Int)⟩, ⟨some 1, [], [1], fun l g => l.getD 0 undef = .bool true⟩, ⟨some 2, [], [2], fun l g => l.getD 0 undef = AG [encA .u8 d1]⟩, ⟨some 3, [], [3], fun l g => l.getD 0 undef = AG [encA .u8 d2]⟩, ⟨some 4, [], [4], fun l g => l.getD 0 undef = .pointer (some ⟨b6, u2 + x1.toNat * 1, none⟩)⟩, ⟨some 5, [], [5], fun l g => ∃ (a4 : Option Addr) (c4 : Nat), l.getD 0 undef = .slice a4 ((getI l2 x1).length) c4 ∧ RdS (Kd.int .u8) g 5 a4 ((getI l2 x1).length) c4 (getI l2 x1)⟩, ⟨some 6, [], [6], fun l g => l.getD 0 undef = .bool q3⟩] [[], [], [], [], [], [], []] [] [0, 1, 2, 3, 4] [6, 7, 9, 12, 13, 16, 17, 18, 20, 21] (by kernel_rfl) (by simp) (by simp) ⟨fun _ _ _ _ st h0 hl hj hB2 => (hB2.mono st (fun h => absurd (hl _ h) (by simp))), fun _ _ _ _ st h0 hl hj hR1 => (RdS.mono (e := 136) hR1 st h0), fun _ _ _ _ st h0 hl hj hB1 => (hB1.mono st (fun h => absurd (hl _ h) (by simp))), fun _ _ _ _ st h0 hl hj hR2 => (RdS.mono (e := 74) hR2 st h0), fun _ _ _ _ st h0 hl hj hB3 => (hB3.mono st (fun h => absurd (hl _ h) (by simp))), fun _ _ _ _ st h0 hl hj hB4 => (hB4.mono st (fun h => absurd (hl _ h) (by simp))), fun _ _ _ _ st h0 hl hj e0 => e0, fun _ _ _ _ st h0 hl hj e1 => e1, fun _ _ _ _ st h0 hl hj e2 => e2, fun _ _ _ _ st h0 hl hj e3 => e3, fun _ _ _ _ st h0 hl hj e4 => e4, fun _ _ _ _ st h0 hl hj ⟨a4, c4, e5, hR4⟩ => ⟨a4, c4, e5, (RdS.mono (e := 5) hR4 st h0)⟩, fun _ _ _ _ st h0 hl hj e6 => e6, tv⟩ ⟨hB2, hR1, hB1, hR2, hB3, hB4, tv, tv, tv, tv, tv, tv, tv, tv⟩ (by kernel_rfl) (fun vs => by kernel_rfl) ?_ ?_ ?_
   ·intro j hj
    have hq : j = 0 ∨ j = 1 ∨ j = 2 ∨ j = 3 ∨ j = 4 ∨ j = 5 ∨ j = 6 ∨ j = 7 ∨ j = 8 ∨ j = 9 := by have h : j < 10 := hj; omega
    rcases hq with rfl | rfl | rfl | rfl | rfl | rfl | rfl | rfl | rfl | rfl
    ·intro vs gq stq hl hf
     obtain ⟨v0, v1, v2, v3, v4, v5, v6, rfl⟩ := len_k7 hl
     have e0 := (show v0 = .int .i64 (l2.length : Int) from hf _ (memI 6 rfl) (by kernel_rfl))
     subst e0
     show Option.isSome _ = true
     kernel_rfl
    ·intro vs gq stq hl hf
     obtain ⟨v0, v1, v2, v3, v4, v5, v6, rfl⟩ := len_k7 hl
     have e0 := (show v0 = .int .i64 (l2.length : Int) from hf _ (memI 6 rfl) (by kernel_rfl))
     subst e0
     show Option.isSome _ = true
     kernel_rfl
    ·intro vs gq stq hl hf
     obtain ⟨v0, v1, v2, v3, v4, v5, v6, rfl⟩ := len_k7 hl
     have e1 := (show v1 = .bool true from hf _ (memI 7 rfl) (by kernel_rfl))
     subst e1
     show Option.isSome _ = true
     kernel_rfl
    ·intro vs gq stq hl hf
     obtain ⟨v0, v1, v2, v3, v4, v5, v6, rfl⟩ := len_k7 hl
     have e1 := (show v1 = .bool true from hf _ (memI 7 rfl) (by kernel_rfl))
     subst e1
     show Option.isSome _ = true
     kernel_rfl
    ·intro vs gq stq hl hf
     obtain ⟨v0, v1, v2, v3, v4, v5, v6, rfl⟩ := len_k7 hl
     have e1 := (show v1 = .bool true from hf _ (memI 7 rfl) (by kernel_rfl))
     subst e1
     show Option.isSome _ = true
     kernel_rfl
    ·intro vs gq stq hl hf
     obtain ⟨v0, v1, v2, v3, v4, v5, v6, rfl⟩ := len_k7 hl
     have e1 := (show v1 = .bool true from hf _ (memI 7 rfl) (by kernel_rfl))
     subst e1
     show Option.isSome _ = true
     kernel_rfl
    ·intro vs gq stq hl hf
     obtain ⟨v0, v1, v2, v3, v4, v5, v6, rfl⟩ := len_k7 hl
     have e1 := (show v1 = .bool true from hf _ (memI 7 rfl) (by kernel_rfl))
     subst e1
     show Option.isSome _ = true
     kernel_rfl
    ·intro vs gq stq hl hf
     obtain ⟨v0, v1, v2, v3, v4, v5, v6, rfl⟩ := len_k7 hl
     have e1 := (show v1 = .bool true from hf _ (memI 7 rfl) (by kernel_rfl))
     subst e1
     show Option.isSome _ = true
     kernel_rfl
    ·intro vs gq stq hl hf
     obtain ⟨v0, v1, v2, v3, v4, v5, v6, rfl⟩ := len_k7 hl
     have e1 := (show v1 = .bool true from hf _ (memI 7 rfl) (by kernel_rfl))
     subst e1
     have e6 := (show v6 = .bool q3 from hf _ (memI 12 rfl) (by kernel_rfl))
     subst e6
     show Option.isSome _ = true
     kernel_rfl
    ·intro vs gq stq hl hf
     obtain ⟨v0, v1, v2, v3, v4, v5, v6, rfl⟩ := len_k7 hl
     have e1 := (show v1 = .bool true from hf _ (memI 7 rfl) (by kernel_rfl))
     subst e1
     have e6 := (show v6 = .bool q3 from hf _ (memI 12 rfl) (by kernel_rfl))
     subst e6
     show Option.isSome _ = true
     kernel_rfl
   ·intro j hj
    have hq : j = 0 ∨ j = 1 ∨ j = 2 ∨ j = 3 ∨ j = 4 ∨ j = 5 ∨ j = 6 := by have h : j < 7 := hj; omega
    rcases hq with rfl | rfl | rfl | rfl | rfl | rfl | rfl
    ·intro vs gq stq hl hf
     obtain ⟨v0, v1, v2, v3, v4, v5, v6, rfl⟩ := len_k7 hl
     have hR2 := (show RdS (Kd.slice 5 (Kd.int .u8)) gq 74 a2 n2 c2 l2 from hf _ (memI 3 rfl) (by kernel_rfl))
     refine WP.len (a := a2) (cp := c2) hR2.len (by kernel_rfl) ?_
     refine WP.dn (Shown.ok (v := .int .i64 (l2.length : Int)) (by kernel_rfl) (Step.refl _ _) ?_)
     exact ⟨tv, tv, tv, tv, tv, tv, rfl, tv, tv, tv, tv, tv, tv, tv⟩
    ·intro vs gq stq hl hf
     obtain ⟨v0, v1, v2, v3, v4, v5, v6, rfl⟩ := len_k7 hl
     have e0 := (show v0 = .int .i64 (l2.length : Int) from hf _ (memI 6 rfl) (by kernel_rfl))
     subst e0
     refine WP.stl 1 ?_
     refine WP.dn (Shown.ok (v := .bool (decide (x1 < (l2.length : Int)))) (by kernel_rfl) (Step.refl _ _) ?_)
     exact ⟨tv, tv, tv, tv, tv, tv, tv, congrArg Value.bool h2, tv, tv, tv, tv, tv, tv⟩
    ·intro vs gq stq hl hf
     obtain ⟨v0, v1, v2, v3, v4, v5, v6, rfl⟩ := len_k7 hl
     have hB3 := (show Box gq (t + 1) b3 47 [encA .u8 d1] [8] from hf _ (memI 4 rfl) (by kernel_rfl))
     have e1 := (show v1 = .bool true from hf _ (memI 7 rfl) (by kernel_rfl))
     subst e1
     refine WP.loadB (v := AG [encA .u8 d1]) hB3 (by kernel_rfl) (by kernel_rfl) ?_
     refine WP.dn (Shown.ok (v := AG [encA .u8 d1]) (by kernel_rfl) (Step.refl _ _) ?_)
     exact ⟨tv, tv, tv, tv, tv, tv, tv, tv, rfl, tv, tv, tv, tv, tv⟩
    ·intro vs gq stq hl hf
     obtain ⟨v0, v1, v2, v3, v4, v5, v6, rfl⟩ := len_k7 hl
     have hB4 := (show Box gq (t + 2) b4 47 [encA .u8 d2] [8] from hf _ (memI 5 rfl) (by kernel_rfl))
     have e1 := (show v1 = .bool true from hf _ (memI 7 rfl) (by kernel_rfl))
     subst e1
     refine WP.loadB (v := AG [encA .u8 d2]) hB4 (by kernel_rfl) (by kernel_rfl) ?_
     refine WP.dn (Shown.ok (v := AG [encA .u8 d2]) (by kernel_rfl) (Step.refl _ _) ?_)
     exact ⟨tv, tv, tv, tv, tv, tv, tv, tv, tv, rfl, tv, tv, tv, tv⟩
    ·intro vs gq stq hl hf
     obtain ⟨v0, v1, v2, v3, v4, v5, v6, rfl⟩ := len_k7 hl
     have hR2 := (show RdS (Kd.slice 5 (Kd.int .u8)) gq 74 a2 n2 c2 l2 from hf _ (memI 3 rfl) (by kernel_rfl))
     have e1 := (show v1 = .bool true from hf _ (memI 7 rfl) (by kernel_rfl))
     subst e1
     refine WP.indexA (t := 52) (e := 74) (sz := 1) (cap := c2) (k := .i64) (i := x1) hR2.len ha2 (by kernel_rfl) (by kernel_rfl) hc2 ?_
     refine WP.dn (Shown.ok (v := .pointer (some ⟨b6, u2 + x1.toNat * 1, none⟩)) (by kernel_rfl) (Step.refl _ _) ?_)
     exact ⟨tv, tv, tv, tv, tv, tv, tv, tv, tv, tv, rfl, tv, tv, tv⟩
    ·intro vs gq stq hl hf
     obtain ⟨v0, v1, v2, v3, v4, v5, v6, rfl⟩ := len_k7 hl
     have hR2 := (show RdS (Kd.slice 5 (Kd.int .u8)) gq 74 a2 n2 c2 l2 from hf _ (memI 3 rfl) (by kernel_rfl))
     have e1 := (show v1 = .bool true from hf _ (memI 7 rfl) (by kernel_rfl))
     subst e1
     have e4 := (show v4 = .pointer (some ⟨b6, u2 + x1.toNat * 1, none⟩) from hf _ (memI 10 rfl) (by kernel_rfl))
     subst e4
     obtain ⟨cs2, hcR2, hcV2⟩ := hR2.src.view (getI_some hc2) ha2
     obtain ⟨a4, n4, c4, hcR2, hR4⟩ := Kd.o_sl hcR2
     refine WP.loadV [[.slice a4 n4 c4]] [1] hcV2 hcR2 rfl (f := 0) (ty := 74) (agg := false) (size := 1) (rs := [[.slice a4 n4 c4]]) (v := .slice a4 n4 c4) (by kernel_rfl) (by kernel_rfl) (by kernel_rfl) (by kernel_rfl) ?_
     obtain rfl := hR4.len
     refine WP.dn (Shown.ok (v := .slice a4 ((getI l2 x1).length) c4) (by kernel_rfl) (Step.refl _ _) ?_)
     exact ⟨tv, tv, tv, tv, tv, tv, tv, tv, tv, tv, tv, ⟨a4, c4, rfl, hR4⟩, tv, tv⟩
    ·intro vs gq stq hl hf
     obtain ⟨v0, v1, v2, v3, v4, v5, v6, rfl⟩ := len_k7 hl
     have hB2 := (show Box gq m0 b1 91 [[.slice a1 n1 c1], [.map (some b2)]] [1, 1] from hf _ (memI 0 rfl) (by kernel_rfl))
     have hR1 := (show RdS k_S_notary_entry gq 136 a1 n1 c1 l1 from hf _ (memI 1 rfl) (by kernel_rfl))
     have hB1 := (show MapB gq m1 b2 kv_S_notary_entry (Value.int .i64) w1 from hf _ (memI 2 rfl) (by kernel_rfl))
     have e1 := (show v1 = .bool true from hf _ (memI 7 rfl) (by kernel_rfl))
     subst e1
     have e2 := (show v2 = AG [encA .u8 d1] from hf _ (memI 8 rfl) (by kernel_rfl))
     subst e2
     have e3 := (show v3 = AG [encA .u8 d2] from hf _ (memI 9 rfl) (by kernel_rfl))
     subst e3
     obtain ⟨a4, c4, e5, hR4⟩ := (show ∃ (a4 : Option Addr) (c4 : Nat), v5 = .slice a4 ((getI l2 x1).length) c4 ∧ RdS (Kd.int .u8) gq 5 a4 ((getI l2 x1).length) c4 (getI l2 x1) from hf _ (memI 11 rfl) (by kernel_rfl))
     subst e5
     have hcal2 := P.notary_Book_Verify gq m0 m1 l1 w1 d1 d2 (getI l2 x1) a1 n1 c1 a4 ((getI l2 x1).length) c4 b1 b2 hR1 hR4 hB1 hB2 (by omega) (by omega) (by omega) q3 hk2
     refine WP.callC hcal2 (by kernel_rfl) ?_
     rintro _ g4 st4 rfl
     refine WP.dn (Shown.o (v := .bool q3) st4.pure ?_)
     exact ⟨tv, tv, tv, tv, tv, tv, tv, tv, tv, tv, tv, tv, rfl, tv⟩
   intro vs g5 st5 hl hf
   obtain ⟨v0, v1, v2, v3, v4, v5, v6, rfl⟩ := len_k7 hl
   have e1 := (show v1 = .bool true from hf _ (memI 7 rfl) (by kernel_rfl))
   subst e1
   have e6 := (show v6 = .bool q3 from hf _ (memI 12 rfl) (by kernel_rfl))
   subst e6
   replace tot := tot.trans st5.toNo.pure
   refine NX.post ?_
   exact ⟨q3, ⟨by kernel_rfl, by kernel_rfl⟩, tot, hs⟩
  replace hs := of_if_f hs h2
  refine CP.drawL (by kernel_rfl) [5, 8] N.notary_signed_0 [⟨none, [], [], fun l g => RdS (Kd.slice 5 (Kd.int .u8)) g 74 a2 n2 c2 l2⟩, ⟨some 0, [], [0], fun l g => l.getD 0 undef = .int .i64 (l2.length : Int)⟩, ⟨some 1, [], [1], fun l g => l.getD 0 undef = .bool false⟩] [[], []] [] [0, 1, 2, 3, 4] [6, 7, 9, 10, 11, 12, 13, 14, 15, 16, 17, 18, 19, 20, 21] (by kernel_rfl) (by simp) (by simp) ⟨fun _ _ _ _ st h0 hl hj hR2 => (RdS.mono (e := 74) hR2 st h0), fun _ _ _ _ st h0 hl hj e0 => e0, fun _ _ _ _ st h0 hl hj e1 => e1, tv⟩ ⟨hR2, tv, tv, tv⟩ (by kernel_rfl) (fun vs => by kernel_rfl) ?_ ?_ ?_
  ·intro j hj
   have hq : j = 0 ∨ j = 1 ∨ j = 2 ∨ j = 3 ∨ j = 4 ∨ j = 5 ∨ j = 6 ∨ j = 7 ∨ j = 8 ∨ j = 9 ∨ j = 10 ∨ j = 11 ∨ j = 12 ∨ j = 13 ∨ j = 14 := by have h : j < 15 := hj; omega
   rcases hq with rfl | rfl | rfl | rfl | rfl | rfl | rfl | rfl | rfl | rfl | rfl | rfl | rfl | rfl | rfl
   ·intro vs gq stq hl hf
    obtain ⟨v0, v1, rfl⟩ := len_k2 hl
    have e0 := (show v0 = .int .i64 (l2.length : Int) from hf _ (memI 1 rfl) (by kernel_rfl))
    subst e0
    show Option.isSome _ = true
    kernel_rfl
   ·intro vs gq stq hl hf
    obtain ⟨v0, v1, rfl⟩ := len_k2 hl
    have e0 := (show v0 = .int .i64 (l2.length : Int) from hf _ (memI 1 rfl) (by kernel_rfl))
    subst e0
    show Option.isSome _ = true
    kernel_rfl
   ·intro vs gq stq hl hf
    obtain ⟨v0, v1, rfl⟩ := len_k2 hl
    have e1 := (show v1 = .bool false from hf _ (memI 2 rfl) (by kernel_rfl))
    subst e1
    show Option.isSome _ = true
    kernel_rfl
   ·intro vs gq stq hl hf
    obtain ⟨v0, v1, rfl⟩ := len_k2 hl
    have e1 := (show v1 = .bool false from hf _ (memI 2 rfl) (by kernel_rfl))
    subst e1
    show Option.isSome _ = true
    kernel_rfl
   ·intro vs gq stq hl hf
    obtain ⟨v0, v1, rfl⟩ := len_k2 hl
    have e1 := (show v1 = .bool false from hf _ (memI 2 rfl) (by kernel_rfl))
    subst e1
    show Option.isSome _ = true
    kernel_rfl
   ·intro vs gq stq hl hf
    obtain ⟨v0, v1, rfl⟩ := len_k2 hl
    have e1 := (show v1 = .bool false from hf _ (memI 2 rfl) (by kernel_rfl))
    subst e1
    show Option.isSome _ = true
    kernel_rfl
   ·intro vs gq stq hl hf
    obtain ⟨v0, v1, rfl⟩ := len_k2 hl
    have e1 := (show v1 = .bool false from hf _ (memI 2 rfl) (by kernel_rfl))
    subst e1
    show Option.isSome _ = true
    kernel_rfl
   ·intro vs gq stq hl hf
    obtain ⟨v0, v1, rfl⟩ := len_k2 hl
    have e1 := (show v1 = .bool false from hf _ (memI 2 rfl) (by kernel_rfl))
    subst e1
    show Option.isSome _ = true
    kernel_rfl
   ·intro vs gq stq hl hf
    obtain ⟨v0, v1, rfl⟩ := len_k2 hl
    have e1 := (show v1 = .bool false from hf _ (memI 2 rfl) (by kernel_rfl))
    subst e1
    show Option.isSome _ = true
    kernel_rfl
   ·intro vs gq stq hl hf
    obtain ⟨v0, v1, rfl⟩ := len_k2 hl
    have e1 := (show v1 = .bool false from hf _ (memI 2 rfl) (by kernel_rfl))
    subst e1
    show Option.isSome _ = true
    kernel_rfl
   ·intro vs gq stq hl hf
    obtain ⟨v0, v1, rfl⟩ := len_k2 hl
    have e1 := (show v1 = .bool false from hf _ (memI 2 rfl) (by kernel_rfl))
    subst e1
    show Option.isSome _ = true
    kernel_rfl
   ·intro vs gq stq hl hf
    obtain ⟨v0, v1, rfl⟩ := len_k2 hl
    have e1 := (show v1 = .bool false from hf _ (memI 2 rfl) (by kernel_rfl))
    subst e1
    show Option.isSome _ = true
    kernel_rfl
   ·intro vs gq stq hl hf
    obtain ⟨v0, v1, rfl⟩ := len_k2 hl
    have e1 := (show v1 = .bool false from hf _ (memI 2 rfl) (by kernel_rfl))
    subst e1
    show Option.isSome _ = true
    kernel_rfl
   ·intro vs gq stq hl hf
    obtain ⟨v0, v1, rfl⟩ := len_k2 hl
    have e1 := (show v1 = .bool false from hf _ (memI 2 rfl) (by kernel_rfl))
    subst e1
    show Option.isSome _ = true
    kernel_rfl
   ·intro vs gq stq hl hf
    obtain ⟨v0, v1, rfl⟩ := len_k2 hl
    have e1 := (show v1 = .bool false from hf _ (memI 2 rfl) (by kernel_rfl))
    subst e1
    show Option.isSome _ = true
    kernel_rfl
  ·intro j hj
   have hq : j = 0 ∨ j = 1 := by have h : j < 2 := hj; omega
   rcases hq with rfl | rfl
   ·intro vs gq stq hl hf
    obtain ⟨v0, v1, rfl⟩ := len_k2 hl
    have hR2 := (show RdS (Kd.slice 5 (Kd.int .u8)) gq 74 a2 n2 c2 l2 from hf _ (memI 0 rfl) (by kernel_rfl))
    refine WP.len (a := a2) (cp := c2) hR2.len (by kernel_rfl) ?_
    refine WP.dn (Shown.ok (v := .int .i64 (l2.length : Int)) (by kernel_rfl) (Step.refl _ _) ?_)
    exact ⟨tv, rfl, tv, tv⟩
   ·intro vs gq stq hl hf
    obtain ⟨v0, v1, rfl⟩ := len_k2 hl
    have e0 := (show v0 = .int .i64 (l2.length : Int) from hf _ (memI 1 rfl) (by kernel_rfl))
    subst e0
    refine WP.stl 1 ?_
    refine WP.dn (Shown.ok (v := .bool (decide (x1 < (l2.length : Int)))) (by kernel_rfl) (Step.refl _ _) ?_)
    exact ⟨tv, tv, congrArg Value.bool h2, tv⟩
  intro vs g6 st6 hl hf
  obtain ⟨v0, v1, rfl⟩ := len_k2 hl
  have e1 := (show v1 = .bool false from hf _ (memI 2 rfl) (by kernel_rfl))
  subst e1
  replace tot := tot.trans st6.toNo.pure
  refine NX.post ?_
  exact ⟨false, ⟨by kernel_rfl, by kernel_rfl⟩, tot, hs⟩
 clear tot hs hB2 hR1 hB1 hR2 hB3 hB4
 rintro tm g ⟨q2, hF, tot, hs⟩
 clear ds
 obtain ⟨ds, rfl⟩ := hF.open
 clear hF
 unfold F.notary_signed.c1 at hs
 refine CP.ret ?_
 replace hs := Option.some.inj hs
 obtain rfl := hs
 exact NX.fin (v := .bool q2) (Res.still (by kernel_rfl)) tot htL rfl
def F.notary_Missing.c1 (nx1 : (List Int) → Int → Option ((List Int))) (x1 : Int) (l9 : List Int) : Option ((List Int)) := (nx1 l9 (IntKind.i64.wrap (x1 + 1)))
def F.notary_Missing.c3 (nx1 : (List Int) → Int → Option ((List Int))) (l6 : List Int) (x1 : Int) (q12 : Bool) : Option ((List Int)) := (if q12 = true then (if l6.length + ([x1]).length ≤ 17592186044416 then (F.notary_Missing.c1 nx1 x1 (l6 ++ [x1])) else none) else (F.notary_Missing.c1 nx1 x1 l6))
def F.notary_Missing.c2 (nx1 : (List Int) → Int → Option ((List Int))) (l1 : List S_notary_entry) (w1 : (List (S_notary_entry × Int))) (l2 : List (Arr Int 8)) (d1 : Arr Int 8) (l3 : List (List Int)) (l6 : List Int) (x1 : Int) (q10 : Bool) : Option ((List Int)) := (if (!q10) = true then ((F.notary_signed l1 w1 (getI l2 x1) d1 l3 x1).bind fun q13 => (F.notary_Missing.c3 nx1 l6 x1 (!q13))) else (F.notary_Missing.c3 nx1 l6 x1 false))
def F.notary_Missing.l1 (l1 : List S_notary_entry) (w1 : (List (S_notary_entry × Int))) (l2 : List (Arr Int 8)) (d1 : Arr Int 8) (l3 : List (List Int)) (l4 : List Bool) : Nat → (List Int) → Int → Option ((List Int))
 | 0, _, _ => none
 | k + 1, l6, x1 => (if decide (x1 < (l2.length : Int)) = true then (if (0 : Int) ≤ x1 ∧ x1 < (l2.length : Int) then (if decide (x1 < (l4.length : Int)) = true then (if (0 : Int) ≤ x1 ∧ x1 < (l4.length : Int) then (F.notary_Missing.c2 (F.notary_Missing.l1 l1 w1 l2 d1 l3 l4 k) l1 w1 l2 d1 l3 l6 x1 (getI l4 x1)) else none) else (F.notary_Missing.c2 (F.notary_Missing.l1 l1 w1 l2 d1 l3 l4 k) l1 w1 l2 d1 l3 l6 x1 false)) else none) else (some l6))
def F.notary_Missing (l1 : List S_notary_entry) (w1 : (List (S_notary_entry × Int))) (l2 : List (Arr Int 8)) (d1 : Arr Int 8) (l3 : List (List Int)) (l4 : List Bool) : Option ((List Int)) := (F.notary_Missing.l1 l1 w1 l2 d1 l3 l4 fuel ([]) 0)
theorem P.notary_Missing (g0 : GW) (m0 : Nat) (m1 : Nat) (r0 : Nat) (l1 : List S_notary_entry) (w1 : (List (S_notary_entry × Int))) (l2 : List (Arr Int 8)) (d1 : Arr Int 8) (l3 : List (List Int)) (l4 : List Bool) (a1 : Option Addr) (n1 : Nat) (c1 : Nat) (a2 : Option Addr) (n2 : Nat) (c2 : Nat) (a3 : Option Addr) (n3 : Nat) (c3 : Nat) (a4 : Option Addr) (n4 : Nat) (c4 : Nat) (b1 : Nat) (b2 : Nat) (hR1 : RdS k_S_notary_entry g0 136 a1 n1 c1 l1) (hR2 : RdS (Kd.arrI 8 .u8) g0 47 a2 n2 c2 l2) (hR3 : RdS (Kd.slice 5 (Kd.int .u8)) g0 74 a3 n3 c3 l3) (hR4 : RdS Kd.bool g0 4 a4 n4 c4 l4) (hB1 : MapB g0 m1 b2 kv_S_notary_entry (Value.int .i64) w1) (hB2 : Box g0 m0 b1 91 [[.slice a1 n1 c1], [.map (some b2)]] [1, 1]) (hm1_0 : m1 ≠ m0) (hm0 : m0 ≠ 0) (hm1 : m1 ≠ 0) (o1 : List Int) (hs : F.notary_Missing l1 w1 l2 d1 l3 l4 = some o1) :
  Calls Try.prog 49 #[.iface 50 (.pointer (some ⟨b1, 0, none⟩)), .slice a2 n2 c2, AG [encA .u8 d1], .slice a3 n3 c3, .slice a4 n4 c4] g0.w (Ret NoM g0 fun v g => ∃ (a_1 : Option Addr) (n_1 : Nat) (c_1 : Nat), v = .slice a_1 n_1 c_1 ∧ OwnS (Kd.int .i64) g r0 3 a_1 n_1 c_1 o1) := by
 refine calls_of (args := [.iface 50 (.pointer (some ⟨b1, 0, none⟩)), .slice a2 n2 c2, AG [encA .u8 d1], .slice a3 n3 c3, .slice a4 n4 c4]) Try.func49 rfl (m0 + m1 + r0 + 0) ?_
 intro t ht htL
 refine ⟨_, rfl, ?_⟩
 refine CP.refr 49 [(0, .iface 50 (.pointer (some ⟨b1, 0, none⟩))), (1, .slice a2 n2 c2), (2, AG [encA .u8 d1]), (3, .slice a3 n3 c3), (4, .slice a4 n4 c4)] (by kernel_rfl) (by kernel_rfl) ?_
 intro ds
 have tot : Step (fun l => NoM l ∨ t ≤ l) g0 g0 := Step.refl _ _
 unfold F.notary_Missing at hs
 refine CP.seqR ?_
 refine WP.alloc (T := 47) (t + 1) [encA .u8 d1] [8] (by kernel_rfl) (by simp [len_encA]) ?_
 intro g1 b3 st1 hB3
 replace hB2 := hB2.mono st1 (fun x => x)
 replace hR1 := hR1.mono st1 (fun x => x)
 replace hB1 := hB1.mono st1 (fun x => x)
 replace hR2 := hR2.mono st1 (fun x => x)
 replace hR3 := hR3.mono st1 (fun x => x)
 replace hR4 := hR4.mono st1 (fun x => x)
 replace tot := tot.trans st1.pure
 refine WP.stl 1 ?_
 refine WP.dn ?_
 refine NX.then_n ?_
 refine CP.seqR ?_
 refine WP.stl 1 ?_
 refine WP.dn ?_
 refine NX.then_n ?_
 refine CP.seq ?_
 refine CP.seqR ?_
 refine WP.stl 1 ?_
 refine WP.len (a := a2) (cp := c2) hR2.len (by kernel_rfl) ?_
 refine WP.stl 1 ?_
 refine WP.dn ?_
 refine NX.then_n ?_
 refine CP.block ?_
 generalize fuel = k1 at hs
 refine CP.loop (fun k1 tm g => ∃ (l6 : List Int) (a8 : Option Addr) (n6 : Nat) (c7 : Nat) (x1 : Int), Fr 49 [(0, .iface 50 (.pointer (some ⟨b1, 0, none⟩))), (3, .slice a3 n3 c3), (4, .slice a4 n4 c4), (7, .pointer (some ⟨b3, 0, none⟩)), (11, .slice a8 n6 c7), (15, .slice a2 n2 c2), (16, .int .i64 (l2.length : Int)), (17, .int .i64 x1)] tm ∧ Step (fun l => NoM l ∨ t ≤ l) g0 g ∧ Box g m0 b1 91 [[.slice a1 n1 c1], [.map (some b2)]] [1, 1] ∧ RdS k_S_notary_entry g 136 a1 n1 c1 l1 ∧ MapB g m1 b2 kv_S_notary_entry (Value.int .i64) w1 ∧ RdS (Kd.slice 5 (Kd.int .u8)) g 74 a3 n3 c3 l3 ∧ RdS Kd.bool g 4 a4 n4 c4 l4 ∧ Box g (t + 1) b3 47 [encA .u8 d1] [8] ∧ OwnS (Kd.int .i64) g (t + 4) 3 a8 n6 c7 l6 ∧ RdS (Kd.arrI 8 .u8) g 47 a2 n2 c2 l2 ∧ F.notary_Missing.l1 l1 w1 l2 d1 l3 l4 k1 l6 x1 = some o1) k1 ?_ ?_ ?_
 ·exact ⟨[], none, 0, 0, 0, ⟨by kernel_rfl, by kernel_rfl⟩, tot, hB2, hR1, hB1, hR3, hR4, hB3, (OwnS.nil _ _ _ _), hR2, hs⟩
 ·rintro tm g ⟨l6, a8, n6, c7, x1, hF, tot, hB2, hR1, hB1, hR3, hR4, hB3, hR8, hR2, hs⟩
  exact absurd hs (by simp [F.notary_Missing.l1])
 clear tot hs hB2 hR1 hB1 hR3 hR4 hB3 hR2
 rintro k1 tm g ⟨l6, a8, n6, c7, x1, hF, tot, hB2, hR1, hB1, hR3, hR4, hB3, hR8, hR2, hs⟩
 clear ds
 obtain ⟨ds, rfl⟩ := hF.open
 clear hF
 unfold F.notary_Missing.l1 at hs
 refine CP.seqR ?_
 refine WP.stl 1 ?_
 refine WP.dn ?_
 refine NX.then_n ?_
 refine CP.seq ?_
 refine CP.cond (b := decide (x1 < (l2.length : Int))) (by kernel_rfl) (fun h9 => ?_) (fun h9 => ?_)
 ·replace hs := of_if_t hs h9
  refine CP.skip ?_
  refine NX.then_n ?_
  refine CP.cut (fun tm g => ∃ (l9 : List Int) (a15 : Option Addr) (n9 : Nat) (c12 : Nat), Fr 49 [(0, .iface 50 (.pointer (some ⟨b1, 0, none⟩))), (3, .slice a3 n3 c3), (4, .slice a4 n4 c4), (7, .pointer (some ⟨b3, 0, none⟩)), (11, .slice a15 n9 c12), (15, .slice a2 n2 c2), (16, .int .i64 (l2.length : Int)), (17, .int .i64 x1)] tm ∧ Step (fun l => NoM l ∨ t ≤ l) g0 g ∧ Box g m0 b1 91 [[.slice a1 n1 c1], [.map (some b2)]] [1, 1] ∧ RdS k_S_notary_entry g 136 a1 n1 c1 l1 ∧ MapB g m1 b2 kv_S_notary_entry (Value.int .i64) w1 ∧ RdS (Kd.slice 5 (Kd.int .u8)) g 74 a3 n3 c3 l3 ∧ RdS Kd.bool g 4 a4 n4 c4 l4 ∧ Box g (t + 1) b3 47 [encA .u8 d1] [8] ∧ OwnS (Kd.int .i64) g (t + 4) 3 a15 n9 c12 l9 ∧ RdS (Kd.arrI 8 .u8) g 47 a2 n2 c2 l2 ∧ (F.notary_Missing.c1 (F.notary_Missing.l1 l1 w1 l2 d1 l3 l4 k1) x1 l9) = some o1) ?_ ?_
  ·refine CP.block ?_
   refine CP.seqR ?_
   refine WP.stl 1 ?_
   by_cases hc10 : (0 : Int) ≤ x1 ∧ x1 < (l2.length : Int)
   case neg => rw [if_neg hc10] at hs; cases hs
   replace hs := of_if_p hs hc10
   obtain ⟨b13, u7, ha7⟩ := hR2.at hc10
   refine WP.indexA (t := 51) (e := 47) (sz := 8) (cap := c2) (k := .i64) (i := x1) hR2.len ha7 (by kernel_rfl) (by kernel_rfl) hc10 ?_
   obtain ⟨cs7, hcR7, hcV7⟩ := hR2.src.view (getI_some hc10) ha7
   replace hcR7 := Kd.o_arr hcR7
   refine WP.loadV [encA .u8 (getI l2 x1)] [8] hcV7 hcR7 (by simp [len_encA]) (f := 0) (ty := 47) (agg := true) (size := 8) (rs := [encA .u8 (getI l2 x1)]) (v := AG [encA .u8 (getI l2 x1)]) (by kernel_rfl) (by kernel_rfl) (by kernel_rfl) (by kernel_rfl) ?_
   refine WP.alloc (T := 47) (t + 9) [encA .u8 (zA 8)] [8] (by kernel_rfl) (by simp [len_encA]) ?_
   intro g17 b14 st17 hB10
   replace hB2 := hB2.mono st17 (fun x => x)
   replace hR1 := hR1.mono st17 (fun x => x)
   replace hB1 := hB1.mono st17 (fun x => x)
   replace hR3 := hR3.mono st17 (fun x => x)
   replace hR4 := hR4.mono st17 (fun x => x)
   replace hB3 := hB3.mono st17 (fun x => x)
   replace hR8 := hR8.mono st17 (fun x => x) (fun x => x)
   replace hR2 := hR2.mono st17 (fun x => x)
   replace tot := tot.trans st17.pure
   refine WP.stl 1 ?_
   refine WP.storeB (ty := 47) (off := 0) (v := AG [encA .u8 (getI l2 x1)]) hB10 [encA .u8 (getI l2 x1)] [8] (by kernel_rfl) (by kernel_rfl) (by simp [len_encA]) (by kernel_rfl) [encA .u8 (getI l2 x1)] (by kernel_rfl) (.arr .nil) ?_
   intro g18 st18 hB11
   replace hB2 := hB2.mono st18 (WL.no1 (by omega))
   replace hR1 := hR1.mono st18 (WL.no1 (by omega))
   replace hB1 := hB1.mono st18 (WL.no1 (by omega))
   replace hR3 := hR3.mono st18 (WL.no1 (by omega))
   replace hR4 := hR4.mono st18 (WL.no1 (by omega))
   replace hB3 := hB3.mono st18 (WL.no1 (by omega))
   replace hR8 := hR8.mono st18 (WL.no1 (by omega)) (WL.no1 (by omega))
   replace hR2 := hR2.mono st18 (WL.no1 (by omega))
   replace tot := tot.trans (st18.up1 (.inr (by omega)))
   clear hB10
   have hB10 := hB11
   clear hB11
   refine WP.dn ?_
   refine NX.then_n ?_
   refine CP.cut (fun tm g => ∃ (q10 : Bool), Fr 49 [(0, .iface 50 (.pointer (some ⟨b1, 0, none⟩))), (3, .slice a3 n3 c3), (4, .slice a4 n4 c4), (7, .pointer (some ⟨b3, 0, none⟩)), (11, .slice a8 n6 c7), (12, .int .i64 x1), (13, .pointer (some ⟨b14, 0, none⟩)), (14, .bool q10), (15, .slice a2 n2 c2), (16, .int .i64 (l2.length : Int)), (17, .int .i64 x1)] tm ∧ Step (fun l => NoM l ∨ t ≤ l) g0 g ∧ Box g m0 b1 91 [[.slice a1 n1 c1], [.map (some b2)]] [1, 1] ∧ RdS k_S_notary_entry g 136 a1 n1 c1 l1 ∧ MapB g m1 b2 kv_S_notary_entry (Value.int .i64) w1 ∧ RdS (Kd.slice 5 (Kd.int .u8)) g 74 a3 n3 c3 l3 ∧ RdS Kd.bool g 4 a4 n4 c4 l4 ∧ Box g (t + 1) b3 47 [encA .u8 d1] [8] ∧ OwnS (Kd.int .i64) g (t + 4) 3 a8 n6 c7 l6 ∧ Box g (t + 9) b14 47 [encA .u8 (getI l2 x1)] [8] ∧ RdS (Kd.arrI 8 .u8) g 47 a2 n2 c2 l2 ∧ (F.notary_Missing.c2 (F.notary_Missing.l1 l1 w1 l2 d1 l3 l4 k1) l1 w1 l2 d1 l3 l6 x1 q10) = some o1) ?_ ?_
   ·refine CP.region ?_
    refine WP.stl 2 ?_
    refine WP.len (a := a4) (cp := c4) hR4.len (by kernel_rfl) ?_
    refine WP.stl 2 ?_
    refine WP.guard 26 (b := decide (x1 < (l4.length : Int))) (by kernel_rfl) (fun h17 => ?_) (fun h17 => ?_)
    ·replace hs := of_if_t hs h17
     refine WP.stl 2 ?_
     by_cases hc13 : (0 : Int) ≤ x1 ∧ x1 < (l4.length : Int)
     case neg => rw [if_neg hc13] at hs; cases hs
     replace hs := of_if_p hs hc13
     obtain ⟨b16, u9, ha9⟩ := hR4.at hc13
     refine WP.indexA (t := 28) (e := 4) (sz := 1) (cap := c4) (k := .i64) (i := x1) hR4.len ha9 (by kernel_rfl) (by kernel_rfl) hc13 ?_
     obtain ⟨cs9, hcR9, hcV9⟩ := hR4.src.view (getI_some hc13) ha9
     replace hcR9 := Kd.o_bool hcR9
     refine WP.loadV [[.bool (getI l4 x1)]] [1] hcV9 hcR9 rfl (f := 0) (ty := 4) (agg := false) (size := 1) (rs := [[.bool (getI l4 x1)]]) (v := .bool (getI l4 x1)) (by kernel_rfl) (by kernel_rfl) (by kernel_rfl) (by kernel_rfl) ?_
     refine WP.stl 2 ?_
     refine WP.dn ?_
     refine NX.post ?_
     exact ⟨(getI l4 x1), ⟨by kernel_rfl, by kernel_rfl⟩, tot, hB2, hR1, hB1, hR3, hR4, hB3, hR8, hB10, hR2, hs⟩
    replace hs := of_if_f hs h17
    refine WP.stl 6 ?_
    refine WP.dn ?_
    refine NX.post ?_
    exact ⟨false, ⟨by kernel_rfl, by kernel_rfl⟩, tot, hB2, hR1, hB1, hR3, hR4, hB3, hR8, hB10, hR2, hs⟩
   clear tot hs hB2 hR1 hB1 hR3 hR4 hB3 hR8 hR2 hB10
   rintro tm g ⟨q10, hF, tot, hB2, hR1, hB1, hR3, hR4, hB3, hR8, hB10, hR2, hs⟩
   clear ds
   obtain ⟨ds, rfl⟩ := hF.open
   clear hF
   unfold F.notary_Missing.c2 at hs
   refine CP.cut (fun tm g => ∃ (q12 : Bool), Fr 49 [(0, .iface 50 (.pointer (some ⟨b1, 0, none⟩))), (3, .slice a3 n3 c3), (4, .slice a4 n4 c4), (7, .pointer (some ⟨b3, 0, none⟩)), (11, .slice a8 n6 c7), (12, .int .i64 x1), (15, .slice a2 n2 c2), (16, .int .i64 (l2.length : Int)), (17, .int .i64 x1), (42, .bool q12)] tm ∧ Step (fun l => NoM l ∨ t ≤ l) g0 g ∧ Box g m0 b1 91 [[.slice a1 n1 c1], [.map (some b2)]] [1, 1] ∧ RdS k_S_notary_entry g 136 a1 n1 c1 l1 ∧ MapB g m1 b2 kv_S_notary_entry (Value.int .i64) w1 ∧ RdS (Kd.slice 5 (Kd.int .u8)) g 74 a3 n3 c3 l3 ∧ RdS Kd.bool g 4 a4 n4 c4 l4 ∧ Box g (t + 1) b3 47 [encA .u8 d1] [8] ∧ OwnS (Kd.int .i64) g (t + 4) 3 a8 n6 c7 l6 ∧ RdS (Kd.arrI 8 .u8) g 47 a2 n2 c2 l2 ∧ (F.notary_Missing.c3 (F.notary_Missing.l1 l1 w1 l2 d1 l3 l4 k1) l6 x1 q12) = some o1) ?_ ?_
   ·refine CP.region ?_
    refine WP.stl 3 ?_
    refine WP.guard 34 (b := (!q10)) (by kernel_rfl) (fun h16 => ?_) (fun h16 => ?_)
    ·replace hs := of_if_t hs h16
     refine WP.stl 1 ?_
     refine WP.loadB (v := AG [encA .u8 (getI l2 x1)]) hB10 (by kernel_rfl) (by kernel_rfl) ?_
     refine WP.loadB (v := AG [encA .u8 d1]) hB3 (by kernel_rfl) (by kernel_rfl) ?_
     refine WP.stl 2 ?_
     replace hs := Option.bind_eq_some_iff.1 hs
     obtain ⟨q13, hk5, hs⟩ := hs
     have hcal5 := P.notary_signed g m0 m1 l1 w1 (getI l2 x1) d1 l3 x1 a1 n1 c1 a3 n3 c3 b1 b2 hR1 hR3 hB1 hB2 (by omega) (by omega) (by omega) q13 hk5
     refine WP.callC hcal5 (by kernel_rfl) ?_
     rintro _ g22 st22 rfl
     replace hB2 := hB2.mono st22 (fun x => x)
     replace hR1 := hR1.mono st22 (fun x => x)
     replace hB1 := hB1.mono st22 (fun x => x)
     replace hR3 := hR3.mono st22 (fun x => x)
     replace hR4 := hR4.mono st22 (fun x => x)
     replace hB3 := hB3.mono st22 (fun x => x)
     replace hR8 := hR8.mono st22 (fun x => x) (fun x => x)
     replace hB10 := hB10.mono st22 (fun x => x)
     replace hR2 := hR2.mono st22 (fun x => x)
     replace tot := tot.trans st22.pure
     refine WP.stl 2 ?_
     refine WP.dn ?_
     refine NX.post ?_
     exact ⟨(!q13), ⟨by kernel_rfl, by kernel_rfl⟩, tot, hB2, hR1, hB1, hR3, hR4, hB3, hR8, hR2, hs⟩
    replace hs := of_if_f hs h16
    refine WP.stl 8 ?_
    refine WP.dn ?_
    refine NX.post ?_
    exact ⟨false, ⟨by kernel_rfl, by kernel_rfl⟩, tot, hB2, hR1, hB1, hR3, hR4, hB3, hR8, hR2, hs⟩
   clear tot hs hB2 hR1 hB1 hR3 hR4 hB3 hR8 hB10 hR2
   rintro tm g ⟨q12, hF, tot, hB2, hR1, hB1, hR3, hR4, hB3, hR8, hR2, hs⟩
   clear ds
   obtain ⟨ds, rfl⟩ := hF.open
   clear hF
   unfold F.notary_Missing.c3 at hs
   refine CP.cond (b := q12) (by kernel_rfl) (fun h15 => ?_) (fun h15 => ?_)
   ·replace hs := of_if_t hs h15
    refine CP.region ?_
    refine WP.stl 2 ?_
    refine WP.mkSl (kd := (Kd.int .i64)) (t := 22) (e := 3) (bytes := 8) (t + 10) [.int .i64 x1] [x1] (by kernel_rfl) (by kernel_rfl) (Nat.le_of_ble_eq_true rfl) (Nat.le_of_ble_eq_true rfl) (all_cons rfl all_nil) (⟨_, _, rfl, (by exact rfl), rfl⟩) rfl ?_
    intro g20 a16 st20 hR16
    replace hB2 := hB2.mono st20 (fun x => x)
    replace hR1 := hR1.mono st20 (fun x => x)
    replace hB1 := hB1.mono st20 (fun x => x)
    replace hR3 := hR3.mono st20 (fun x => x)
    replace hR4 := hR4.mono st20 (fun x => x)
    replace hB3 := hB3.mono st20 (fun x => x)
    replace hR8 := hR8.mono st20 (fun x => x) (fun x => x)
    replace hR2 := hR2.mono st20 (fun x => x)
    replace tot := tot.trans st20.pure
    by_cases hc12 : l6.length + ([x1]).length ≤ 17592186044416
    case neg => rw [if_neg hc12] at hs; cases hs
    replace hs := of_if_p hs hc12
    refine WP.append (kd := (Kd.int .i64)) (t := 22) (e := 3) (bytes := 8) (a2 := a16) (c2 := 1) hR8 hR16.src hR16.len (by kernel_rfl) (by kernel_rfl) (by omega) (by simp only [maxLen]; omega) (by omega) ?_
    intro g21 a17 c13 st21 hR17
    replace hB2 := hB2.mono st21 (WL.no1 (by omega))
    replace hR1 := hR1.mono st21 (WL.no1 (by omega))
    replace hB1 := hB1.mono st21 (WL.no1 (by omega))
    replace hR3 := hR3.mono st21 (WL.no1 (by omega))
    replace hR4 := hR4.mono st21 (WL.no1 (by omega))
    replace hB3 := hB3.mono st21 (WL.no1 (by omega))
    replace hR2 := hR2.mono st21 (WL.no1 (by omega))
    replace hR16 := hR16.mono st21 (WL.no1 (by omega)) (WL.no1 (by omega))
    replace tot := tot.trans (st21.up1 (.inr (by omega)))
    refine WP.stl 1 ?_
    refine WP.dn ?_
    refine NX.block_n ?_
    refine NX.post ?_
    exact ⟨(l6 ++ [x1]), a17, (n6 + 1), c13, ⟨by kernel_rfl, by kernel_rfl⟩, tot, hB2, hR1, hB1, hR3, hR4, hB3, hR17, hR2, hs⟩
   replace hs := of_if_f hs h15
   refine CP.skip ?_
   refine NX.block_n ?_
   refine NX.post ?_
   exact ⟨l6, a8, n6, c7, ⟨by kernel_rfl, by kernel_rfl⟩, tot, hB2, hR1, hB1, hR3, hR4, hB3, hR8, hR2, hs⟩
  clear tot hs hB2 hR1 hB1 hR3 hR4 hB3 hR8 hR2
  rintro tm g ⟨l9, a15, n9, c12, hF, tot, hB2, hR1, hB1, hR3, hR4, hB3, hR15, hR2, hs⟩
  clear ds
  obtain ⟨ds, rfl⟩ := hF.open
  clear hF
  unfold F.notary_Missing.c1 at hs
  refine CP.region ?_
  refine WP.stl 2 ?_
  refine WP.dn ?_
  refine NX.post ?_
  exact ⟨l9, a15, n9, c12, (IntKind.i64.wrap (x1 + 1)), ⟨by kernel_rfl, by kernel_rfl⟩, tot, hB2, hR1, hB1, hR3, hR4, hB3, hR15, hR2, hs⟩
 replace hs := of_if_f hs h9
 refine CP.exit ?_
 refine NX.then_e ?_
 refine NX.then_e ?_
 refine NX.block_s ?_
 refine NX.then_n ?_
 refine CP.seqR ?_
 refine WP.stl 2 ?_
 refine WP.dn ?_
 refine NX.then_n ?_
 refine CP.ret ?_
 obtain ⟨g23, hw1, st23, hnew⟩ := hR8.relab (by omega) r0
 refine NX.regw hw1 ?_
 replace tot := tot.trans (st23.up1 (.inr (by omega)))
 clear hR8
 have hR8 := hnew
 clear hnew
 replace hs := Option.some.inj hs
 obtain rfl := hs
 exact NX.fin (v := .slice a8 n6 c7) (Res.still (by kernel_rfl)) tot htL ⟨a8, n6, c7, rfl, hR8⟩
def F.notary_All.c1 (l1 : List S_notary_entry) (w1 : (List (S_notary_entry × Int))) (l2 : List (Arr Int 8)) (d1 : Arr Int 8) (l3 : List (List Int)) (l4 : List Bool) (q1 : Bool) : Option (Int) := (if q1 = true then (some 1) else ((F.notary_Missing l1 w1 l2 d1 l3 l4).bind fun l5 => (if decide ((l5.length : Int) > 0) = true then (some 16) else (some 0))))
def F.notary_All (l1 : List S_notary_entry) (w1 : (List (S_notary_entry × Int))) (l2 : List (Arr Int 8)) (d1 : Arr Int 8) (l3 : List (List Int)) (l4 : List Bool) : Option (Int) := (if ((l2.length : Int) == 0) = true then (F.notary_All.c1 l1 w1 l2 d1 l3 l4 true) else (F.notary_All.c1 l1 w1 l2 d1 l3 l4 ((l3.length : Int) != (l2.length : Int))))
theorem P.notary_All (g0 : GW) (m0 : Nat) (m1 : Nat) (l1 : List S_notary_entry) (w1 : (List (S_notary_entry × Int))) (l2 : List (Arr Int 8)) (d1 : Arr Int 8) (l3 : List (List Int)) (l4 : List Bool) (a1 : Option Addr) (n1 : Nat) (c1 : Nat) (a2 : Option Addr) (n2 : Nat) (c2 : Nat) (a3 : Option Addr) (n3 : Nat) (c3 : Nat) (a4 : Option Addr) (n4 : Nat) (c4 : Nat) (b1 : Nat) (b2 : Nat) (hR1 : RdS k_S_notary_entry g0 136 a1 n1 c1 l1) (hR2 : RdS (Kd.arrI 8 .u8) g0 47 a2 n2 c2 l2) (hR3 : RdS (Kd.slice 5 (Kd.int .u8)) g0 74 a3 n3 c3 l3) (hR4 : RdS Kd.bool g0 4 a4 n4 c4 l4) (hB1 : MapB g0 m1 b2 kv_S_notary_entry (Value.int .i64) w1) (hB2 : Box g0 m0 b1 91 [[.slice a1 n1 c1], [.map (some b2)]] [1, 1]) (hm1_0 : m1 ≠ m0) (hm0 : m0 ≠ 0) (hm1 : m1 ≠ 0) (o1 : Int) (hs : F.notary_All l1 w1 l2 d1 l3 l4 = some o1) :
  Calls Try.prog 37 #[.iface 50 (.pointer (some ⟨b1, 0, none⟩)), .slice a2 n2 c2, AG [encA .u8 d1], .slice a3 n3 c3, .slice a4 n4 c4] g0.w (Ret NoM g0 fun v g => v = .int .i64 o1) := by
 refine calls_of (args := [.iface 50 (.pointer (some ⟨b1, 0, none⟩)), .slice a2 n2 c2, AG [encA .u8 d1], .slice a3 n3 c3, .slice a4 n4 c4]) Try.func37 rfl (m0 + m1 + 0) ?_
 intro t ht htL
 refine ⟨_, rfl, ?_⟩
 refine CP.refr 31 [(0, .iface 50 (.pointer (some ⟨b1, 0, none⟩))), (1, .slice a2 n2 c2), (2, AG [encA .u8 d1]), (3, .slice a3 n3 c3), (4, .slice a4 n4 c4)] (by kernel_rfl) (by kernel_rfl) ?_
 intro ds
 have tot : Step (fun l => NoM l ∨ t ≤ l) g0 g0 := Step.refl _ _
 unfold F.notary_All at hs
 refine CP.seqR ?_
 refine WP.alloc (T := 47) (t + 1) [encA .u8 d1] [8] (by kernel_rfl) (by simp [len_encA]) ?_
 intro g1 b3 st1 hB3
 replace hB2 := hB2.mono st1 (fun x => x)
 replace hR1 := hR1.mono st1 (fun x => x)
 replace hB1 := hB1.mono st1 (fun x => x)
 replace hR2 := hR2.mono st1 (fun x => x)
 replace hR3 := hR3.mono st1 (fun x => x)
 replace hR4 := hR4.mono st1 (fun x => x)
 replace tot := tot.trans st1.pure
 refine WP.stl 1 ?_
 refine WP.dn ?_
 refine NX.then_n ?_
 refine CP.seq ?_
 refine CP.block ?_
 refine CP.cut (fun tm g => ∃ (q1 : Bool), Fr 31 [(0, .iface 50 (.pointer (some ⟨b1, 0, none⟩))), (1, .slice a2 n2 c2), (3, .slice a3 n3 c3), (4, .slice a4 n4 c4), (7, .pointer (some ⟨b3, 0, none⟩)), (11, .bool q1)] tm ∧ Step (fun l => NoM l ∨ t ≤ l) g0 g ∧ Box g m0 b1 91 [[.slice a1 n1 c1], [.map (some b2)]] [1, 1] ∧ RdS k_S_notary_entry g 136 a1 n1 c1 l1 ∧ MapB g m1 b2 kv_S_notary_entry (Value.int .i64) w1 ∧ RdS (Kd.arrI 8 .u8) g 47 a2 n2 c2 l2 ∧ RdS (Kd.slice 5 (Kd.int .u8)) g 74 a3 n3 c3 l3 ∧ RdS Kd.bool g 4 a4 n4 c4 l4 ∧ Box g (t + 1) b3 47 [encA .u8 d1] [8] ∧ (F.notary_All.c1 l1 w1 l2 d1 l3 l4 q1) = some o1) ?_ ?_
 ·refine CP.region ?_
  refine WP.stl 1 ?_
  refine WP.len (a := a2) (cp := c2) hR2.len (by kernel_rfl) ?_
  refine WP.stl 2 ?_
  refine WP.guard 15 (b := ((l2.length : Int) == 0)) (by kernel_rfl) (fun h4 => ?_) (fun h4 => ?_)
  ·replace hs := of_if_t hs h4
   refine WP.stl 7 ?_
   refine WP.dn ?_
   refine NX.post ?_
   exact ⟨true, ⟨by kernel_rfl, by kernel_rfl⟩, tot, hB2, hR1, hB1, hR2, hR3, hR4, hB3, hs⟩
  replace hs := of_if_f hs h4
  refine WP.stl 1 ?_
  refine WP.len (a := a3) (cp := c3) hR3.len (by kernel_rfl) ?_
  refine WP.stl 1 ?_
  refine WP.len (a := a2) (cp := c2) hR2.len (by kernel_rfl) ?_
  refine WP.stl 3 ?_
  refine WP.dn ?_
  refine NX.post ?_
  exact ⟨((l3.length : Int) != (l2.length : Int)), ⟨by kernel_rfl, by kernel_rfl⟩, tot, hB2, hR1, hB1, hR2, hR3, hR4, hB3, hs⟩
 clear tot hs hB2 hR1 hB1 hR2 hR3 hR4 hB3
 rintro tm g ⟨q1, hF, tot, hB2, hR1, hB1, hR2, hR3, hR4, hB3, hs⟩
 clear ds
 obtain ⟨ds, rfl⟩ := hF.open
 clear hF
 unfold F.notary_All.c1 at hs
 refine CP.cond (b := q1) (by kernel_rfl) (fun h2 => ?_) (fun h2 => ?_)
 ·replace hs := of_if_t hs h2
  refine CP.seqR ?_
  refine WP.stl 1 ?_
  refine WP.dn ?_
  refine NX.then_n ?_
  refine CP.ret ?_
  refine NX.block_r ?_
  refine NX.then_r ?_
  replace hs := Option.some.inj hs
  obtain rfl := hs
  exact NX.fin (v := .int .i64 1) (Res.still (by kernel_rfl)) tot htL rfl
 replace hs := of_if_f hs h2
 refine CP.seqR ?_
 refine WP.stl 2 ?_
 refine WP.loadB (v := AG [encA .u8 d1]) hB3 (by kernel_rfl) (by kernel_rfl) ?_
 refine WP.stl 2 ?_
 replace hs := Option.bind_eq_some_iff.1 hs
 obtain ⟨l5, hk1, hs⟩ := hs
 have hcal1 := P.notary_Missing g m0 m1 (t + 2) l1 w1 l2 d1 l3 l4 a1 n1 c1 a2 n2 c2 a3 n3 c3 a4 n4 c4 b1 b2 hR1 hR2 hR3 hR4 hB1 hB2 (by omega) (by omega) (by omega) l5 hk1
 refine WP.callC hcal1 (by kernel_rfl) ?_
 rintro _ g2 st2 ⟨a5, n5, c5, rfl, hR5⟩
 replace hB2 := hB2.mono st2 (fun x => x)
 replace hR1 := hR1.mono st2 (fun x => x)
 replace hB1 := hB1.mono st2 (fun x => x)
 replace hR2 := hR2.mono st2 (fun x => x)
 replace hR3 := hR3.mono st2 (fun x => x)
 replace hR4 := hR4.mono st2 (fun x => x)
 replace hB3 := hB3.mono st2 (fun x => x)
 replace tot := tot.trans st2.pure
 refine WP.len (a := a5) (cp := c5) hR5.len (by kernel_rfl) ?_
 refine WP.stl 2 ?_
 refine WP.dn ?_
 refine NX.then_n ?_
 refine CP.cond (b := decide ((l5.length : Int) > 0)) (by kernel_rfl) (fun h3 => ?_) (fun h3 => ?_)
 ·replace hs := of_if_t hs h3
  refine CP.seqR ?_
  refine WP.stl 1 ?_
  refine WP.dn ?_
  refine NX.then_n ?_
  refine CP.ret ?_
  refine NX.block_r ?_
  refine NX.then_r ?_
  replace hs := Option.some.inj hs
  obtain rfl := hs
  exact NX.fin (v := .int .i64 16) (Res.still (by kernel_rfl)) tot htL rfl
 replace hs := of_if_f hs h3
 refine CP.skip ?_
 refine NX.block_n ?_
 refine NX.then_n ?_
 refine CP.seqR ?_
 refine WP.stl 1 ?_
 refine WP.dn ?_
 refine NX.then_n ?_
 refine CP.ret ?_
 replace hs := Option.some.inj hs
 obtain rfl := hs
 exact NX.fin (v := .int .i64 0) (Res.still (by kernel_rfl)) tot htL rfl
def F.close_Agree (l1 : List S_notary_entry) (w1 : (List (S_notary_entry × Int))) (d1 : Arr Int 8) (l2 : List Int) (x1 : Int) (l3 : List (Arr Int 8)) (l4 : List (List Int)) (l5 : List Bool) : Option (Int) := ((F.close_Adds x1 (l3.length : Int) l2).bind fun x2 => (if (x2 != 0) = true then (some x2) else (if ((l5.length : Int) != (l3.length : Int)) = true then (some 3) else ((F.slices_Contains_bool_bool l5 false).bind fun q1 => (if (!q1) = true then (some 28) else ((F.state_Payout_Digest d1 l2).bind fun d2 => ((F.notary_All l1 w1 l3 d2 l4 l5).bind fun x3 => (some x3))))))))
theorem P.close_Agree (g0 : GW) (m0 : Nat) (m1 : Nat) (l1 : List S_notary_entry) (w1 : (List (S_notary_entry × Int))) (d1 : Arr Int 8) (l2 : List Int) (x1 : Int) (l3 : List (Arr Int 8)) (l4 : List (List Int)) (l5 : List Bool) (a1 : Option Addr) (n1 : Nat) (c1 : Nat) (a2 : Option Addr) (n2 : Nat) (c2 : Nat) (a3 : Option Addr) (n3 : Nat) (c3 : Nat) (a4 : Option Addr) (n4 : Nat) (c4 : Nat) (a5 : Option Addr) (n5 : Nat) (c5 : Nat) (b1 : Nat) (b2 : Nat) (hR1 : RdS k_S_notary_entry g0 136 a1 n1 c1 l1) (hR2 : RdS (Kd.int .i64) g0 3 a2 n2 c2 l2) (hR3 : RdS (Kd.arrI 8 .u8) g0 47 a3 n3 c3 l3) (hR4 : RdS (Kd.slice 5 (Kd.int .u8)) g0 74 a4 n4 c4 l4) (hR5 : RdS Kd.bool g0 4 a5 n5 c5 l5) (hB1 : MapB g0 m1 b2 kv_S_notary_entry (Value.int .i64) w1) (hB2 : Box g0 m0 b1 91 [[.slice a1 n1 c1], [.map (some b2)]] [1, 1]) (hm1_0 : m1 ≠ m0) (hm0 : m0 ≠ 0) (hm1 : m1 ≠ 0) (o1 : Int) (hs : F.close_Agree l1 w1 d1 l2 x1 l3 l4 l5 = some o1) :
  Calls Try.prog 19 #[.iface 50 (.pointer (some ⟨b1, 0, none⟩)), AG [encA .u8 d1, [.slice a2 n2 c2]], .int .i64 x1, .slice a3 n3 c3, .slice a4 n4 c4, .slice a5 n5 c5] g0.w (Ret NoM g0 fun v g => v = .int .i64 o1) := by
 refine calls_of (args := [.iface 50 (.pointer (some ⟨b1, 0, none⟩)), AG [encA .u8 d1, [.slice a2 n2 c2]], .int .i64 x1, .slice a3 n3 c3, .slice a4 n4 c4, .slice a5 n5 c5]) Try.func19 rfl (m0 + m1 + 0) ?_
 intro t ht htL
 refine ⟨_, rfl, ?_⟩
 refine CP.refr 40 [(0, .iface 50 (.pointer (some ⟨b1, 0, none⟩))), (1, AG [encA .u8 d1, [.slice a2 n2 c2]]), (2, .int .i64 x1), (3, .slice a3 n3 c3), (4, .slice a4 n4 c4), (5, .slice a5 n5 c5)] (by kernel_rfl) (by kernel_rfl) ?_
 intro ds
 have tot : Step (fun l => NoM l ∨ t ≤ l) g0 g0 := Step.refl _ _
 unfold F.close_Agree at hs
 refine CP.seqR ?_
 refine WP.alloc (T := 49) (t + 1) [encA .u8 d1, [.slice a2 n2 c2]] [8, 1] (by kernel_rfl) (by simp [len_encA]) ?_
 intro g1 b3 st1 hB3
 replace hB2 := hB2.mono st1 (fun x => x)
 replace hR1 := hR1.mono st1 (fun x => x)
 replace hB1 := hB1.mono st1 (fun x => x)
 replace hR2 := hR2.mono st1 (fun x => x)
 replace hR3 := hR3.mono st1 (fun x => x)
 replace hR4 := hR4.mono st1 (fun x => x)
 replace hR5 := hR5.mono st1 (fun x => x)
 replace tot := tot.trans st1.pure
 refine WP.stl 1 ?_
 refine WP.dn ?_
 refine NX.then_n ?_
 refine CP.seq ?_
 refine CP.seqR ?_
 refine WP.stl 2 ?_
 refine WP.len (a := a3) (cp := c3) hR3.len (by kernel_rfl) ?_
 refine WP.stl 1 ?_
 refine WP.loadB (v := .slice a2 n2 c2) hB3 (by kernel_rfl) (by kernel_rfl) ?_
 replace hs := Option.bind_eq_some_iff.1 hs
 obtain ⟨x2, hk1, hs⟩ := hs
 have hcal1 := P.close_Adds g1 x1 (l3.length : Int) l2 a2 n2 c2 hR2 x2 hk1
 refine WP.callC hcal1 (by kernel_rfl) ?_
 rintro _ g2 st2 rfl
 replace hB2 := hB2.mono st2 (fun x => x)
 replace hR1 := hR1.mono st2 (fun x => x)
 replace hB1 := hB1.mono st2 (fun x => x)
 replace hR3 := hR3.mono st2 (fun x => x)
 replace hR4 := hR4.mono st2 (fun x => x)
 replace hR5 := hR5.mono st2 (fun x => x)
 replace hB3 := hB3.mono st2 (fun x => x)
 replace hR2 := hR2.mono st2 (fun x => x)
 replace tot := tot.trans st2.pure
 refine WP.stl 1 ?_
 refine WP.dn ?_
 refine NX.then_n ?_
 refine CP.seqR ?_
 refine WP.stl 2 ?_
 refine WP.dn ?_
 refine NX.then_n ?_
 refine CP.cond (b := (x2 != 0)) (by kernel_rfl) (fun h1 => ?_) (fun h1 => ?_)
 ·replace hs := of_if_t hs h1
  refine CP.seqR ?_
  refine WP.stl 2 ?_
  refine WP.dn ?_
  refine NX.then_n ?_
  refine CP.refr 40 [(12, .int .i64 x2)] (by kernel_rfl) (by kernel_rfl) ?_
  clear ds
  intro ds
  refine CP.ret ?_
  refine NX.then_r ?_
  replace hs := Option.some.inj hs
  obtain rfl := hs
  exact NX.fin (v := .int .i64 x2) (Res.still (by kernel_rfl)) tot htL rfl
 replace hs := of_if_f hs h1
 refine CP.skip ?_
 refine NX.then_n ?_
 refine CP.seq ?_
 refine CP.block ?_
 refine CP.seqR ?_
 refine WP.stl 1 ?_
 refine WP.len (a := a5) (cp := c5) hR5.len (by kernel_rfl) ?_
 refine WP.stl 1 ?_
 refine WP.len (a := a3) (cp := c3) hR3.len (by kernel_rfl) ?_
 refine WP.stl 2 ?_
 refine WP.dn ?_
 refine NX.then_n ?_
 refine CP.refr 40 [(0, .iface 50 (.pointer (some ⟨b1, 0, none⟩))), (3, .slice a3 n3 c3), (4, .slice a4 n4 c4), (5, .slice a5 n5 c5), (7, .pointer (some ⟨b3, 0, none⟩)), (23, .bool ((l5.length : Int) != (l3.length : Int)))] (by kernel_rfl) (by kernel_rfl) ?_
 clear ds
 intro ds
 refine CP.cond (b := ((l5.length : Int) != (l3.length : Int))) (by kernel_rfl) (fun h2 => ?_) (fun h2 => ?_)
 ·replace hs := of_if_t hs h2
  refine CP.seqR ?_
  refine WP.stl 1 ?_
  refine WP.dn ?_
  refine NX.then_n ?_
  refine CP.ret ?_
  refine NX.block_r ?_
  refine NX.then_r ?_
  replace hs := Option.some.inj hs
  obtain rfl := hs
  exact NX.fin (v := .int .i64 3) (Res.still (by kernel_rfl)) tot htL rfl
 replace hs := of_if_f hs h2
 refine CP.seqR ?_
 refine WP.stl 1 ?_
 replace hs := Option.bind_eq_some_iff.1 hs
 obtain ⟨q1, hk2, hs⟩ := hs
 have hcal2 := P.slices_Contains_bool_bool g2 l5 false a5 n5 c5 hR5 q1 hk2
 refine WP.callC hcal2 (by kernel_rfl) ?_
 rintro _ g3 st3 rfl
 replace hB2 := hB2.mono st3 (fun x => x)
 replace hR1 := hR1.mono st3 (fun x => x)
 replace hB1 := hB1.mono st3 (fun x => x)
 replace hR3 := hR3.mono st3 (fun x => x)
 replace hR4 := hR4.mono st3 (fun x => x)
 replace hR5 := hR5.mono st3 (fun x => x)
 replace hB3 := hB3.mono st3 (fun x => x)
 replace hR2 := hR2.mono st3 (fun x => x)
 replace tot := tot.trans st3.pure
 refine WP.stl 2 ?_
 refine WP.dn ?_
 refine NX.then_n ?_
 refine CP.cond (b := (!q1)) (by kernel_rfl) (fun h3 => ?_) (fun h3 => ?_)
 ·replace hs := of_if_t hs h3
  refine CP.seqR ?_
  refine WP.stl 1 ?_
  refine WP.dn ?_
  refine NX.then_n ?_
  refine CP.ret ?_
  refine NX.block_r ?_
  refine NX.then_r ?_
  replace hs := Option.some.inj hs
  obtain rfl := hs
  exact NX.fin (v := .int .i64 28) (Res.still (by kernel_rfl)) tot htL rfl
 replace hs := of_if_f hs h3
 refine CP.skip ?_
 refine NX.block_n ?_
 refine NX.then_n ?_
 refine CP.seqR ?_
 refine WP.stl 2 ?_
 refine WP.loadB (v := AG [encA .u8 d1, [.slice a2 n2 c2]]) hB3 (by kernel_rfl) (by kernel_rfl) ?_
 replace hs := Option.bind_eq_some_iff.1 hs
 obtain ⟨d2, hk3, hs⟩ := hs
 have hcal3 := P.state_Payout_Digest g3 d1 l2 a2 n2 c2 hR2 d2 hk3
 refine WP.callC hcal3 (by kernel_rfl) ?_
 rintro _ g4 st4 rfl
 replace hB2 := hB2.mono st4 (fun x => x)
 replace hR1 := hR1.mono st4 (fun x => x)
 replace hB1 := hB1.mono st4 (fun x => x)
 replace hR3 := hR3.mono st4 (fun x => x)
 replace hR4 := hR4.mono st4 (fun x => x)
 replace hR5 := hR5.mono st4 (fun x => x)
 replace hB3 := hB3.mono st4 (fun x => x)
 replace hR2 := hR2.mono st4 (fun x => x)
 replace tot := tot.trans st4.pure
 refine WP.stl 2 ?_
 replace hs := Option.bind_eq_some_iff.1 hs
 obtain ⟨x3, hk4, hs⟩ := hs
 have hcal4 := P.notary_All g4 m0 m1 l1 w1 l3 d2 l4 l5 a1 n1 c1 a3 n3 c3 a4 n4 c4 a5 n5 c5 b1 b2 hR1 hR3 hR4 hR5 hB1 hB2 (by omega) (by omega) (by omega) x3 hk4
 refine WP.callC hcal4 (by kernel_rfl) ?_
 rintro _ g5 st5 rfl
 replace hB2 := hB2.mono st5 (fun x => x)
 replace hR1 := hR1.mono st5 (fun x => x)
 replace hB1 := hB1.mono st5 (fun x => x)
 replace hR3 := hR3.mono st5 (fun x => x)
 replace hR4 := hR4.mono st5 (fun x => x)
 replace hR5 := hR5.mono st5 (fun x => x)
 replace hB3 := hB3.mono st5 (fun x => x)
 replace hR2 := hR2.mono st5 (fun x => x)
 replace tot := tot.trans st5.pure
 refine WP.stl 1 ?_
 refine WP.dn ?_
 refine NX.then_n ?_
 refine CP.ret ?_
 replace hs := Option.some.inj hs
 obtain rfl := hs
 exact NX.fin (v := .int .i64 x3) (Res.still (by kernel_rfl)) tot htL rfl
end Go.Proofs.Ytahpmlekenbafaa
