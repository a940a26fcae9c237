/-
  Walks, written by program: each Go function computes the plain function of its name, in whatever world its arguments' facts hold.
-/
import Derived.Test.YthfmgobnanifnaaWSb1
namespace Go.Proofs.Ythfmgobnanifnaa
open Go.RowKit Go.Lab
attribute [local irreducible] WP CP NX wpList Code.wp Calls
set_option maxRecDepth 100000
set_option maxHeartbeats 4000000
set_option linter.unusedVariables false

def N.notary_bookSigner_Sign_0 : List (List Nat) := [[], [0], [0, 1], [0, 1, 2], [], [0, 1, 2, 3, 4], [0, 1, 2, 3, 4, 5], [0, 1, 2, 3, 4, 5, 6], [0, 1, 2, 3, 4, 5, 6], [0, 1, 2, 3, 4, 5, 6, 7], [0, 1, 2, 3, 4, 5, 6, 7, 8, 9]]
def F.notary_bookSigner_Sign.c1 (l2 : List S_notary_entry) (w2 : (List (S_notary_entry × Int))) (x1 : Int) : Option ((List Int) × Int × (List (S_notary_entry × Int)) × (List S_notary_entry)) := (some ([(IntKind.u8.wrap x1), (IntKind.u8.wrap (shV false .i64 x1 8))], 0, w2, l2))
def N.notary_bookSigner_Sign_1 : List (List Nat) := [[], [], [1], [1, 2], [1, 2, 3], [], [5], [1, 2, 3, 4, 5, 6], [0, 1, 2, 3, 4, 5, 6, 7], [0, 1, 2, 3, 4, 5, 6, 7, 8], [0, 1, 2, 3, 4, 5, 6, 7, 8, 9]]
def F.notary_bookSigner_Sign (l1 : List S_notary_entry) (w1 : (List (S_notary_entry × Int))) (d1 : Arr Int 8) (d2 : Arr Int 8) : Option ((List Int) × Int × (List (S_notary_entry × Int)) × (List S_notary_entry)) := (if (!((mapGet eqk_S_notary_entry 0 w1 (⟨d1, d2⟩ : S_notary_entry)).2)) = true then (if ((l1.length : Int) == 65536) = true then (some ([], 17, w1, l1)) else (if l1.length + ([(⟨d1, d2⟩ : S_notary_entry)]).length ≤ 8796093022208 then (F.notary_bookSigner_Sign.c1 (l1 ++ [(⟨d1, d2⟩ : S_notary_entry)]) (mapSet eqk_S_notary_entry w1 (⟨d1, d2⟩ : S_notary_entry) (l1.length : Int)) (l1.length : Int)) else none)) else (F.notary_bookSigner_Sign.c1 l1 w1 ((mapGet eqk_S_notary_entry 0 w1 (⟨d1, d2⟩ : S_notary_entry)).1)))
theorem P.notary_bookSigner_Sign (g0 : GW) (m0 : Nat) (m1 : Nat) (m2 : Nat) (r0 : Nat) (l1 : List S_notary_entry) (w1 : (List (S_notary_entry × Int))) (d1 : Arr Int 8) (d2 : Arr Int 8) (a1 : Option Addr) (n1 : Nat) (c1 : Nat) (b1 : Nat) (b2 : Nat) (hR1 : OwnS k_S_notary_entry g0 m1 173 a1 n1 c1 l1) (hB1 : MapB g0 m2 b2 kv_S_notary_entry (Value.int .i64) w1) (hB2 : Box g0 m0 b1 90 [[.slice a1 n1 c1], [.map (some b2)]] [1, 1]) (hm1_0 : m1 ≠ m0) (hm2_0 : m2 ≠ m0) (hm2_1 : m2 ≠ m1) (hm0 : m0 ≠ 0) (hm1 : m1 ≠ 0) (hm2 : m2 ≠ 0) (o1 : List Int) (o2 : Int) (o3 : (List (S_notary_entry × Int))) (o4 : (List S_notary_entry)) (hs : F.notary_bookSigner_Sign l1 w1 d1 d2 = some (o1, o2, o3, o4)) :
  Calls Try.prog 121 #[AG [[.pointer (some ⟨b1, 0, none⟩)], encA .u8 d1], AG [encA .u8 d2]] g0.w (Ret (WL [m2, m0, m1]) g0 fun v g => ∃ (a_1 : Option Addr) (n_1 : Nat) (c_1 : Nat) (a_4 : Option Addr) (n_4 : Nat) (c_4 : Nat), v = .tuple #[.slice a_1 n_1 c_1, .int .i64 o2] ∧ OwnS (Kd.int .u8) g r0 5 a_1 n_1 c_1 o1 ∧ MapB g m2 b2 kv_S_notary_entry (Value.int .i64) o3 ∧ OwnS k_S_notary_entry g m1 173 a_4 n_4 c_4 o4 ∧ Box g m0 b1 90 [[.slice a_4 n_4 c_4], [.map (some b2)]] [1, 1]) := by
 refine calls_of (args := [AG [[.pointer (some ⟨b1, 0, none⟩)], encA .u8 d1], AG [encA .u8 d2]]) Try.func121 rfl (m0 + m1 + m2 + r0 + 0) ?_
 intro t ht htL
 refine ⟨_, rfl, ?_⟩
 refine CP.refr 62 [(0, AG [[.pointer (some ⟨b1, 0, none⟩)], encA .u8 d1]), (1, AG [encA .u8 d2])] (by kernel_rfl) (by kernel_rfl) ?_
 intro ds
 have tot : Step (fun l => (WL [m2, m0, m1]) l ∨ t ≤ l) g0 g0 := Step.refl _ _
 unfold F.notary_bookSigner_Sign at hs
 refine CP.seqR ?_
 refine WP.alloc (T := 92) (t + 1) [[.pointer (some ⟨b1, 0, none⟩)], encA .u8 d1] [1, 8] (by kernel_rfl) (by simp [len_encA]) ?_
 intro g1 b3 st1 hB3
 replace hB2 := hB2.mono st1 (fun x => x)
 replace hR1 := hR1.mono st1 (fun x => x) (fun x => x)
 replace hB1 := hB1.mono st1 (fun x => x)
 replace tot := tot.trans st1.pure
 refine WP.alloc (T := 23) (t + 2) [encA .u8 d2] [8] (by kernel_rfl) (by simp [len_encA]) ?_
 intro g2 b4 st2 hB4
 replace hB2 := hB2.mono st2 (fun x => x)
 replace hR1 := hR1.mono st2 (fun x => x) (fun x => x)
 replace hB1 := hB1.mono st2 (fun x => x)
 replace hB3 := hB3.mono st2 (fun x => x)
 replace tot := tot.trans st2.pure
 refine WP.stl 2 ?_
 refine WP.dn ?_
 refine NX.then_n ?_
 refine CP.seqR ?_
 refine WP.stl 1 ?_
 refine WP.loadB (v := .pointer (some ⟨b1, 0, none⟩)) hB3 (by kernel_rfl) (by kernel_rfl) ?_
 refine WP.stl 1 ?_
 refine WP.dn ?_
 refine NX.then_n ?_
 refine CP.seq ?_
 refine CP.seqR ?_
 refine WP.stl 2 ?_
 refine WP.dn ?_
 refine NX.then_n ?_
 refine CP.cond_f (by kernel_rfl) ?_
 refine CP.skip ?_
 refine NX.then_n ?_
 refine CP.seqR ?_
 refine WP.stl 1 ?_
 refine WP.loadB (v := AG [encA .u8 d1]) hB3 (by kernel_rfl) (by kernel_rfl) ?_
 refine WP.loadB (v := AG [encA .u8 d2]) hB4 (by kernel_rfl) (by kernel_rfl) ?_
 refine WP.buildS (places := #[(0, 8), (8, 8)]) (t := 173) [encA .u8 (zA 8), encA .u8 (zA 8)] [8, 8] (by kernel_rfl) (by kernel_rfl) (by simp [len_encA]) (by kernel_rfl) ((.cons (i := 0) (off := 0) (v := AG [encA .u8 d1]) (mid := [encA .u8 d1, encA .u8 (zA 8)]) [encA .u8 d1] [8] (by kernel_rfl) (by kernel_rfl) (by simp [len_encA]) (by kernel_rfl) (.cons (i := 1) (off := 8) (v := AG [encA .u8 d2]) (mid := [encA .u8 d1, encA .u8 d2]) [encA .u8 d2] [8] (by kernel_rfl) (by kernel_rfl) (by simp [len_encA]) (by kernel_rfl) .nil))) ?_
 refine WP.alloc (T := 173) (t + 3) [encA .u8 (zA 8), encA .u8 (zA 8)] [8, 8] (by kernel_rfl) (by simp [len_encA]) ?_
 intro g3 b5 st3 hB5
 replace hB1 := hB1.mono st3 (fun x => x)
 replace hB2 := hB2.mono st3 (fun x => x)
 replace hR1 := hR1.mono st3 (fun x => x) (fun x => x)
 replace hB3 := hB3.mono st3 (fun x => x)
 replace hB4 := hB4.mono st3 (fun x => x)
 replace tot := tot.trans st3.pure
 refine WP.storeB (ty := 173) (off := 0) (v := AG [encA .u8 d1, encA .u8 d2]) hB5 [encA .u8 d1, encA .u8 d2] [8, 8] (by kernel_rfl) (by kernel_rfl) (by simp [len_encA]) (by kernel_rfl) [encA .u8 d1, encA .u8 d2] (by kernel_rfl) (.arr (.arr .nil)) ?_
 intro g4 st4 hB6
 replace hB1 := hB1.mono st4 (WL.no1 (by omega))
 replace hB2 := hB2.mono st4 (WL.no1 (by omega))
 replace hR1 := hR1.mono st4 (WL.no1 (by omega)) (WL.no1 (by omega))
 replace hB3 := hB3.mono st4 (WL.no1 (by omega))
 replace hB4 := hB4.mono st4 (WL.no1 (by omega))
 replace tot := tot.trans (st4.up1 (.inr (by omega)))
 clear hB5
 have hB5 := hB6
 clear hB6
 refine WP.dn ?_
 refine NX.then_n ?_
 refine CP.refr 62 [(6, .pointer (some ⟨b1, 0, none⟩)), (7, .pointer (some ⟨b5, 0, none⟩))] (by kernel_rfl) (by kernel_rfl) ?_
 clear ds
 intro ds
 refine CP.seq ?_
 refine CP.drawL (by kernel_rfl) [3, 4, 5] N.notary_bookSigner_Sign_0 [⟨none, [], [], fun l g => MapB g m2 b2 kv_S_notary_entry (Value.int .i64) w1⟩, ⟨none, [], [], fun l g => Box g m0 b1 90 [[.slice a1 n1 c1], [.map (some b2)]] [1, 1]⟩, ⟨none, [], [], fun l g => Box g (t + 3) b5 173 [encA .u8 d1, encA .u8 d2] [8, 8]⟩, ⟨some 0, [], [0], fun l g => l.getD 0 undef = .map (some b2)⟩, ⟨some 1, [], [1], fun l g => l.getD 0 undef = AG [encA .u8 d1, encA .u8 d2]⟩, ⟨some 2, [], [2], fun l g => l.getD 0 undef = .tuple #[.int .i64 ((mapGet eqk_S_notary_entry 0 w1 (⟨d1, d2⟩ : S_notary_entry)).1), .bool ((mapGet eqk_S_notary_entry 0 w1 (⟨d1, d2⟩ : S_notary_entry)).2)]⟩] [[], [], []] [] [0, 1, 2] [6, 7, 8, 9, 10] (by kernel_rfl) (by simp) (by simp) ⟨fun _ _ _ _ st h0 hl hj hB1 => (hB1.mono st (fun h => absurd (hl _ h) (by simp))), fun _ _ _ _ st h0 hl hj hB2 => (hB2.mono st (fun h => absurd (hl _ h) (by simp))), fun _ _ _ _ st h0 hl hj hB5 => (hB5.mono st (fun h => absurd (hl _ h) (by simp))), fun _ _ _ _ st h0 hl hj e0 => e0, fun _ _ _ _ st h0 hl hj e1 => e1, fun _ _ _ _ st h0 hl hj e2 => e2, tv⟩ ⟨hB1, hB2, hB5, tv, tv, tv, tv⟩ (by kernel_rfl) (fun vs => by kernel_rfl) ?_ ?_ ?_
 ·intro j hj
  have hq : j = 0 ∨ j = 1 ∨ j = 2 ∨ j = 3 ∨ j = 4 := by have h : j < 5 := hj; omega
  rcases hq with rfl | rfl | rfl | rfl | rfl
  ·intro vs gq stq hl hf
   obtain ⟨v0, v1, v2, rfl⟩ := len_k3 hl
   have e2 := (show v2 = .tuple #[.int .i64 ((mapGet eqk_S_notary_entry 0 w1 (⟨d1, d2⟩ : S_notary_entry)).1), .bool ((mapGet eqk_S_notary_entry 0 w1 (⟨d1, d2⟩ : S_notary_entry)).2)] from hf _ (memI 5 rfl) (by kernel_rfl))
   subst e2
   show Option.isSome _ = true
   kernel_rfl
  ·intro vs gq stq hl hf
   obtain ⟨v0, v1, v2, rfl⟩ := len_k3 hl
   have e2 := (show v2 = .tuple #[.int .i64 ((mapGet eqk_S_notary_entry 0 w1 (⟨d1, d2⟩ : S_notary_entry)).1), .bool ((mapGet eqk_S_notary_entry 0 w1 (⟨d1, d2⟩ : S_notary_entry)).2)] from hf _ (memI 5 rfl) (by kernel_rfl))
   subst e2
   show Option.isSome _ = true
   kernel_rfl
  ·intro vs gq stq hl hf
   obtain ⟨v0, v1, v2, rfl⟩ := len_k3 hl
   have e2 := (show v2 = .tuple #[.int .i64 ((mapGet eqk_S_notary_entry 0 w1 (⟨d1, d2⟩ : S_notary_entry)).1), .bool ((mapGet eqk_S_notary_entry 0 w1 (⟨d1, d2⟩ : S_notary_entry)).2)] from hf _ (memI 5 rfl) (by kernel_rfl))
   subst e2
   show Option.isSome _ = true
   kernel_rfl
  ·intro vs gq stq hl hf
   obtain ⟨v0, v1, v2, rfl⟩ := len_k3 hl
   have e2 := (show v2 = .tuple #[.int .i64 ((mapGet eqk_S_notary_entry 0 w1 (⟨d1, d2⟩ : S_notary_entry)).1), .bool ((mapGet eqk_S_notary_entry 0 w1 (⟨d1, d2⟩ : S_notary_entry)).2)] from hf _ (memI 5 rfl) (by kernel_rfl))
   subst e2
   show Option.isSome _ = true
   kernel_rfl
  ·intro vs gq stq hl hf
   obtain ⟨v0, v1, v2, rfl⟩ := len_k3 hl
   have e2 := (show v2 = .tuple #[.int .i64 ((mapGet eqk_S_notary_entry 0 w1 (⟨d1, d2⟩ : S_notary_entry)).1), .bool ((mapGet eqk_S_notary_entry 0 w1 (⟨d1, d2⟩ : S_notary_entry)).2)] from hf _ (memI 5 rfl) (by kernel_rfl))
   subst e2
   show Option.isSome _ = true
   kernel_rfl
 ·intro j hj
  have hq : j = 0 ∨ j = 1 ∨ j = 2 := by have h : j < 3 := hj; omega
  rcases hq with rfl | rfl | rfl
  ·intro vs gq stq hl hf
   obtain ⟨v0, v1, v2, rfl⟩ := len_k3 hl
   have hB2 := (show Box gq m0 b1 90 [[.slice a1 n1 c1], [.map (some b2)]] [1, 1] from hf _ (memI 1 rfl) (by kernel_rfl))
   refine WP.loadB (v := .map (some b2)) hB2 (by kernel_rfl) (by kernel_rfl) ?_
   refine WP.dn (Shown.ok (v := .map (some b2)) (by kernel_rfl) (Step.refl _ _) ?_)
   exact ⟨tv, tv, tv, rfl, tv, tv, tv⟩
  ·intro vs gq stq hl hf
   obtain ⟨v0, v1, v2, rfl⟩ := len_k3 hl
   have hB5 := (show Box gq (t + 3) b5 173 [encA .u8 d1, encA .u8 d2] [8, 8] from hf _ (memI 2 rfl) (by kernel_rfl))
   refine WP.loadB (v := AG [encA .u8 d1, encA .u8 d2]) hB5 (by kernel_rfl) (by kernel_rfl) ?_
   refine WP.dn (Shown.ok (v := AG [encA .u8 d1, encA .u8 d2]) (by kernel_rfl) (Step.refl _ _) ?_)
   exact ⟨tv, tv, tv, tv, rfl, tv, tv⟩
  ·intro vs gq stq hl hf
   obtain ⟨v0, v1, v2, rfl⟩ := len_k3 hl
   have hB1 := (show MapB gq m2 b2 kv_S_notary_entry (Value.int .i64) w1 from hf _ (memI 0 rfl) (by kernel_rfl))
   have e0 := (show v0 = .map (some b2) from hf _ (memI 3 rfl) (by kernel_rfl))
   subst e0
   have e1 := (show v1 = AG [encA .u8 d1, encA .u8 d2] from hf _ (memI 4 rfl) (by kernel_rfl))
   subst e1
   refine WP.mapGet (et := 3) (z := 0) (k := (⟨d1, d2⟩ : S_notary_entry)) hB1 keyOk_S_notary_entry (by kernel_rfl) (by kernel_rfl) ?_
   refine WP.dn (Shown.ok (v := .tuple #[.int .i64 ((mapGet eqk_S_notary_entry 0 w1 (⟨d1, d2⟩ : S_notary_entry)).1), .bool ((mapGet eqk_S_notary_entry 0 w1 (⟨d1, d2⟩ : S_notary_entry)).2)]) (by kernel_rfl) (Step.refl _ _) ?_)
   exact ⟨tv, tv, tv, tv, tv, rfl, tv⟩
 intro vs g5 st5 hl hf
 obtain ⟨v0, v1, v2, rfl⟩ := len_k3 hl
 have e2 := (show v2 = .tuple #[.int .i64 ((mapGet eqk_S_notary_entry 0 w1 (⟨d1, d2⟩ : S_notary_entry)).1), .bool ((mapGet eqk_S_notary_entry 0 w1 (⟨d1, d2⟩ : S_notary_entry)).2)] from hf _ (memI 5 rfl) (by kernel_rfl))
 subst e2
 replace hB1 := hB1.mono st5.toNo (fun x => x)
 replace hB2 := hB2.mono st5.toNo (fun x => x)
 replace hR1 := hR1.mono st5.toNo (fun x => x) (fun x => x)
 replace hB5 := hB5.mono st5.toNo (fun x => x)
 replace tot := tot.trans st5.toNo.pure
 refine NX.then_n ?_
 refine CP.refr 62 [(6, .pointer (some ⟨b1, 0, none⟩)), (7, .pointer (some ⟨b5, 0, none⟩)), (8, .int .i64 ((mapGet eqk_S_notary_entry 0 w1 (⟨d1, d2⟩ : S_notary_entry)).1)), (9, .bool ((mapGet eqk_S_notary_entry 0 w1 (⟨d1, d2⟩ : S_notary_entry)).2))] (by kernel_rfl) (by kernel_rfl) ?_
 clear ds
 intro ds
 refine CP.cut (fun tm g => ∃ (l2 : List S_notary_entry) (a4 : Option Addr) (n2 : Nat) (c3 : Nat) (w2 : (List (S_notary_entry × Int))) (x1 : Int), Fr 62 [(8, .int .i64 x1)] tm ∧ Step (fun l => (WL [m2, m0, m1]) l ∨ t ≤ l) g0 g ∧ Box g m0 b1 90 [[.slice a4 n2 c3], [.map (some b2)]] [1, 1] ∧ OwnS k_S_notary_entry g m1 173 a4 n2 c3 l2 ∧ MapB g m2 b2 kv_S_notary_entry (Value.int .i64) w2 ∧ (F.notary_bookSigner_Sign.c1 l2 w2 x1) = some (o1, o2, o3, o4)) ?_ ?_
 ·refine CP.seqR ?_
  refine WP.stl 2 ?_
  refine WP.dn ?_
  refine NX.then_n ?_
  refine CP.cond (b := (!((mapGet eqk_S_notary_entry 0 w1 (⟨d1, d2⟩ : S_notary_entry)).2))) (by kernel_rfl) (fun h3 => ?_) (fun h3 => ?_)
  ·replace hs := of_if_t hs h3
   refine CP.seq ?_
   refine CP.seqR ?_
   refine WP.stl 3 ?_
   refine WP.loadB (v := .slice a1 n1 c1) hB2 (by kernel_rfl) (by kernel_rfl) ?_
   refine WP.len (a := a1) (cp := c1) hR1.len (by kernel_rfl) ?_
   refine WP.stl 1 ?_
   refine WP.dn ?_
   refine NX.then_n ?_
   refine CP.cond (b := ((l1.length : Int) == 65536)) (by kernel_rfl) (fun h4 => ?_) (fun h4 => ?_)
   ·replace hs := of_if_t hs h4
    refine CP.seqR ?_
    refine WP.stl 2 ?_
    refine WP.dn ?_
    refine NX.then_n ?_
    refine CP.ret ?_
    refine NX.then_r ?_
    refine NX.then_r ?_
    replace hs := Option.some.inj hs
    simp only [Prod.mk.injEq] at hs
    obtain ⟨rfl, rfl, rfl, rfl⟩ := hs
    exact NX.fin (v := .tuple #[.slice none 0 0, .int .i64 17]) (Res.still (by kernel_rfl)) tot htL ⟨none, 0, 0, a1, n1, c1, rfl, (OwnS.nil _ _ _ _), hB1, hR1, hB2⟩
   replace hs := of_if_f hs h4
   refine CP.skip ?_
   refine NX.then_n ?_
   refine CP.seqR ?_
   refine WP.stl 3 ?_
   refine WP.loadB (v := .slice a1 n1 c1) hB2 (by kernel_rfl) (by kernel_rfl) ?_
   refine WP.len (a := a1) (cp := c1) hR1.len (by kernel_rfl) ?_
   refine WP.stl 1 ?_
   refine WP.dn ?_
   refine NX.then_n ?_
   refine CP.refr 62 [(6, .pointer (some ⟨b1, 0, none⟩)), (7, .pointer (some ⟨b5, 0, none⟩)), (8, .int .i64 (l1.length : Int))] (by kernel_rfl) (by kernel_rfl) ?_
   clear ds
   intro ds
   refine CP.seq ?_
   by_cases hc2 : l1.length + ([(⟨d1, d2⟩ : S_notary_entry)]).length ≤ 8796093022208
   case neg => rw [if_neg hc2] at hs; cases hs
   replace hs := of_if_p hs hc2
   refine CP.drawL (by kernel_rfl) [4, 5, 6, 7, 10] N.notary_bookSigner_Sign_1 [⟨none, [1], [], fun l g => Box g m0 b1 90 [[.slice a1 n1 c1], [.map (some b2)]] [1, 1]⟩, ⟨none, [0], [], fun l g => OwnS k_S_notary_entry g m1 173 a1 n1 c1 l1⟩, ⟨none, [], [], fun l g => Box g (t + 3) b5 173 [encA .u8 d1, encA .u8 d2] [8, 8]⟩, ⟨some 0, [], [0], fun l g => l.getD 0 undef = .slice a1 n1 c1⟩, ⟨some 1, [], [1], fun l g => l.getD 0 undef = AG [encA .u8 d1, encA .u8 d2]⟩, ⟨some 2, [], [2], fun l g => ∃ (a6 : Option Addr), l.getD 0 undef = .slice a6 1 1 ∧ OwnS k_S_notary_entry g (t + 6) 173 a6 1 1 ([(⟨d1, d2⟩ : S_notary_entry)])⟩, ⟨some 3, [0], [3], fun l g => ∃ (a7 : Option Addr) (c4 : Nat), l.getD 0 undef = .slice a7 (n1 + 1) c4 ∧ OwnS k_S_notary_entry g m1 173 a7 (n1 + 1) c4 (l1 ++ [(⟨d1, d2⟩ : S_notary_entry)])⟩, ⟨some 4, [0, 1], [3], fun l g => ∃ (a7 : Option Addr) (c4 : Nat), l.getD 0 undef = .slice a7 (n1 + 1) c4 ∧ OwnS k_S_notary_entry g m1 173 a7 (n1 + 1) c4 (l1 ++ [(⟨d1, d2⟩ : S_notary_entry)]) ∧ Box g m0 b1 90 [[.slice a7 (n1 + 1) c4], [.map (some b2)]] [1, 1]⟩] [[], [], [], [0], [1]] [m1, m0] [0, 1, 2, 3, 8, 9] [] (by kernel_rfl) (by simp <;> omega) (by simp <;> omega) ⟨fun _ _ _ _ st h0 hl hj hB2 => (hB2.mono st (hj 1 (by simp) _ rfl)), fun _ _ _ _ st h0 hl hj hR1 => (hR1.mono st h0 (hj 0 (by simp) _ rfl)), fun _ _ _ _ st h0 hl hj hB5 => (hB5.mono st (fun h => absurd (hl _ h) (by simp <;> omega))), fun _ _ _ _ st h0 hl hj e0 => e0, fun _ _ _ _ st h0 hl hj e1 => e1, fun _ _ _ _ st h0 hl hj ⟨a6, e2, hR6⟩ => ⟨a6, e2, (hR6.mono st h0 (fun h => absurd (hl _ h) (by simp <;> omega)))⟩, fun _ _ _ _ st h0 hl hj ⟨a7, c4, e3, hR7⟩ => ⟨a7, c4, e3, (hR7.mono st h0 (hj 0 (by simp) _ rfl))⟩, fun _ _ _ _ st h0 hl hj ⟨a7, c4, e3, hR7, hB2⟩ => ⟨a7, c4, e3, (hR7.mono st h0 (hj 0 (by simp) _ rfl)), (hB2.mono st (hj 1 (by simp) _ rfl))⟩, tv⟩ ⟨hB2, hR1, hB5, tv, tv, tv, tv, tv, tv⟩ (by kernel_rfl) (fun vs => by kernel_rfl) ?_ ?_ ?_
   ·intro j hj; exact absurd hj (by simp)
   ·intro j hj
    have hq : j = 0 ∨ j = 1 ∨ j = 2 ∨ j = 3 ∨ j = 4 := by have h : j < 5 := hj; omega
    rcases hq with rfl | rfl | rfl | rfl | rfl
    ·intro vs gq stq hl hf
     obtain ⟨v0, v1, v2, v3, v4, rfl⟩ := len_k5 hl
     have hB2 := (show Box gq m0 b1 90 [[.slice a1 n1 c1], [.map (some b2)]] [1, 1] from hf _ (memI 0 rfl) (by kernel_rfl))
     refine WP.loadB (v := .slice a1 n1 c1) hB2 (by kernel_rfl) (by kernel_rfl) ?_
     refine WP.dn (Shown.ok (v := .slice a1 n1 c1) (by kernel_rfl) (Step.refl _ _) ?_)
     exact ⟨tv, tv, tv, rfl, tv, tv, tv, tv, tv⟩
    ·intro vs gq stq hl hf
     obtain ⟨v0, v1, v2, v3, v4, rfl⟩ := len_k5 hl
     have hB5 := (show Box gq (t + 3) b5 173 [encA .u8 d1, encA .u8 d2] [8, 8] from hf _ (memI 2 rfl) (by kernel_rfl))
     refine WP.loadB (v := AG [encA .u8 d1, encA .u8 d2]) hB5 (by kernel_rfl) (by kernel_rfl) ?_
     refine WP.dn (Shown.ok (v := AG [encA .u8 d1, encA .u8 d2]) (by kernel_rfl) (Step.refl _ _) ?_)
     exact ⟨tv, tv, tv, tv, rfl, tv, tv, tv, tv⟩
    ·intro vs gq stq hl hf
     obtain ⟨v0, v1, v2, v3, v4, rfl⟩ := len_k5 hl
     have e1 := (show v1 = AG [encA .u8 d1, encA .u8 d2] from hf _ (memI 4 rfl) (by kernel_rfl))
     subst e1
     refine WP.mkSl (kd := k_S_notary_entry) (t := 88) (e := 173) (bytes := 16) (t + 6) [AG [encA .u8 d1, encA .u8 d2]] [(⟨d1, d2⟩ : S_notary_entry)] (by kernel_rfl) (by kernel_rfl) (Nat.le_of_ble_eq_true rfl) (Nat.le_of_ble_eq_true rfl) (all_cons (Kd.len k_S_notary_entry (g := gq) (x := (⟨d1, d2⟩ : S_notary_entry)) (k_S_notary_entry.mk rfl rfl)) all_nil) (⟨_, _, rfl, (k_S_notary_entry.mk rfl rfl), rfl⟩) rfl ?_
     intro g12 a6 st12 hR6
     refine WP.dn (Shown.o (v := .slice a6 1 1) st12.pure ?_)
     exact ⟨tv, tv, tv, tv, tv, ⟨a6, rfl, hR6⟩, tv, tv, tv⟩
    ·intro vs gq stq hl hf
     obtain ⟨v0, v1, v2, v3, v4, rfl⟩ := len_k5 hl
     have hR1 := (show OwnS k_S_notary_entry gq m1 173 a1 n1 c1 l1 from hf _ (memI 1 rfl) (by kernel_rfl))
     have e0 := (show v0 = .slice a1 n1 c1 from hf _ (memI 3 rfl) (by kernel_rfl))
     subst e0
     obtain ⟨a6, e2, hR6⟩ := (show ∃ (a6 : Option Addr), v2 = .slice a6 1 1 ∧ OwnS k_S_notary_entry gq (t + 6) 173 a6 1 1 ([(⟨d1, d2⟩ : S_notary_entry)]) from hf _ (memI 5 rfl) (by kernel_rfl))
     subst e2
     refine WP.append (kd := k_S_notary_entry) (t := 88) (e := 173) (bytes := 16) (a2 := a6) (c2 := 1) hR1 hR6.src hR6.len (by kernel_rfl) (by kernel_rfl) (by omega) (by simp only [maxLen]; omega) (by omega) ?_
     intro g13 a7 c4 st13 hR7
     refine WP.dn (Shown.o (v := .slice a7 (n1 + 1) c4) st13 ?_)
     exact ⟨tv, tv, tv, tv, tv, tv, ⟨a7, c4, rfl, hR7⟩, tv, tv⟩
    ·intro vs gq stq hl hf
     obtain ⟨v0, v1, v2, v3, v4, rfl⟩ := len_k5 hl
     have hB2 := (show Box gq m0 b1 90 [[.slice a1 n1 c1], [.map (some b2)]] [1, 1] from hf _ (memI 0 rfl) (by kernel_rfl))
     obtain ⟨a7, c4, e3, hR7⟩ := (show ∃ (a7 : Option Addr) (c4 : Nat), v3 = .slice a7 (n1 + 1) c4 ∧ OwnS k_S_notary_entry gq m1 173 a7 (n1 + 1) c4 (l1 ++ [(⟨d1, d2⟩ : S_notary_entry)]) from hf _ (memI 6 rfl) (by kernel_rfl))
     subst e3
     refine WP.storeB (ty := 88) (off := 0) (v := .slice a7 (n1 + 1) c4) hB2 [[.slice a7 (n1 + 1) c4]] [1] (by kernel_rfl) (by kernel_rfl) rfl (by kernel_rfl) [[.slice a7 (n1 + 1) c4], [.map (some b2)]] (by kernel_rfl) (.one rfl .nil) ?_
     intro g14 st14 hB9
     refine WP.dn (Shown.o (v := undef) st14 ?_)
     exact ⟨tv, tv, tv, tv, tv, tv, tv, ⟨a7, c4, rfl, (hR7.mono st14 (WL.no (by simp <;> omega)) (WL.no (by simp <;> omega))), hB9⟩, tv⟩
   intro vs g15 st15 hl hf
   obtain ⟨v0, v1, v2, v3, v4, rfl⟩ := len_k5 hl
   obtain ⟨a7, c4, e3, hR7, hB2⟩ := (show ∃ (a7 : Option Addr) (c4 : Nat), v3 = .slice a7 (n1 + 1) c4 ∧ OwnS k_S_notary_entry g15 m1 173 a7 (n1 + 1) c4 (l1 ++ [(⟨d1, d2⟩ : S_notary_entry)]) ∧ Box g15 m0 b1 90 [[.slice a7 (n1 + 1) c4], [.map (some b2)]] [1, 1] from hf _ (memI 7 rfl) (by kernel_rfl))
   subst e3
   replace hB1 := hB1.mono st15 (WL.no2 (by omega) (by omega))
   replace hB5 := hB5.mono st15 (WL.no2 (by omega) (by omega))
   replace tot := tot.trans (st15.up2 (.inl (by simp [WL])) (.inl (by simp [WL])))
   refine NX.then_n ?_
   refine CP.refr 62 [(6, .pointer (some ⟨b1, 0, none⟩)), (7, .pointer (some ⟨b5, 0, none⟩)), (8, .int .i64 (l1.length : Int))] (by kernel_rfl) (by kernel_rfl) ?_
   clear ds
   intro ds
   refine CP.drawL (by kernel_rfl) [3, 4, 6] [[], [0], [0, 1], [0, 1, 2], [], [], [0, 1, 2, 3, 4, 5]] [⟨none, [0], [], fun l g => MapB g m2 b2 kv_S_notary_entry (Value.int .i64) w1⟩, ⟨none, [], [], fun l g => Box g m0 b1 90 [[.slice a7 (n1 + 1) c4], [.map (some b2)]] [1, 1]⟩, ⟨none, [], [], fun l g => Box g (t + 3) b5 173 [encA .u8 d1, encA .u8 d2] [8, 8]⟩, ⟨some 0, [], [0], fun l g => l.getD 0 undef = .map (some b2)⟩, ⟨some 1, [], [1], fun l g => l.getD 0 undef = AG [encA .u8 d1, encA .u8 d2]⟩, ⟨some 2, [0], [], fun l g => MapB g m2 b2 kv_S_notary_entry (Value.int .i64) (mapSet eqk_S_notary_entry w1 (⟨d1, d2⟩ : S_notary_entry) (l1.length : Int))⟩] [[], [], [0]] [m2] [0, 1, 2, 5] [] (by kernel_rfl) (by simp <;> omega) (by simp) ⟨fun _ _ _ _ st h0 hl hj hB1 => (hB1.mono st (hj 0 (by simp) _ rfl)), fun _ _ _ _ st h0 hl hj hB2 => (hB2.mono st (fun h => absurd (hl _ h) (by simp <;> omega))), fun _ _ _ _ st h0 hl hj hB5 => (hB5.mono st (fun h => absurd (hl _ h) (by simp <;> omega))), fun _ _ _ _ st h0 hl hj e0 => e0, fun _ _ _ _ st h0 hl hj e1 => e1, fun _ _ _ _ st h0 hl hj hB1 => (hB1.mono st (hj 0 (by simp) _ rfl)), tv⟩ ⟨hB1, hB2, hB5, tv, tv, tv, tv⟩ (by kernel_rfl) (fun vs => by kernel_rfl) ?_ ?_ ?_
   ·intro j hj; exact absurd hj (by simp)
   ·intro j hj
    have hq : j = 0 ∨ j = 1 ∨ j = 2 := by have h : j < 3 := hj; omega
    rcases hq with rfl | rfl | rfl
    ·intro vs gq stq hl hf
     obtain ⟨v0, v1, v2, rfl⟩ := len_k3 hl
     have hB2 := (show Box gq m0 b1 90 [[.slice a7 (n1 + 1) c4], [.map (some b2)]] [1, 1] from hf _ (memI 1 rfl) (by kernel_rfl))
     refine WP.loadB (v := .map (some b2)) hB2 (by kernel_rfl) (by kernel_rfl) ?_
     refine WP.dn (Shown.ok (v := .map (some b2)) (by kernel_rfl) (Step.refl _ _) ?_)
     exact ⟨tv, tv, tv, rfl, tv, tv, tv⟩
    ·intro vs gq stq hl hf
     obtain ⟨v0, v1, v2, rfl⟩ := len_k3 hl
     have hB5 := (show Box gq (t + 3) b5 173 [encA .u8 d1, encA .u8 d2] [8, 8] from hf _ (memI 2 rfl) (by kernel_rfl))
     refine WP.loadB (v := AG [encA .u8 d1, encA .u8 d2]) hB5 (by kernel_rfl) (by kernel_rfl) ?_
     refine WP.dn (Shown.ok (v := AG [encA .u8 d1, encA .u8 d2]) (by kernel_rfl) (Step.refl _ _) ?_)
     exact ⟨tv, tv, tv, tv, rfl, tv, tv⟩
    ·intro vs gq stq hl hf
     obtain ⟨v0, v1, v2, rfl⟩ := len_k3 hl
     have hB1 := (show MapB gq m2 b2 kv_S_notary_entry (Value.int .i64) w1 from hf _ (memI 0 rfl) (by kernel_rfl))
     have e0 := (show v0 = .map (some b2) from hf _ (memI 3 rfl) (by kernel_rfl))
     subst e0
     have e1 := (show v1 = AG [encA .u8 d1, encA .u8 d2] from hf _ (memI 4 rfl) (by kernel_rfl))
     subst e1
     refine WP.mapSet (k := (⟨d1, d2⟩ : S_notary_entry)) (v := (l1.length : Int)) hB1 keyOk_S_notary_entry (by kernel_rfl) ?_
     intro g16 st16 hB10
     refine WP.dn (Shown.o (v := undef) st16 ?_)
     exact ⟨tv, tv, tv, tv, tv, hB10, tv⟩
   intro vs g17 st17 hl hf
   obtain ⟨v0, v1, v2, rfl⟩ := len_k3 hl
   have hB1 := (show MapB g17 m2 b2 kv_S_notary_entry (Value.int .i64) (mapSet eqk_S_notary_entry w1 (⟨d1, d2⟩ : S_notary_entry) (l1.length : Int)) from hf _ (memI 5 rfl) (by kernel_rfl))
   replace hB2 := hB2.mono st17 (WL.no1 (by omega))
   replace hR7 := hR7.mono st17 (WL.no1 (by omega)) (WL.no1 (by omega))
   replace tot := tot.trans (st17.up1 (.inl (by simp [WL])))
   refine NX.post ?_
   exact ⟨(l1 ++ [(⟨d1, d2⟩ : S_notary_entry)]), a7, (n1 + 1), c4, (mapSet eqk_S_notary_entry w1 (⟨d1, d2⟩ : S_notary_entry) (l1.length : Int)), (l1.length : Int), ⟨by kernel_rfl, by kernel_rfl⟩, tot, hB2, hR7, hB1, hs⟩
  replace hs := of_if_f hs h3
  refine CP.skip ?_
  refine NX.post ?_
  exact ⟨l1, a1, n1, c1, w1, (mapGet eqk_S_notary_entry 0 w1 (⟨d1, d2⟩ : S_notary_entry)).1, ⟨by kernel_rfl, by kernel_rfl⟩, tot, hB2, hR1, hB1, hs⟩
 clear tot hs hB1 hB2 hR1 hB5
 rintro tm g ⟨l2, a4, n2, c3, w2, x1, hF, tot, hB2, hR4, hB1, hs⟩
 clear ds
 obtain ⟨ds, rfl⟩ := hF.open
 clear hF
 unfold F.notary_bookSigner_Sign.c1 at hs
 refine CP.seqR ?_
 refine WP.stl 5 ?_
 refine WP.mkSl (kd := (Kd.int .u8)) (t := 24) (e := 5) (bytes := 1) (t + 5) [.int .u8 (IntKind.u8.wrap x1), .int .u8 (IntKind.u8.wrap (shV false .i64 x1 8))] [(IntKind.u8.wrap x1), (IntKind.u8.wrap (shV false .i64 x1 8))] (by kernel_rfl) (by kernel_rfl) (Nat.le_of_ble_eq_true rfl) (Nat.le_of_ble_eq_true rfl) (all_cons rfl (all_cons rfl all_nil)) (⟨_, _, rfl, (by exact rfl), ⟨_, _, rfl, (by exact rfl), rfl⟩⟩) rfl ?_
 intro g10 a5 st10 hR5
 replace hB2 := hB2.mono st10 (fun x => x)
 replace hR4 := hR4.mono st10 (fun x => x) (fun x => x)
 replace hB1 := hB1.mono st10 (fun x => x)
 replace tot := tot.trans st10.pure
 refine WP.stl 2 ?_
 refine WP.dn ?_
 refine NX.then_n ?_
 refine CP.ret ?_
 obtain ⟨g11, hw1, st11, hnew⟩ := hR5.relab (by omega) r0
 refine NX.regw hw1 ?_
 replace hB2 := hB2.mono st11 (WL.no1 (by omega))
 replace hR4 := hR4.mono st11 (WL.no1 (by omega)) (WL.no1 (by omega))
 replace hB1 := hB1.mono st11 (WL.no1 (by omega))
 replace tot := tot.trans (st11.up1 (.inr (by omega)))
 clear hR5
 have hR5 := hnew
 clear hnew
 replace hs := Option.some.inj hs
 simp only [Prod.mk.injEq] at hs
 obtain ⟨rfl, rfl, rfl, rfl⟩ := hs
 exact NX.fin (v := .tuple #[.slice a5 2 2, .int .i64 0]) (Res.still (by kernel_rfl)) tot htL ⟨a5, 2, 2, a4, n2, c3, rfl, hR5, hB1, hR4, hB2⟩
def N.notary_Book_Verify_0 : List (List Nat) := [[], [0], [0, 1], [0, 1, 2], [], [], [4, 5], [0, 1, 2, 3, 4, 5, 6], [0, 1, 2, 3, 4, 5, 6, 7], [0, 1, 2, 3, 4, 5, 6, 7, 8], [0, 1, 2, 3, 4, 5, 6, 7, 8], [0, 1, 2, 3, 4, 5, 6, 7, 8, 9], [0, 1, 2, 3, 4, 5, 6, 7, 8, 9, 10, 11]]
def F.notary_Book_Verify.c1 (q1 : Bool) : Option (Bool) := (some q1)
def N.notary_Book_Verify_1 : List (List Nat) := [[], [0], [0, 1], [0, 1], [0, 1, 3], [0, 1, 3, 4], [0, 1, 3, 4, 5], [0, 1], [0, 1, 7], [0, 1, 7, 8], [0, 1, 7, 8, 9], [0, 1, 7, 8, 9, 10], [0, 1, 3, 4, 5, 6, 7, 8, 9, 10, 11], [0, 1, 2, 3, 4, 5, 6, 7, 8, 9, 10, 11, 12], [0, 1, 2, 3, 4, 5, 6, 7, 8, 9, 10, 11, 12, 13], [0, 1, 2, 3, 4, 5, 6, 7, 8, 9, 10, 11, 12, 13, 14]]
def F.notary_Book_Verify (l1 : List S_notary_entry) (w1 : (List (S_notary_entry × Int))) (d1 : Arr Int 8) (d2 : Arr Int 8) (l2 : List Int) : Option (Bool) := (if ((l2.length : Int) != 2) = true then (some false) else (if (mapGet eqk_S_notary_entry 0 w1 (⟨d1, d2⟩ : S_notary_entry)).2 = true then (if (0 : Int) ≤ 0 ∧ 0 < (l2.length : Int) then (if (0 : Int) ≤ 1 ∧ 1 < (l2.length : Int) then (F.notary_Book_Verify.c1 (((mapGet eqk_S_notary_entry 0 w1 (⟨d1, d2⟩ : S_notary_entry)).1) == (bitOr .i64 (IntKind.i64.wrap (getI l2 0)) (shV true .i64 (IntKind.i64.wrap (getI l2 1)) 8)))) else none) else none) else (F.notary_Book_Verify.c1 false)))
theorem P.notary_Book_Verify (g0 : GW) (m0 : Nat) (m1 : Nat) (l1 : List S_notary_entry) (w1 : (List (S_notary_entry × Int))) (d1 : Arr Int 8) (d2 : Arr Int 8) (l2 : List Int) (a1 : Option Addr) (n1 : Nat) (c1 : Nat) (a2 : Option Addr) (n2 : Nat) (c2 : Nat) (b1 : Nat) (b2 : Nat) (hR1 : RdS k_S_notary_entry g0 173 a1 n1 c1 l1) (hR2 : RdS (Kd.int .u8) g0 5 a2 n2 c2 l2) (hB1 : MapB g0 m1 b2 kv_S_notary_entry (Value.int .i64) w1) (hB2 : Box g0 m0 b1 90 [[.slice a1 n1 c1], [.map (some b2)]] [1, 1]) (hm1_0 : m1 ≠ m0) (hm0 : m0 ≠ 0) (hm1 : m1 ≠ 0) (o1 : Bool) (hs : F.notary_Book_Verify l1 w1 d1 d2 l2 = some o1) :
  Calls Try.prog 118 #[.pointer (some ⟨b1, 0, none⟩), AG [encA .u8 d1], AG [encA .u8 d2], .slice a2 n2 c2] g0.w (Ret NoM g0 fun v g => v = .bool o1) := by
 refine calls_of (args := [.pointer (some ⟨b1, 0, none⟩), AG [encA .u8 d1], AG [encA .u8 d2], .slice a2 n2 c2]) Try.func118 rfl (m0 + m1 + 0) ?_
 intro t ht htL
 refine ⟨_, rfl, ?_⟩
 refine CP.refr 44 [(0, .pointer (some ⟨b1, 0, none⟩)), (1, AG [encA .u8 d1]), (2, AG [encA .u8 d2]), (3, .slice a2 n2 c2)] (by kernel_rfl) (by kernel_rfl) ?_
 intro ds
 have tot : Step (fun l => NoM l ∨ t ≤ l) g0 g0 := Step.refl _ _
 unfold F.notary_Book_Verify at hs
 refine CP.seqR ?_
 refine WP.alloc (T := 23) (t + 1) [encA .u8 d1] [8] (by kernel_rfl) (by simp [len_encA]) ?_
 intro g1 b3 st1 hB3
 replace hB2 := hB2.mono st1 (fun x => x)
 replace hR1 := hR1.mono st1 (fun x => x)
 replace hB1 := hB1.mono st1 (fun x => x)
 replace hR2 := hR2.mono st1 (fun x => x)
 replace tot := tot.trans st1.pure
 refine WP.alloc (T := 23) (t + 2) [encA .u8 d2] [8] (by kernel_rfl) (by simp [len_encA]) ?_
 intro g2 b4 st2 hB4
 replace hB2 := hB2.mono st2 (fun x => x)
 replace hR1 := hR1.mono st2 (fun x => x)
 replace hB1 := hB1.mono st2 (fun x => x)
 replace hR2 := hR2.mono st2 (fun x => x)
 replace hB3 := hB3.mono st2 (fun x => x)
 replace tot := tot.trans st2.pure
 refine WP.stl 1 ?_
 refine WP.dn ?_
 refine NX.then_n ?_
 refine CP.seq ?_
 refine CP.seq ?_
 refine CP.region ?_
 refine WP.stl 4 ?_
 refine WP.len (a := a2) (cp := c2) hR2.len (by kernel_rfl) ?_
 refine WP.stl 2 ?_
 refine WP.dn ?_
 refine NX.then_n ?_
 refine CP.cond (b := ((l2.length : Int) != 2)) (by kernel_rfl) (fun h1 => ?_) (fun h1 => ?_)
 ·replace hs := of_if_t hs h1
  refine CP.seqR ?_
  refine WP.stl 1 ?_
  refine WP.dn ?_
  refine NX.then_n ?_
  refine CP.ret ?_
  refine NX.then_r ?_
  replace hs := Option.some.inj hs
  obtain rfl := hs
  exact NX.fin (v := .bool false) (Res.still (by kernel_rfl)) tot htL rfl
 replace hs := of_if_f hs h1
 refine CP.skip ?_
 refine NX.then_n ?_
 refine CP.seq ?_
 refine CP.drawL (by kernel_rfl) [3, 4, 5, 6, 7] N.notary_Book_Verify_0 [⟨none, [], [], fun l g => Box g m0 b1 90 [[.slice a1 n1 c1], [.map (some b2)]] [1, 1]⟩, ⟨none, [], [], fun l g => MapB g m1 b2 kv_S_notary_entry (Value.int .i64) w1⟩, ⟨none, [], [], fun l g => Box g (t + 1) b3 23 [encA .u8 d1] [8]⟩, ⟨none, [], [], fun l g => Box g (t + 2) b4 23 [encA .u8 d2] [8]⟩, ⟨some 0, [], [0], fun l g => l.getD 0 undef = .map (some b2)⟩, ⟨some 1, [], [1], fun l g => l.getD 0 undef = AG [encA .u8 d1]⟩, ⟨some 2, [], [2], fun l g => l.getD 0 undef = AG [encA .u8 d2]⟩, ⟨some 3, [], [3], fun l g => l.getD 0 undef = AG [encA .u8 d1, encA .u8 d2]⟩, ⟨some 4, [], [4], fun l g => l.getD 0 undef = .tuple #[.int .i64 ((mapGet eqk_S_notary_entry 0 w1 (⟨d1, d2⟩ : S_notary_entry)).1), .bool ((mapGet eqk_S_notary_entry 0 w1 (⟨d1, d2⟩ : S_notary_entry)).2)]⟩] [[], [], [], [], []] [] [0, 1, 2] [8, 9, 10, 11, 12] (by kernel_rfl) (by simp) (by simp) ⟨fun _ _ _ _ st h0 hl hj hB2 => (hB2.mono st (fun h => absurd (hl _ h) (by simp))), fun _ _ _ _ st h0 hl hj hB1 => (hB1.mono st (fun h => absurd (hl _ h) (by simp))), fun _ _ _ _ st h0 hl hj hB3 => (hB3.mono st (fun h => absurd (hl _ h) (by simp))), fun _ _ _ _ st h0 hl hj hB4 => (hB4.mono st (fun h => absurd (hl _ h) (by simp))), fun _ _ _ _ st h0 hl hj e0 => e0, fun _ _ _ _ st h0 hl hj e1 => e1, fun _ _ _ _ st h0 hl hj e2 => e2, fun _ _ _ _ st h0 hl hj e3 => e3, fun _ _ _ _ st h0 hl hj e4 => e4, tv⟩ ⟨hB2, hB1, hB3, hB4, tv, tv, tv, tv, tv, tv⟩ (by kernel_rfl) (fun vs => by kernel_rfl) ?_ ?_ ?_
 ·intro j hj
  have hq : j = 0 ∨ j = 1 ∨ j = 2 ∨ j = 3 ∨ j = 4 := by have h : j < 5 := hj; omega
  rcases hq with rfl | rfl | rfl | rfl | rfl
  ·intro vs gq stq hl hf
   obtain ⟨v0, v1, v2, v3, v4, rfl⟩ := len_k5 hl
   have e4 := (show v4 = .tuple #[.int .i64 ((mapGet eqk_S_notary_entry 0 w1 (⟨d1, d2⟩ : S_notary_entry)).1), .bool ((mapGet eqk_S_notary_entry 0 w1 (⟨d1, d2⟩ : S_notary_entry)).2)] from hf _ (memI 8 rfl) (by kernel_rfl))
   subst e4
   show Option.isSome _ = true
   kernel_rfl
  ·intro vs gq stq hl hf
   obtain ⟨v0, v1, v2, v3, v4, rfl⟩ := len_k5 hl
   have e4 := (show v4 = .tuple #[.int .i64 ((mapGet eqk_S_notary_entry 0 w1 (⟨d1, d2⟩ : S_notary_entry)).1), .bool ((mapGet eqk_S_notary_entry 0 w1 (⟨d1, d2⟩ : S_notary_entry)).2)] from hf _ (memI 8 rfl) (by kernel_rfl))
   subst e4
   show Option.isSome _ = true
   kernel_rfl
  ·intro vs gq stq hl hf
   obtain ⟨v0, v1, v2, v3, v4, rfl⟩ := len_k5 hl
   have e4 := (show v4 = .tuple #[.int .i64 ((mapGet eqk_S_notary_entry 0 w1 (⟨d1, d2⟩ : S_notary_entry)).1), .bool ((mapGet eqk_S_notary_entry 0 w1 (⟨d1, d2⟩ : S_notary_entry)).2)] from hf _ (memI 8 rfl) (by kernel_rfl))
   subst e4
   show Option.isSome _ = true
   kernel_rfl
  ·intro vs gq stq hl hf
   obtain ⟨v0, v1, v2, v3, v4, rfl⟩ := len_k5 hl
   have e4 := (show v4 = .tuple #[.int .i64 ((mapGet eqk_S_notary_entry 0 w1 (⟨d1, d2⟩ : S_notary_entry)).1), .bool ((mapGet eqk_S_notary_entry 0 w1 (⟨d1, d2⟩ : S_notary_entry)).2)] from hf _ (memI 8 rfl) (by kernel_rfl))
   subst e4
   show Option.isSome _ = true
   kernel_rfl
  ·intro vs gq stq hl hf
   obtain ⟨v0, v1, v2, v3, v4, rfl⟩ := len_k5 hl
   have e4 := (show v4 = .tuple #[.int .i64 ((mapGet eqk_S_notary_entry 0 w1 (⟨d1, d2⟩ : S_notary_entry)).1), .bool ((mapGet eqk_S_notary_entry 0 w1 (⟨d1, d2⟩ : S_notary_entry)).2)] from hf _ (memI 8 rfl) (by kernel_rfl))
   subst e4
   show Option.isSome _ = true
   kernel_rfl
 ·intro j hj
  have hq : j = 0 ∨ j = 1 ∨ j = 2 ∨ j = 3 ∨ j = 4 := by have h : j < 5 := hj; omega
  rcases hq with rfl | rfl | rfl | rfl | rfl
  ·intro vs gq stq hl hf
   obtain ⟨v0, v1, v2, v3, v4, rfl⟩ := len_k5 hl
   have hB2 := (show Box gq m0 b1 90 [[.slice a1 n1 c1], [.map (some b2)]] [1, 1] from hf _ (memI 0 rfl) (by kernel_rfl))
   refine WP.loadB (v := .map (some b2)) hB2 (by kernel_rfl) (by kernel_rfl) ?_
   refine WP.dn (Shown.ok (v := .map (some b2)) (by kernel_rfl) (Step.refl _ _) ?_)
   exact ⟨tv, tv, tv, tv, rfl, tv, tv, tv, tv, tv⟩
  ·intro vs gq stq hl hf
   obtain ⟨v0, v1, v2, v3, v4, rfl⟩ := len_k5 hl
   have hB3 := (show Box gq (t + 1) b3 23 [encA .u8 d1] [8] from hf _ (memI 2 rfl) (by kernel_rfl))
   refine WP.loadB (v := AG [encA .u8 d1]) hB3 (by kernel_rfl) (by kernel_rfl) ?_
   refine WP.dn (Shown.ok (v := AG [encA .u8 d1]) (by kernel_rfl) (Step.refl _ _) ?_)
   exact ⟨tv, tv, tv, tv, tv, rfl, tv, tv, tv, tv⟩
  ·intro vs gq stq hl hf
   obtain ⟨v0, v1, v2, v3, v4, rfl⟩ := len_k5 hl
   have hB4 := (show Box gq (t + 2) b4 23 [encA .u8 d2] [8] from hf _ (memI 3 rfl) (by kernel_rfl))
   refine WP.loadB (v := AG [encA .u8 d2]) hB4 (by kernel_rfl) (by kernel_rfl) ?_
   refine WP.dn (Shown.ok (v := AG [encA .u8 d2]) (by kernel_rfl) (Step.refl _ _) ?_)
   exact ⟨tv, tv, tv, tv, tv, tv, rfl, tv, tv, tv⟩
  ·intro vs gq stq hl hf
   obtain ⟨v0, v1, v2, v3, v4, rfl⟩ := len_k5 hl
   have e1 := (show v1 = AG [encA .u8 d1] from hf _ (memI 5 rfl) (by kernel_rfl))
   subst e1
   have e2 := (show v2 = AG [encA .u8 d2] from hf _ (memI 6 rfl) (by kernel_rfl))
   subst e2
   refine WP.buildS (places := #[(0, 8), (8, 8)]) (t := 173) [encA .u8 (zA 8), encA .u8 (zA 8)] [8, 8] (by kernel_rfl) (by kernel_rfl) (by simp [len_encA]) (by kernel_rfl) ((.cons (i := 0) (off := 0) (v := AG [encA .u8 d1]) (mid := [encA .u8 d1, encA .u8 (zA 8)]) [encA .u8 d1] [8] (by kernel_rfl) (by kernel_rfl) (by simp [len_encA]) (by kernel_rfl) (.cons (i := 1) (off := 8) (v := AG [encA .u8 d2]) (mid := [encA .u8 d1, encA .u8 d2]) [encA .u8 d2] [8] (by kernel_rfl) (by kernel_rfl) (by simp [len_encA]) (by kernel_rfl) .nil))) ?_
   refine WP.dn (Shown.ok (v := AG [encA .u8 d1, encA .u8 d2]) (by kernel_rfl) (Step.refl _ _) ?_)
   exact ⟨tv, tv, tv, tv, tv, tv, tv, rfl, tv, tv⟩
  ·intro vs gq stq hl hf
   obtain ⟨v0, v1, v2, v3, v4, rfl⟩ := len_k5 hl
   have hB1 := (show MapB gq m1 b2 kv_S_notary_entry (Value.int .i64) w1 from hf _ (memI 1 rfl) (by kernel_rfl))
   have e0 := (show v0 = .map (some b2) from hf _ (memI 4 rfl) (by kernel_rfl))
   subst e0
   have e3 := (show v3 = AG [encA .u8 d1, encA .u8 d2] from hf _ (memI 7 rfl) (by kernel_rfl))
   subst e3
   refine WP.mapGet (et := 3) (z := 0) (k := (⟨d1, d2⟩ : S_notary_entry)) hB1 keyOk_S_notary_entry (by kernel_rfl) (by kernel_rfl) ?_
   refine WP.dn (Shown.ok (v := .tuple #[.int .i64 ((mapGet eqk_S_notary_entry 0 w1 (⟨d1, d2⟩ : S_notary_entry)).1), .bool ((mapGet eqk_S_notary_entry 0 w1 (⟨d1, d2⟩ : S_notary_entry)).2)]) (by kernel_rfl) (Step.refl _ _) ?_)
   exact ⟨tv, tv, tv, tv, tv, tv, tv, tv, rfl, tv⟩
 intro vs g3 st3 hl hf
 obtain ⟨v0, v1, v2, v3, v4, rfl⟩ := len_k5 hl
 have e4 := (show v4 = .tuple #[.int .i64 ((mapGet eqk_S_notary_entry 0 w1 (⟨d1, d2⟩ : S_notary_entry)).1), .bool ((mapGet eqk_S_notary_entry 0 w1 (⟨d1, d2⟩ : S_notary_entry)).2)] from hf _ (memI 8 rfl) (by kernel_rfl))
 subst e4
 replace hR2 := hR2.mono st3.toNo (fun x => x)
 replace tot := tot.trans st3.toNo.pure
 refine NX.then_n ?_
 refine CP.refr 44 [(3, .slice a2 n2 c2), (9, .int .i64 ((mapGet eqk_S_notary_entry 0 w1 (⟨d1, d2⟩ : S_notary_entry)).1)), (10, .bool ((mapGet eqk_S_notary_entry 0 w1 (⟨d1, d2⟩ : S_notary_entry)).2))] (by kernel_rfl) (by kernel_rfl) ?_
 clear ds
 intro ds
 refine CP.cut (fun tm g => ∃ (q1 : Bool), Fr 44 [(8, .bool q1)] tm ∧ Step (fun l => NoM l ∨ t ≤ l) g0 g ∧ (F.notary_Book_Verify.c1 q1) = some o1) ?_ ?_
 ·refine bool_split (b := (mapGet eqk_S_notary_entry 0 w1 (⟨d1, d2⟩ : S_notary_entry)).2) (fun h3 => ?_) (fun h3 => ?_)
  ·replace hs := of_if_t hs h3
   by_cases hc3 : (0 : Int) ≤ 0 ∧ 0 < (l2.length : Int)
   case neg => rw [if_neg hc3] at hs; cases hs
   replace hs := of_if_p hs hc3
   by_cases hc4 : (0 : Int) ≤ 1 ∧ 1 < (l2.length : Int)
   case neg => rw [if_neg hc4] at hs; cases hs
   replace hs := of_if_p hs hc4
   obtain ⟨b7, u3, ha3⟩ := hR2.at hc3
   obtain ⟨b8, u4, ha4⟩ := hR2.at hc4
   refine CP.drawL (by kernel_rfl) [1, 4, 5, 8, 9] N.notary_Book_Verify_1 [⟨none, [], [], fun l g => RdS (Kd.int .u8) g 5 a2 n2 c2 l2⟩, ⟨some 0, [], [0], fun l g => l.getD 0 undef = .bool true⟩, ⟨some 1, [], [1], fun l g => l.getD 0 undef = .pointer (some ⟨b7, u3 + (0 : Int).toNat * 1, none⟩)⟩, ⟨some 2, [], [2], fun l g => l.getD 0 undef = .int .u8 (getI l2 0)⟩, ⟨some 3, [], [3], fun l g => l.getD 0 undef = .pointer (some ⟨b8, u4 + (1 : Int).toNat * 1, none⟩)⟩, ⟨some 4, [], [4], fun l g => l.getD 0 undef = .int .u8 (getI l2 1)⟩] [[], [], [], [], []] [] [0] [2, 3, 6, 7, 10, 11, 12, 13, 14, 15] (by kernel_rfl) (by simp) (by simp) ⟨fun _ _ _ _ st h0 hl hj hR2 => (RdS.mono (e := 5) hR2 st h0), fun _ _ _ _ st h0 hl hj e0 => e0, fun _ _ _ _ st h0 hl hj e1 => e1, fun _ _ _ _ st h0 hl hj e2 => e2, fun _ _ _ _ st h0 hl hj e3 => e3, fun _ _ _ _ st h0 hl hj e4 => e4, tv⟩ ⟨hR2, tv, tv, tv, tv, tv, tv⟩ (by kernel_rfl) (fun vs => by kernel_rfl) ?_ ?_ ?_
   ·intro j hj
    have hq : j = 0 ∨ j = 1 ∨ j = 2 ∨ j = 3 ∨ j = 4 ∨ j = 5 ∨ j = 6 ∨ j = 7 ∨ j = 8 ∨ j = 9 := by have h : j < 10 := hj; omega
    rcases hq with rfl | rfl | rfl | rfl | rfl | rfl | rfl | rfl | rfl | rfl
    ·intro vs gq stq hl hf
     obtain ⟨v0, v1, v2, v3, v4, rfl⟩ := len_k5 hl
     have e0 := (show v0 = .bool true from hf _ (memI 1 rfl) (by kernel_rfl))
     subst e0
     show Option.isSome _ = true
     kernel_rfl
    ·intro vs gq stq hl hf
     obtain ⟨v0, v1, v2, v3, v4, rfl⟩ := len_k5 hl
     have e0 := (show v0 = .bool true from hf _ (memI 1 rfl) (by kernel_rfl))
     subst e0
     show Option.isSome _ = true
     kernel_rfl
    ·intro vs gq stq hl hf
     obtain ⟨v0, v1, v2, v3, v4, rfl⟩ := len_k5 hl
     have e0 := (show v0 = .bool true from hf _ (memI 1 rfl) (by kernel_rfl))
     subst e0
     have e2 := (show v2 = .int .u8 (getI l2 0) from hf _ (memI 3 rfl) (by kernel_rfl))
     subst e2
     show Option.isSome _ = true
     kernel_rfl
    ·intro vs gq stq hl hf
     obtain ⟨v0, v1, v2, v3, v4, rfl⟩ := len_k5 hl
     have e0 := (show v0 = .bool true from hf _ (memI 1 rfl) (by kernel_rfl))
     subst e0
     show Option.isSome _ = true
     kernel_rfl
    ·intro vs gq stq hl hf
     obtain ⟨v0, v1, v2, v3, v4, rfl⟩ := len_k5 hl
     have e0 := (show v0 = .bool true from hf _ (memI 1 rfl) (by kernel_rfl))
     subst e0
     have e4 := (show v4 = .int .u8 (getI l2 1) from hf _ (memI 5 rfl) (by kernel_rfl))
     subst e4
     show Option.isSome _ = true
     kernel_rfl
    ·intro vs gq stq hl hf
     obtain ⟨v0, v1, v2, v3, v4, rfl⟩ := len_k5 hl
     have e0 := (show v0 = .bool true from hf _ (memI 1 rfl) (by kernel_rfl))
     subst e0
     have e4 := (show v4 = .int .u8 (getI l2 1) from hf _ (memI 5 rfl) (by kernel_rfl))
     subst e4
     show Option.isSome _ = true
     kernel_rfl
    ·intro vs gq stq hl hf
     obtain ⟨v0, v1, v2, v3, v4, rfl⟩ := len_k5 hl
     have e0 := (show v0 = .bool true from hf _ (memI 1 rfl) (by kernel_rfl))
     subst e0
     have e2 := (show v2 = .int .u8 (getI l2 0) from hf _ (memI 3 rfl) (by kernel_rfl))
     subst e2
     have e4 := (show v4 = .int .u8 (getI l2 1) from hf _ (memI 5 rfl) (by kernel_rfl))
     subst e4
     show Option.isSome _ = true
     kernel_rfl
    ·intro vs gq stq hl hf
     obtain ⟨v0, v1, v2, v3, v4, rfl⟩ := len_k5 hl
     have e0 := (show v0 = .bool true from hf _ (memI 1 rfl) (by kernel_rfl))
     subst e0
     have e2 := (show v2 = .int .u8 (getI l2 0) from hf _ (memI 3 rfl) (by kernel_rfl))
     subst e2
     have e4 := (show v4 = .int .u8 (getI l2 1) from hf _ (memI 5 rfl) (by kernel_rfl))
     subst e4
     show Option.isSome _ = true
     kernel_rfl
    ·intro vs gq stq hl hf
     obtain ⟨v0, v1, v2, v3, v4, rfl⟩ := len_k5 hl
     have e0 := (show v0 = .bool true from hf _ (memI 1 rfl) (by kernel_rfl))
     subst e0
     have e2 := (show v2 = .int .u8 (getI l2 0) from hf _ (memI 3 rfl) (by kernel_rfl))
     subst e2
     have e4 := (show v4 = .int .u8 (getI l2 1) from hf _ (memI 5 rfl) (by kernel_rfl))
     subst e4
     show Option.isSome _ = true
     kernel_rfl
    ·intro vs gq stq hl hf
     obtain ⟨v0, v1, v2, v3, v4, rfl⟩ := len_k5 hl
     have e0 := (show v0 = .bool true from hf _ (memI 1 rfl) (by kernel_rfl))
     subst e0
     have e2 := (show v2 = .int .u8 (getI l2 0) from hf _ (memI 3 rfl) (by kernel_rfl))
     subst e2
     have e4 := (show v4 = .int .u8 (getI l2 1) from hf _ (memI 5 rfl) (by kernel_rfl))
     subst e4
     show Option.isSome _ = true
     kernel_rfl
   ·intro j hj
    have hq : j = 0 ∨ j = 1 ∨ j = 2 ∨ j = 3 ∨ j = 4 := by have h : j < 5 := hj; omega
    rcases hq with rfl | rfl | rfl | rfl | rfl
    ·intro vs gq stq hl hf
     obtain ⟨v0, v1, v2, v3, v4, rfl⟩ := len_k5 hl
     refine WP.stl 1 ?_
     refine WP.dn (Shown.ok (v := .bool ((mapGet eqk_S_notary_entry 0 w1 (⟨d1, d2⟩ : S_notary_entry)).2)) (by kernel_rfl) (Step.refl _ _) ?_)
     exact ⟨tv, congrArg Value.bool h3, tv, tv, tv, tv, tv⟩
    ·intro vs gq stq hl hf
     obtain ⟨v0, v1, v2, v3, v4, rfl⟩ := len_k5 hl
     have hR2 := (show RdS (Kd.int .u8) gq 5 a2 n2 c2 l2 from hf _ (memI 0 rfl) (by kernel_rfl))
     have e0 := (show v0 = .bool true from hf _ (memI 1 rfl) (by kernel_rfl))
     subst e0
     refine WP.indexA (t := 24) (e := 5) (sz := 1) (cap := c2) (k := .i64) (i := 0) hR2.len ha3 (by kernel_rfl) (by kernel_rfl) hc3 ?_
     refine WP.dn (Shown.ok (v := .pointer (some ⟨b7, u3 + (0 : Int).toNat * 1, none⟩)) (by kernel_rfl) (Step.refl _ _) ?_)
     exact ⟨tv, tv, rfl, tv, tv, tv, tv⟩
    ·intro vs gq stq hl hf
     obtain ⟨v0, v1, v2, v3, v4, rfl⟩ := len_k5 hl
     have hR2 := (show RdS (Kd.int .u8) gq 5 a2 n2 c2 l2 from hf _ (memI 0 rfl) (by kernel_rfl))
     have e0 := (show v0 = .bool true from hf _ (memI 1 rfl) (by kernel_rfl))
     subst e0
     have e1 := (show v1 = .pointer (some ⟨b7, u3 + (0 : Int).toNat * 1, none⟩) from hf _ (memI 2 rfl) (by kernel_rfl))
     subst e1
     obtain ⟨cs3, hcR3, hcV3⟩ := hR2.src.view (getI_some hc3) ha3
     replace hcR3 := Kd.o_int hcR3
     refine WP.loadV [[.int .u8 (getI l2 0)]] [1] hcV3 hcR3 rfl (f := 0) (ty := 5) (agg := false) (size := 1) (rs := [[.int .u8 (getI l2 0)]]) (v := .int .u8 (getI l2 0)) (by kernel_rfl) (by kernel_rfl) (by kernel_rfl) (by kernel_rfl) ?_
     refine WP.dn (Shown.ok (v := .int .u8 (getI l2 0)) (by kernel_rfl) (Step.refl _ _) ?_)
     exact ⟨tv, tv, tv, rfl, tv, tv, tv⟩
    ·intro vs gq stq hl hf
     obtain ⟨v0, v1, v2, v3, v4, rfl⟩ := len_k5 hl
     have hR2 := (show RdS (Kd.int .u8) gq 5 a2 n2 c2 l2 from hf _ (memI 0 rfl) (by kernel_rfl))
     have e0 := (show v0 = .bool true from hf _ (memI 1 rfl) (by kernel_rfl))
     subst e0
     refine WP.indexA (t := 24) (e := 5) (sz := 1) (cap := c2) (k := .i64) (i := 1) hR2.len ha4 (by kernel_rfl) (by kernel_rfl) hc4 ?_
     refine WP.dn (Shown.ok (v := .pointer (some ⟨b8, u4 + (1 : Int).toNat * 1, none⟩)) (by kernel_rfl) (Step.refl _ _) ?_)
     exact ⟨tv, tv, tv, tv, rfl, tv, tv⟩
    ·intro vs gq stq hl hf
     obtain ⟨v0, v1, v2, v3, v4, rfl⟩ := len_k5 hl
     have hR2 := (show RdS (Kd.int .u8) gq 5 a2 n2 c2 l2 from hf _ (memI 0 rfl) (by kernel_rfl))
     have e0 := (show v0 = .bool true from hf _ (memI 1 rfl) (by kernel_rfl))
     subst e0
     have e3 := (show v3 = .pointer (some ⟨b8, u4 + (1 : Int).toNat * 1, none⟩) from hf _ (memI 4 rfl) (by kernel_rfl))
     subst e3
     obtain ⟨cs4, hcR4, hcV4⟩ := hR2.src.view (getI_some hc4) ha4
     replace hcR4 := Kd.o_int hcR4
     refine WP.loadV [[.int .u8 (getI l2 1)]] [1] hcV4 hcR4 rfl (f := 0) (ty := 5) (agg := false) (size := 1) (rs := [[.int .u8 (getI l2 1)]]) (v := .int .u8 (getI l2 1)) (by kernel_rfl) (by kernel_rfl) (by kernel_rfl) (by kernel_rfl) ?_
     refine WP.dn (Shown.ok (v := .int .u8 (getI l2 1)) (by kernel_rfl) (Step.refl _ _) ?_)
     exact ⟨tv, tv, tv, tv, tv, rfl, tv⟩
   intro vs g4 st4 hl hf
   obtain ⟨v0, v1, v2, v3, v4, rfl⟩ := len_k5 hl
   have e0 := (show v0 = .bool true from hf _ (memI 1 rfl) (by kernel_rfl))
   subst e0
   have e2 := (show v2 = .int .u8 (getI l2 0) from hf _ (memI 3 rfl) (by kernel_rfl))
   subst e2
   have e4 := (show v4 = .int .u8 (getI l2 1) from hf _ (memI 5 rfl) (by kernel_rfl))
   subst e4
   replace tot := tot.trans st4.toNo.pure
   refine NX.post ?_
   exact ⟨(((mapGet eqk_S_notary_entry 0 w1 (⟨d1, d2⟩ : S_notary_entry)).1) == (bitOr .i64 (IntKind.i64.wrap (getI l2 0)) (shV true .i64 (IntKind.i64.wrap (getI l2 1)) 8))), ⟨by kernel_rfl, by kernel_rfl⟩, tot, hs⟩
  replace hs := of_if_f hs h3
  refine CP.drawL (by kernel_rfl) [1] N.notary_Book_Verify_1 [⟨some 0, [], [0], fun l g => l.getD 0 undef = .bool false⟩] [[]] [] [0] [2, 3, 4, 5, 6, 7, 8, 9, 10, 11, 12, 13, 14, 15] (by kernel_rfl) (by simp) (by simp) ⟨fun _ _ _ _ st h0 hl hj e0 => e0, tv⟩ ⟨tv, tv⟩ (by kernel_rfl) (fun vs => by kernel_rfl) ?_ ?_ ?_
  ·intro j hj
   have hq : j = 0 ∨ j = 1 ∨ j = 2 ∨ j = 3 ∨ j = 4 ∨ j = 5 ∨ j = 6 ∨ j = 7 ∨ j = 8 ∨ j = 9 ∨ j = 10 ∨ j = 11 ∨ j = 12 ∨ j = 13 := by have h : j < 14 := hj; omega
   rcases hq with rfl | rfl | rfl | rfl | rfl | rfl | rfl | rfl | rfl | rfl | rfl | rfl | rfl | rfl
   ·intro vs gq stq hl hf
    obtain ⟨v0, rfl⟩ := len_k1 hl
    have e0 := (show v0 = .bool false from hf _ (memI 0 rfl) (by kernel_rfl))
    subst e0
    show Option.isSome _ = true
    kernel_rfl
   ·intro vs gq stq hl hf
    obtain ⟨v0, rfl⟩ := len_k1 hl
    have e0 := (show v0 = .bool false from hf _ (memI 0 rfl) (by kernel_rfl))
    subst e0
    show Option.isSome _ = true
    kernel_rfl
   ·intro vs gq stq hl hf
    obtain ⟨v0, rfl⟩ := len_k1 hl
    have e0 := (show v0 = .bool false from hf _ (memI 0 rfl) (by kernel_rfl))
    subst e0
    show Option.isSome _ = true
    kernel_rfl
   ·intro vs gq stq hl hf
    obtain ⟨v0, rfl⟩ := len_k1 hl
    have e0 := (show v0 = .bool false from hf _ (memI 0 rfl) (by kernel_rfl))
    subst e0
    show Option.isSome _ = true
    kernel_rfl
   ·intro vs gq stq hl hf
    obtain ⟨v0, rfl⟩ := len_k1 hl
    have e0 := (show v0 = .bool false from hf _ (memI 0 rfl) (by kernel_rfl))
    subst e0
    show Option.isSome _ = true
    kernel_rfl
   ·intro vs gq stq hl hf
    obtain ⟨v0, rfl⟩ := len_k1 hl
    have e0 := (show v0 = .bool false from hf _ (memI 0 rfl) (by kernel_rfl))
    subst e0
    show Option.isSome _ = true
    kernel_rfl
   ·intro vs gq stq hl hf
    obtain ⟨v0, rfl⟩ := len_k1 hl
    have e0 := (show v0 = .bool false from hf _ (memI 0 rfl) (by kernel_rfl))
    subst e0
    show Option.isSome _ = true
    kernel_rfl
   ·intro vs gq stq hl hf
    obtain ⟨v0, rfl⟩ := len_k1 hl
    have e0 := (show v0 = .bool false from hf _ (memI 0 rfl) (by kernel_rfl))
    subst e0
    show Option.isSome _ = true
    kernel_rfl
   ·intro vs gq stq hl hf
    obtain ⟨v0, rfl⟩ := len_k1 hl
    have e0 := (show v0 = .bool false from hf _ (memI 0 rfl) (by kernel_rfl))
    subst e0
    show Option.isSome _ = true
    kernel_rfl
   ·intro vs gq stq hl hf
    obtain ⟨v0, rfl⟩ := len_k1 hl
    have e0 := (show v0 = .bool false from hf _ (memI 0 rfl) (by kernel_rfl))
    subst e0
    show Option.isSome _ = true
    kernel_rfl
   ·intro vs gq stq hl hf
    obtain ⟨v0, rfl⟩ := len_k1 hl
    have e0 := (show v0 = .bool false from hf _ (memI 0 rfl) (by kernel_rfl))
    subst e0
    show Option.isSome _ = true
    kernel_rfl
   ·intro vs gq stq hl hf
    obtain ⟨v0, rfl⟩ := len_k1 hl
    have e0 := (show v0 = .bool false from hf _ (memI 0 rfl) (by kernel_rfl))
    subst e0
    show Option.isSome _ = true
    kernel_rfl
   ·intro vs gq stq hl hf
    obtain ⟨v0, rfl⟩ := len_k1 hl
    have e0 := (show v0 = .bool false from hf _ (memI 0 rfl) (by kernel_rfl))
    subst e0
    show Option.isSome _ = true
    kernel_rfl
   ·intro vs gq stq hl hf
    obtain ⟨v0, rfl⟩ := len_k1 hl
    have e0 := (show v0 = .bool false from hf _ (memI 0 rfl) (by kernel_rfl))
    subst e0
    show Option.isSome _ = true
    kernel_rfl
  ·intro j hj
   have hq : j = 0 := by have h : j < 1 := hj; omega
   rcases hq with rfl
   ·intro vs gq stq hl hf
    obtain ⟨v0, rfl⟩ := len_k1 hl
    refine WP.stl 1 ?_
    refine WP.dn (Shown.ok (v := .bool ((mapGet eqk_S_notary_entry 0 w1 (⟨d1, d2⟩ : S_notary_entry)).2)) (by kernel_rfl) (Step.refl _ _) ?_)
    exact ⟨congrArg Value.bool h3, tv⟩
  intro vs g5 st5 hl hf
  obtain ⟨v0, rfl⟩ := len_k1 hl
  have e0 := (show v0 = .bool false from hf _ (memI 0 rfl) (by kernel_rfl))
  subst e0
  replace tot := tot.trans st5.toNo.pure
  refine NX.post ?_
  exact ⟨false, ⟨by kernel_rfl, by kernel_rfl⟩, tot, hs⟩
 clear tot hs hR2
 rintro tm g ⟨q1, hF, tot, hs⟩
 clear ds
 obtain ⟨ds, rfl⟩ := hF.open
 clear hF
 unfold F.notary_Book_Verify.c1 at hs
 refine CP.ret ?_
 replace hs := Option.some.inj hs
 obtain rfl := hs
 exact NX.fin (v := .bool q1) (Res.still (by kernel_rfl)) tot htL rfl
def F.notary_signed.c1 (q2 : Bool) : Option (Bool) := (some q2)
def N.notary_signed_0 : List (List Nat) := [[], [0], [0, 1], [0, 1, 2], [0, 1, 2], [0, 1, 2, 4], [0, 1, 2, 3, 4, 5], [0, 1, 2, 3, 4, 5, 6], [0, 1, 2, 3, 4, 5, 6, 7], [0, 1, 2, 3, 4, 5, 6, 7, 8], [0, 1, 2, 3, 4, 5, 6, 7, 8], [0, 1, 2, 3, 4, 5, 6, 7, 8], [0, 1, 2, 3, 4, 5, 6, 7, 8], [0, 1, 2, 3, 4, 5, 6, 7, 8], [0, 1, 2, 3, 4, 5, 6, 7, 8, 12, 13], [0, 1, 2, 3, 4, 5, 6, 7, 8, 12, 13, 14], [0, 1, 2, 3, 4, 5, 6, 7, 8, 9], [0, 1, 2, 3, 4, 5, 6, 7, 8, 9, 16], [0, 1, 2, 3, 4, 5, 6, 7, 8, 9, 16, 17], [0, 1, 2, 3, 4, 5, 6, 7, 8, 9, 10, 11, 12, 13, 14, 15, 16, 17, 18], [0, 1, 2, 3, 4, 5, 6, 7, 8, 9, 10, 11, 12, 13, 14, 15, 16, 17, 18, 19], [0, 1, 2, 3, 4, 5, 6, 7, 8, 9, 10, 11, 12, 13, 14, 15, 16, 17, 18, 19, 20]]
def F.notary_signed (l1 : List S_notary_entry) (w1 : (List (S_notary_entry × Int))) (d1 : Arr Int 8) (d2 : Arr Int 8) (l2 : List (List Int)) (x1 : Int) : Option (Bool) := (if decide (x1 < (l2.length : Int)) = true then (if (0 : Int) ≤ x1 ∧ x1 < (l2.length : Int) then ((F.notary_Book_Verify l1 w1 d1 d2 (getI l2 x1)).bind fun q3 => (F.notary_signed.c1 q3)) else none) else (F.notary_signed.c1 false))
theorem P.notary_signed (g0 : GW) (m0 : Nat) (m1 : Nat) (l1 : List S_notary_entry) (w1 : (List (S_notary_entry × Int))) (d1 : Arr Int 8) (d2 : Arr Int 8) (l2 : List (List Int)) (x1 : Int) (a1 : Option Addr) (n1 : Nat) (c1 : Nat) (a2 : Option Addr) (n2 : Nat) (c2 : Nat) (b1 : Nat) (b2 : Nat) (hR1 : RdS k_S_notary_entry g0 173 a1 n1 c1 l1) (hR2 : RdS (Kd.slice 5 (Kd.int .u8)) g0 24 a2 n2 c2 l2) (hB1 : MapB g0 m1 b2 kv_S_notary_entry (Value.int .i64) w1) (hB2 : Box g0 m0 b1 90 [[.slice a1 n1 c1], [.map (some b2)]] [1, 1]) (hm1_0 : m1 ≠ m0) (hm0 : m0 ≠ 0) (hm1 : m1 ≠ 0) (o1 : Bool) (hs : F.notary_signed l1 w1 d1 d2 l2 x1 = some o1) :
  Calls Try.prog 90 #[.iface 39 (.pointer (some ⟨b1, 0, none⟩)), AG [encA .u8 d1], AG [encA .u8 d2], .slice a2 n2 c2, .int .i64 x1] g0.w (Ret NoM g0 fun v g => v = .bool o1) := by
 refine calls_of (args := [.iface 39 (.pointer (some ⟨b1, 0, none⟩)), AG [encA .u8 d1], AG [encA .u8 d2], .slice a2 n2 c2, .int .i64 x1]) Try.func90 rfl (m0 + m1 + 0) ?_
 intro t ht htL
 refine ⟨_, rfl, ?_⟩
 refine CP.refr 32 [(0, .iface 39 (.pointer (some ⟨b1, 0, none⟩))), (1, AG [encA .u8 d1]), (2, AG [encA .u8 d2]), (3, .slice a2 n2 c2), (4, .int .i64 x1)] (by kernel_rfl) (by kernel_rfl) ?_
 intro ds
 have tot : Step (fun l => NoM l ∨ t ≤ l) g0 g0 := Step.refl _ _
 unfold F.notary_signed at hs
 refine CP.seqR ?_
 refine WP.alloc (T := 23) (t + 1) [encA .u8 d1] [8] (by kernel_rfl) (by simp [len_encA]) ?_
 intro g1 b3 st1 hB3
 replace hB2 := hB2.mono st1 (fun x => x)
 replace hR1 := hR1.mono st1 (fun x => x)
 replace hB1 := hB1.mono st1 (fun x => x)
 replace hR2 := hR2.mono st1 (fun x => x)
 replace tot := tot.trans st1.pure
 refine WP.alloc (T := 23) (t + 2) [encA .u8 d2] [8] (by kernel_rfl) (by simp [len_encA]) ?_
 intro g2 b4 st2 hB4
 replace hB2 := hB2.mono st2 (fun x => x)
 replace hR1 := hR1.mono st2 (fun x => x)
 replace hB1 := hB1.mono st2 (fun x => x)
 replace hR2 := hR2.mono st2 (fun x => x)
 replace hB3 := hB3.mono st2 (fun x => x)
 replace tot := tot.trans st2.pure
 refine WP.stl 1 ?_
 refine WP.dn ?_
 refine NX.then_n ?_
 refine CP.cut (fun tm g => ∃ (q2 : Bool), Fr 32 [(10, .bool q2)] tm ∧ Step (fun l => NoM l ∨ t ≤ l) g0 g ∧ (F.notary_signed.c1 q2) = some o1) ?_ ?_
 ·refine bool_split (b := decide (x1 < (l2.length : Int))) (fun h2 => ?_) (fun h2 => ?_)
  ·replace hs := of_if_t hs h2
   by_cases hc2 : (0 : Int) ≤ x1 ∧ x1 < (l2.length : Int)
   case neg => rw [if_neg hc2] at hs; cases hs
   replace hs := of_if_p hs hc2
   replace hs := Option.bind_eq_some_iff.1 hs
   obtain ⟨q3, hk2, hs⟩ := hs
   obtain ⟨b6, u2, ha2⟩ := hR2.at hc2
   refine CP.drawL (by kernel_rfl) [5, 8, 10, 11, 14, 15, 19] N.notary_signed_0 [⟨none, [], [], fun l g => Box g m0 b1 90 [[.slice a1 n1 c1], [.map (some b2)]] [1, 1]⟩, ⟨none, [], [], fun l g => RdS k_S_notary_entry g 173 a1 n1 c1 l1⟩, ⟨none, [], [], fun l g => MapB g m1 b2 kv_S_notary_entry (Value.int .i64) w1⟩, ⟨none, [], [], fun l g => RdS (Kd.slice 5 (Kd.int .u8)) g 24 a2 n2 c2 l2⟩, ⟨none, [], [], fun l g => Box g (t + 1) b3 23 [encA .u8 d1] [8]⟩, ⟨none, [], [], fun l g => Box g (t + 2) b4 23 [encA .u8 d2] [8]⟩, ⟨some 0, [], [0], fun l g => l.getD 0 undef = .int .i64 (l2.length : Int)⟩, ⟨some 1, [], [1], fun l g => l.getD 0 undef = .bool true⟩, ⟨some 2, [], [2], fun l g => l.getD 0 undef = AG [encA .u8 d1]⟩, ⟨some 3, [], [3], fun l g => l.getD 0 undef = AG [encA .u8 d2]⟩, ⟨some 4, [], [4], fun l g => l.getD 0 undef = .pointer (some ⟨b6, u2 + x1.toNat * 1, none⟩)⟩, ⟨some 5, [], [5], fun l g => ∃ (a4 : Option Addr) (c4 : Nat), l.getD 0 undef = .slice a4 ((getI l2 x1).length) c4 ∧ RdS (Kd.int .u8) g 5 a4 ((getI l2 x1).length) c4 (getI l2 x1)⟩, ⟨some 6, [], [6], fun l g => l.getD 0 undef = .bool q3⟩] [[], [], [], [], [], [], []] [] [0, 1, 2, 3, 4] [6, 7, 9, 12, 13, 16, 17, 18, 20, 21] (by kernel_rfl) (by simp) (by simp) ⟨fun _ _ _ _ st h0 hl hj hB2 => (hB2.mono st (fun h => absurd (hl _ h) (by simp))), fun _ _ _ _ st h0 hl hj hR1 => (RdS.mono (e := 173) hR1 st h0), fun _ _ _ _ st h0 hl hj hB1 => (hB1.mono st (fun h => absurd (hl _ h) (by simp))), fun _ _ _ _ st h0 hl hj hR2 => (RdS.mono (e := 24) hR2 st h0), fun _ _ _ _ st h0 hl hj hB3 => (hB3.mono st (fun h => absurd (hl _ h) (by simp))), fun _ _ _ _ st h0 hl hj hB4 => (hB4.mono st (fun h => absurd (hl _ h) (by simp))), fun _ _ _ _ st h0 hl hj e0 => e0, fun _ _ _ _ st h0 hl hj e1 => e1, fun _ _ _ _ st h0 hl hj e2 => e2, fun _ _ _ _ st h0 hl hj e3 => e3, fun _ _ _ _ st h0 hl hj e4 => e4, fun _ _ _ _ st h0 hl hj ⟨a4, c4, e5, hR4⟩ => ⟨a4, c4, e5, (RdS.mono (e := 5) hR4 st h0)⟩, fun _ _ _ _ st h0 hl hj e6 => e6, tv⟩ ⟨hB2, hR1, hB1, hR2, hB3, hB4, tv, tv, tv, tv, tv, tv, tv, tv⟩ (by kernel_rfl) (fun vs => by kernel_rfl) ?_ ?_ ?_
   ·intro j hj
    have hq : j = 0 ∨ j = 1 ∨ j = 2 ∨ j = 3 ∨ j = 4 ∨ j = 5 ∨ j = 6 ∨ j = 7 ∨ j = 8 ∨ j = 9 := by have h : j < 10 := hj; omega
    rcases hq with rfl | rfl | rfl | rfl | rfl | rfl | rfl | rfl | rfl | rfl
    ·intro vs gq stq hl hf
     obtain ⟨v0, v1, v2, v3, v4, v5, v6, rfl⟩ := len_k7 hl
     have e0 := (show v0 = .int .i64 (l2.length : Int) from hf _ (memI 6 rfl) (by kernel_rfl))
     subst e0
     show Option.isSome _ = true
     kernel_rfl
    ·intro vs gq stq hl hf
     obtain ⟨v0, v1, v2, v3, v4, v5, v6, rfl⟩ := len_k7 hl
     have e0 := (show v0 = .int .i64 (l2.length : Int) from hf _ (memI 6 rfl) (by kernel_rfl))
     subst e0
     show Option.isSome _ = true
     kernel_rfl
    ·intro vs gq stq hl hf
     obtain ⟨v0, v1, v2, v3, v4, v5, v6, rfl⟩ := len_k7 hl
     have e1 := (show v1 = .bool true from hf _ (memI 7 rfl) (by kernel_rfl))
     subst e1
     show Option.isSome _ = true
     kernel_rfl
    ·intro vs gq stq hl hf
     obtain ⟨v0, v1, v2, v3, v4, v5, v6, rfl⟩ := len_k7 hl
     have e1 := (show v1 = .bool true from hf _ (memI 7 rfl) (by kernel_rfl))
     subst e1
     show Option.isSome _ = true
     kernel_rfl
    ·intro vs gq stq hl hf
     obtain ⟨v0, v1, v2, v3, v4, v5, v6, rfl⟩ := len_k7 hl
     have e1 := (show v1 = .bool true from hf _ (memI 7 rfl) (by kernel_rfl))
     subst e1
     show Option.isSome _ = true
     kernel_rfl
    ·intro vs gq stq hl hf
     obtain ⟨v0, v1, v2, v3, v4, v5, v6, rfl⟩ := len_k7 hl
     have e1 := (show v1 = .bool true from hf _ (memI 7 rfl) (by kernel_rfl))
     subst e1
     show Option.isSome _ = true
     kernel_rfl
    ·intro vs gq stq hl hf
     obtain ⟨v0, v1, v2, v3, v4, v5, v6, rfl⟩ := len_k7 hl
     have e1 := (show v1 = .bool true from hf _ (memI 7 rfl) (by kernel_rfl))
     subst e1
     show Option.isSome _ = true
     kernel_rfl
    ·intro vs gq stq hl hf
     obtain ⟨v0, v1, v2, v3, v4, v5, v6, rfl⟩ := len_k7 hl
     have e1 := (show v1 = .bool true from hf _ (memI 7 rfl) (by kernel_rfl))
     subst e1
     show Option.isSome _ = true
     kernel_rfl
    ·intro vs gq stq hl hf
     obtain ⟨v0, v1, v2, v3, v4, v5, v6, rfl⟩ := len_k7 hl
     have e1 := (show v1 = .bool true from hf _ (memI 7 rfl) (by kernel_rfl))
     subst e1
     have e6 := (show v6 = .bool q3 from hf _ (memI 12 rfl) (by kernel_rfl))
     subst e6
     show Option.isSome _ = true
     kernel_rfl
    ·intro vs gq stq hl hf
     obtain ⟨v0, v1, v2, v3, v4, v5, v6, rfl⟩ := len_k7 hl
     have e1 := (show v1 = .bool true from hf _ (memI 7 rfl) (by kernel_rfl))
     subst e1
     have e6 := (show v6 = .bool q3 from hf _ (memI 12 rfl) (by kernel_rfl))
     subst e6
     show Option.isSome _ = true
     kernel_rfl
   ·intro j hj
    have hq : j = 0 ∨ j = 1 ∨ j = 2 ∨ j = 3 ∨ j = 4 ∨ j = 5 ∨ j = 6 := by have h : j < 7 := hj; omega
    rcases hq with rfl | rfl | rfl | rfl | rfl | rfl | rfl
    ·intro vs gq stq hl hf
     obtain ⟨v0, v1, v2, v3, v4, v5, v6, rfl⟩ := len_k7 hl
     have hR2 := (show RdS (Kd.slice 5 (Kd.int .u8)) gq 24 a2 n2 c2 l2 from hf _ (memI 3 rfl) (by kernel_rfl))
     refine WP.len (a := a2) (cp := c2) hR2.len (by kernel_rfl) ?_
     refine WP.dn (Shown.ok (v := .int .i64 (l2.length : Int)) (by kernel_rfl) (Step.refl _ _) ?_)
     exact ⟨tv, tv, tv, tv, tv, tv, rfl, tv, tv, tv, tv, tv, tv, tv⟩
    ·intro vs gq stq hl hf
     obtain ⟨v0, v1, v2, v3, v4, v5, v6, rfl⟩ := len_k7 hl
     have e0 := (show v0 = .int .i64 (l2.length : Int) from hf _ (memI 6 rfl) (by kernel_rfl))
     subst e0
     refine WP.stl 1 ?_
     refine WP.dn (Shown.ok (v := .bool (decide (x1 < (l2.length : Int)))) (by kernel_rfl) (Step.refl _ _) ?_)
     exact ⟨tv, tv, tv, tv, tv, tv, tv, congrArg Value.bool h2, tv, tv, tv, tv, tv, tv⟩
    ·intro vs gq stq hl hf
     obtain ⟨v0, v1, v2, v3, v4, v5, v6, rfl⟩ := len_k7 hl
     have hB3 := (show Box gq (t + 1) b3 23 [encA .u8 d1] [8] from hf _ (memI 4 rfl) (by kernel_rfl))
     have e1 := (show v1 = .bool true from hf _ (memI 7 rfl) (by kernel_rfl))
     subst e1
     refine WP.loadB (v := AG [encA .u8 d1]) hB3 (by kernel_rfl) (by kernel_rfl) ?_
     refine WP.dn (Shown.ok (v := AG [encA .u8 d1]) (by kernel_rfl) (Step.refl _ _) ?_)
     exact ⟨tv, tv, tv, tv, tv, tv, tv, tv, rfl, tv, tv, tv, tv, tv⟩
    ·intro vs gq stq hl hf
     obtain ⟨v0, v1, v2, v3, v4, v5, v6, rfl⟩ := len_k7 hl
     have hB4 := (show Box gq (t + 2) b4 23 [encA .u8 d2] [8] from hf _ (memI 5 rfl) (by kernel_rfl))
     have e1 := (show v1 = .bool true from hf _ (memI 7 rfl) (by kernel_rfl))
     subst e1
     refine WP.loadB (v := AG [encA .u8 d2]) hB4 (by kernel_rfl) (by kernel_rfl) ?_
     refine WP.dn (Shown.ok (v := AG [encA .u8 d2]) (by kernel_rfl) (Step.refl _ _) ?_)
     exact ⟨tv, tv, tv, tv, tv, tv, tv, tv, tv, rfl, tv, tv, tv, tv⟩
    ·intro vs gq stq hl hf
     obtain ⟨v0, v1, v2, v3, v4, v5, v6, rfl⟩ := len_k7 hl
     have hR2 := (show RdS (Kd.slice 5 (Kd.int .u8)) gq 24 a2 n2 c2 l2 from hf _ (memI 3 rfl) (by kernel_rfl))
     have e1 := (show v1 = .bool true from hf _ (memI 7 rfl) (by kernel_rfl))
     subst e1
     refine WP.indexA (t := 42) (e := 24) (sz := 1) (cap := c2) (k := .i64) (i := x1) hR2.len ha2 (by kernel_rfl) (by kernel_rfl) hc2 ?_
     refine WP.dn (Shown.ok (v := .pointer (some ⟨b6, u2 + x1.toNat * 1, none⟩)) (by kernel_rfl) (Step.refl _ _) ?_)
     exact ⟨tv, tv, tv, tv, tv, tv, tv, tv, tv, tv, rfl, tv, tv, tv⟩
    ·intro vs gq stq hl hf
     obtain ⟨v0, v1, v2, v3, v4, v5, v6, rfl⟩ := len_k7 hl
     have hR2 := (show RdS (Kd.slice 5 (Kd.int .u8)) gq 24 a2 n2 c2 l2 from hf _ (memI 3 rfl) (by kernel_rfl))
     have e1 := (show v1 = .bool true from hf _ (memI 7 rfl) (by kernel_rfl))
     subst e1
     have e4 := (show v4 = .pointer (some ⟨b6, u2 + x1.toNat * 1, none⟩) from hf _ (memI 10 rfl) (by kernel_rfl))
     subst e4
     obtain ⟨cs2, hcR2, hcV2⟩ := hR2.src.view (getI_some hc2) ha2
     obtain ⟨a4, n4, c4, hcR2, hR4⟩ := Kd.o_sl hcR2
     refine WP.loadV [[.slice a4 n4 c4]] [1] hcV2 hcR2 rfl (f := 0) (ty := 24) (agg := false) (size := 1) (rs := [[.slice a4 n4 c4]]) (v := .slice a4 n4 c4) (by kernel_rfl) (by kernel_rfl) (by kernel_rfl) (by kernel_rfl) ?_
     obtain rfl := hR4.len
     refine WP.dn (Shown.ok (v := .slice a4 ((getI l2 x1).length) c4) (by kernel_rfl) (Step.refl _ _) ?_)
     exact ⟨tv, tv, tv, tv, tv, tv, tv, tv, tv, tv, tv, ⟨a4, c4, rfl, hR4⟩, tv, tv⟩
    ·intro vs gq stq hl hf
     obtain ⟨v0, v1, v2, v3, v4, v5, v6, rfl⟩ := len_k7 hl
     have hB2 := (show Box gq m0 b1 90 [[.slice a1 n1 c1], [.map (some b2)]] [1, 1] from hf _ (memI 0 rfl) (by kernel_rfl))
     have hR1 := (show RdS k_S_notary_entry gq 173 a1 n1 c1 l1 from hf _ (memI 1 rfl) (by kernel_rfl))
     have hB1 := (show MapB gq m1 b2 kv_S_notary_entry (Value.int .i64) w1 from hf _ (memI 2 rfl) (by kernel_rfl))
     have e1 := (show v1 = .bool true from hf _ (memI 7 rfl) (by kernel_rfl))
     subst e1
     have e2 := (show v2 = AG [encA .u8 d1] from hf _ (memI 8 rfl) (by kernel_rfl))
     subst e2
     have e3 := (show v3 = AG [encA .u8 d2] from hf _ (memI 9 rfl) (by kernel_rfl))
     subst e3
     obtain ⟨a4, c4, e5, hR4⟩ := (show ∃ (a4 : Option Addr) (c4 : Nat), v5 = .slice a4 ((getI l2 x1).length) c4 ∧ RdS (Kd.int .u8) gq 5 a4 ((getI l2 x1).length) c4 (getI l2 x1) from hf _ (memI 11 rfl) (by kernel_rfl))
     subst e5
     have hcal2 := P.notary_Book_Verify gq m0 m1 l1 w1 d1 d2 (getI l2 x1) a1 n1 c1 a4 ((getI l2 x1).length) c4 b1 b2 hR1 hR4 hB1 hB2 (by omega) (by omega) (by omega) q3 hk2
     refine WP.callC hcal2 (by kernel_rfl) ?_
     rintro _ g4 st4 rfl
     refine WP.dn (Shown.o (v := .bool q3) st4.pure ?_)
     exact ⟨tv, tv, tv, tv, tv, tv, tv, tv, tv, tv, tv, tv, rfl, tv⟩
   intro vs g5 st5 hl hf
   obtain ⟨v0, v1, v2, v3, v4, v5, v6, rfl⟩ := len_k7 hl
   have e1 := (show v1 = .bool true from hf _ (memI 7 rfl) (by kernel_rfl))
   subst e1
   have e6 := (show v6 = .bool q3 from hf _ (memI 12 rfl) (by kernel_rfl))
   subst e6
   replace tot := tot.trans st5.toNo.pure
   refine NX.post ?_
   exact ⟨q3, ⟨by kernel_rfl, by kernel_rfl⟩, tot, hs⟩
  replace hs := of_if_f hs h2
  refine CP.drawL (by kernel_rfl) [5, 8] N.notary_signed_0 [⟨none, [], [], fun l g => RdS (Kd.slice 5 (Kd.int .u8)) g 24 a2 n2 c2 l2⟩, ⟨some 0, [], [0], fun l g => l.getD 0 undef = .int .i64 (l2.length : Int)⟩, ⟨some 1, [], [1], fun l g => l.getD 0 undef = .bool false⟩] [[], []] [] [0, 1, 2, 3, 4] [6, 7, 9, 10, 11, 12, 13, 14, 15, 16, 17, 18, 19, 20, 21] (by kernel_rfl) (by simp) (by simp) ⟨fun _ _ _ _ st h0 hl hj hR2 => (RdS.mono (e := 24) hR2 st h0), fun _ _ _ _ st h0 hl hj e0 => e0, fun _ _ _ _ st h0 hl hj e1 => e1, tv⟩ ⟨hR2, tv, tv, tv⟩ (by kernel_rfl) (fun vs => by kernel_rfl) ?_ ?_ ?_
  ·intro j hj
   have hq : j = 0 ∨ j = 1 ∨ j = 2 ∨ j = 3 ∨ j = 4 ∨ j = 5 ∨ j = 6 ∨ j = 7 ∨ j = 8 ∨ j = 9 ∨ j = 10 ∨ j = 11 ∨ j = 12 ∨ j = 13 ∨ j = 14 := by have h : j < 15 := hj; omega
   rcases hq with rfl | rfl | rfl | rfl | rfl | rfl | rfl | rfl | rfl | rfl | rfl | rfl | rfl | rfl | rfl
   ·intro vs gq stq hl hf
    obtain ⟨v0, v1, rfl⟩ := len_k2 hl
    have e0 := (show v0 = .int .i64 (l2.length : Int) from hf _ (memI 1 rfl) (by kernel_rfl))
    subst e0
    show Option.isSome _ = true
    kernel_rfl
   ·intro vs gq stq hl hf
    obtain ⟨v0, v1, rfl⟩ := len_k2 hl
    have e0 := (show v0 = .int .i64 (l2.length : Int) from hf _ (memI 1 rfl) (by kernel_rfl))
    subst e0
    show Option.isSome _ = true
    kernel_rfl
   ·intro vs gq stq hl hf
    obtain ⟨v0, v1, rfl⟩ := len_k2 hl
    have e1 := (show v1 = .bool false from hf _ (memI 2 rfl) (by kernel_rfl))
    subst e1
    show Option.isSome _ = true
    kernel_rfl
   ·intro vs gq stq hl hf
    obtain ⟨v0, v1, rfl⟩ := len_k2 hl
    have e1 := (show v1 = .bool false from hf _ (memI 2 rfl) (by kernel_rfl))
    subst e1
    show Option.isSome _ = true
    kernel_rfl
   ·intro vs gq stq hl hf
    obtain ⟨v0, v1, rfl⟩ := len_k2 hl
    have e1 := (show v1 = .bool false from hf _ (memI 2 rfl) (by kernel_rfl))
    subst e1
    show Option.isSome _ = true
    kernel_rfl
   ·intro vs gq stq hl hf
    obtain ⟨v0, v1, rfl⟩ := len_k2 hl
    have e1 := (show v1 = .bool false from hf _ (memI 2 rfl) (by kernel_rfl))
    subst e1
    show Option.isSome _ = true
    kernel_rfl
   ·intro vs gq stq hl hf
    obtain ⟨v0, v1, rfl⟩ := len_k2 hl
    have e1 := (show v1 = .bool false from hf _ (memI 2 rfl) (by kernel_rfl))
    subst e1
    show Option.isSome _ = true
    kernel_rfl
   ·intro vs gq stq hl hf
    obtain ⟨v0, v1, rfl⟩ := len_k2 hl
    have e1 := (show v1 = .bool false from hf _ (memI 2 rfl) (by kernel_rfl))
    subst e1
    show Option.isSome _ = true
    kernel_rfl
   ·intro vs gq stq hl hf
    obtain ⟨v0, v1, rfl⟩ := len_k2 hl
    have e1 := (show v1 = .bool false from hf _ (memI 2 rfl) (by kernel_rfl))
    subst e1
    show Option.isSome _ = true
    kernel_rfl
   ·intro vs gq stq hl hf
    obtain ⟨v0, v1, rfl⟩ := len_k2 hl
    have e1 := (show v1 = .bool false from hf _ (memI 2 rfl) (by kernel_rfl))
    subst e1
    show Option.isSome _ = true
    kernel_rfl
   ·intro vs gq stq hl hf
    obtain ⟨v0, v1, rfl⟩ := len_k2 hl
    have e1 := (show v1 = .bool false from hf _ (memI 2 rfl) (by kernel_rfl))
    subst e1
    show Option.isSome _ = true
    kernel_rfl
   ·intro vs gq stq hl hf
    obtain ⟨v0, v1, rfl⟩ := len_k2 hl
    have e1 := (show v1 = .bool false from hf _ (memI 2 rfl) (by kernel_rfl))
    subst e1
    show Option.isSome _ = true
    kernel_rfl
   ·intro vs gq stq hl hf
    obtain ⟨v0, v1, rfl⟩ := len_k2 hl
    have e1 := (show v1 = .bool false from hf _ (memI 2 rfl) (by kernel_rfl))
    subst e1
    show Option.isSome _ = true
    kernel_rfl
   ·intro vs gq stq hl hf
    obtain ⟨v0, v1, rfl⟩ := len_k2 hl
    have e1 := (show v1 = .bool false from hf _ (memI 2 rfl) (by kernel_rfl))
    subst e1
    show Option.isSome _ = true
    kernel_rfl
   ·intro vs gq stq hl hf
    obtain ⟨v0, v1, rfl⟩ := len_k2 hl
    have e1 := (show v1 = .bool false from hf _ (memI 2 rfl) (by kernel_rfl))
    subst e1
    show Option.isSome _ = true
    kernel_rfl
  ·intro j hj
   have hq : j = 0 ∨ j = 1 := by have h : j < 2 := hj; omega
   rcases hq with rfl | rfl
   ·intro vs gq stq hl hf
    obtain ⟨v0, v1, rfl⟩ := len_k2 hl
    have hR2 := (show RdS (Kd.slice 5 (Kd.int .u8)) gq 24 a2 n2 c2 l2 from hf _ (memI 0 rfl) (by kernel_rfl))
    refine WP.len (a := a2) (cp := c2) hR2.len (by kernel_rfl) ?_
    refine WP.dn (Shown.ok (v := .int .i64 (l2.length : Int)) (by kernel_rfl) (Step.refl _ _) ?_)
    exact ⟨tv, rfl, tv, tv⟩
   ·intro vs gq stq hl hf
    obtain ⟨v0, v1, rfl⟩ := len_k2 hl
    have e0 := (show v0 = .int .i64 (l2.length : Int) from hf _ (memI 1 rfl) (by kernel_rfl))
    subst e0
    refine WP.stl 1 ?_
    refine WP.dn (Shown.ok (v := .bool (decide (x1 < (l2.length : Int)))) (by kernel_rfl) (Step.refl _ _) ?_)
    exact ⟨tv, tv, congrArg Value.bool h2, tv⟩
  intro vs g6 st6 hl hf
  obtain ⟨v0, v1, rfl⟩ := len_k2 hl
  have e1 := (show v1 = .bool false from hf _ (memI 2 rfl) (by kernel_rfl))
  subst e1
  replace tot := tot.trans st6.toNo.pure
  refine NX.post ?_
  exact ⟨false, ⟨by kernel_rfl, by kernel_rfl⟩, tot, hs⟩
 clear tot hs hB2 hR1 hB1 hR2 hB3 hB4
 rintro tm g ⟨q2, hF, tot, hs⟩
 clear ds
 obtain ⟨ds, rfl⟩ := hF.open
 clear hF
 unfold F.notary_signed.c1 at hs
 refine CP.ret ?_
 replace hs := Option.some.inj hs
 obtain rfl := hs
 exact NX.fin (v := .bool q2) (Res.still (by kernel_rfl)) tot htL rfl
def F.notary_Missing.c1 (nx1 : (List Int) → Int → Option ((List Int))) (x1 : Int) (l9 : List Int) : Option ((List Int)) := (nx1 l9 (IntKind.i64.wrap (x1 + 1)))
def F.notary_Missing.c3 (nx1 : (List Int) → Int → Option ((List Int))) (l6 : List Int) (x1 : Int) (q12 : Bool) : Option ((List Int)) := (if q12 = true then (if l6.length + ([x1]).length ≤ 17592186044416 then (F.notary_Missing.c1 nx1 x1 (l6 ++ [x1])) else none) else (F.notary_Missing.c1 nx1 x1 l6))
def F.notary_Missing.c2 (nx1 : (List Int) → Int → Option ((List Int))) (l1 : List S_notary_entry) (w1 : (List (S_notary_entry × Int))) (l2 : List (Arr Int 8)) (d1 : Arr Int 8) (l3 : List (List Int)) (l6 : List Int) (x1 : Int) (q10 : Bool) : Option ((List Int)) := (if (!q10) = true then ((F.notary_signed l1 w1 (getI l2 x1) d1 l3 x1).bind fun q13 => (F.notary_Missing.c3 nx1 l6 x1 (!q13))) else (F.notary_Missing.c3 nx1 l6 x1 false))
def F.notary_Missing.l1 (l1 : List S_notary_entry) (w1 : (List (S_notary_entry × Int))) (l2 : List (Arr Int 8)) (d1 : Arr Int 8) (l3 : List (List Int)) (l4 : List Bool) : Nat → (List Int) → Int → Option ((List Int))
 | 0, _, _ => none
 | k + 1, l6, x1 => (if decide (x1 < (l2.length : Int)) = true then (if (0 : Int) ≤ x1 ∧ x1 < (l2.length : Int) then (if decide (x1 < (l4.length : Int)) = true then (if (0 : Int) ≤ x1 ∧ x1 < (l4.length : Int) then (F.notary_Missing.c2 (F.notary_Missing.l1 l1 w1 l2 d1 l3 l4 k) l1 w1 l2 d1 l3 l6 x1 (getI l4 x1)) else none) else (F.notary_Missing.c2 (F.notary_Missing.l1 l1 w1 l2 d1 l3 l4 k) l1 w1 l2 d1 l3 l6 x1 false)) else none) else (some l6))
def F.notary_Missing (l1 : List S_notary_entry) (w1 : (List (S_notary_entry × Int))) (l2 : List (Arr Int 8)) (d1 : Arr Int 8) (l3 : List (List Int)) (l4 : List Bool) : Option ((List Int)) := (F.notary_Missing.l1 l1 w1 l2 d1 l3 l4 fuel ([]) 0)
theorem P.notary_Missing (g0 : GW) (m0 : Nat) (m1 : Nat) (r0 : Nat) (l1 : List S_notary_entry) (w1 : (List (S_notary_entry × Int))) (l2 : List (Arr Int 8)) (d1 : Arr Int 8) (l3 : List (List Int)) (l4 : List Bool) (a1 : Option Addr) (n1 : Nat) (c1 : Nat) (a2 : Option Addr) (n2 : Nat) (c2 : Nat) (a3 : Option Addr) (n3 : Nat) (c3 : Nat) (a4 : Option Addr) (n4 : Nat) (c4 : Nat) (b1 : Nat) (b2 : Nat) (hR1 : RdS k_S_notary_entry g0 173 a1 n1 c1 l1) (hR2 : RdS (Kd.arrI 8 .u8) g0 23 a2 n2 c2 l2) (hR3 : RdS (Kd.slice 5 (Kd.int .u8)) g0 24 a3 n3 c3 l3) (hR4 : RdS Kd.bool g0 4 a4 n4 c4 l4) (hB1 : MapB g0 m1 b2 kv_S_notary_entry (Value.int .i64) w1) (hB2 : Box g0 m0 b1 90 [[.slice a1 n1 c1], [.map (some b2)]] [1, 1]) (hm1_0 : m1 ≠ m0) (hm0 : m0 ≠ 0) (hm1 : m1 ≠ 0) (o1 : List Int) (hs : F.notary_Missing l1 w1 l2 d1 l3 l4 = some o1) :
  Calls Try.prog 72 #[.iface 39 (.pointer (some ⟨b1, 0, none⟩)), .slice a2 n2 c2, AG [encA .u8 d1], .slice a3 n3 c3, .slice a4 n4 c4] g0.w (Ret NoM g0 fun v g => ∃ (a_1 : Option Addr) (n_1 : Nat) (c_1 : Nat), v = .slice a_1 n_1 c_1 ∧ OwnS (Kd.int .i64) g r0 3 a_1 n_1 c_1 o1) := by
 refine calls_of (args := [.iface 39 (.pointer (some ⟨b1, 0, none⟩)), .slice a2 n2 c2, AG [encA .u8 d1], .slice a3 n3 c3, .slice a4 n4 c4]) Try.func72 rfl (m0 + m1 + r0 + 0) ?_
 intro t ht htL
 refine ⟨_, rfl, ?_⟩
 refine CP.refr 49 [(0, .iface 39 (.pointer (some ⟨b1, 0, none⟩))), (1, .slice a2 n2 c2), (2, AG [encA .u8 d1]), (3, .slice a3 n3 c3), (4, .slice a4 n4 c4)] (by kernel_rfl) (by kernel_rfl) ?_
 intro ds
 have tot : Step (fun l => NoM l ∨ t ≤ l) g0 g0 := Step.refl _ _
 unfold F.notary_Missing at hs
 refine CP.seqR ?_
 refine WP.alloc (T := 23) (t + 1) [encA .u8 d1] [8] (by kernel_rfl) (by simp [len_encA]) ?_
 intro g1 b3 st1 hB3
 replace hB2 := hB2.mono st1 (fun x => x)
 replace hR1 := hR1.mono st1 (fun x => x)
 replace hB1 := hB1.mono st1 (fun x => x)
 replace hR2 := hR2.mono st1 (fun x => x)
 replace hR3 := hR3.mono st1 (fun x => x)
 replace hR4 := hR4.mono st1 (fun x => x)
 replace tot := tot.trans st1.pure
 refine WP.stl 1 ?_
 refine WP.dn ?_
 refine NX.then_n ?_
 refine CP.seqR ?_
 refine WP.stl 1 ?_
 refine WP.dn ?_
 refine NX.then_n ?_
 refine CP.seq ?_
 refine CP.seqR ?_
 refine WP.stl 1 ?_
 refine WP.len (a := a2) (cp := c2) hR2.len (by kernel_rfl) ?_
 refine WP.stl 1 ?_
 refine WP.dn ?_
 refine NX.then_n ?_
 refine CP.block ?_
 generalize fuel = k1 at hs
 refine CP.loop (fun k1 tm g => ∃ (l6 : List Int) (a8 : Option Addr) (n6 : Nat) (c7 : Nat) (x1 : Int), Fr 49 [(0, .iface 39 (.pointer (some ⟨b1, 0, none⟩))), (3, .slice a3 n3 c3), (4, .slice a4 n4 c4), (7, .pointer (some ⟨b3, 0, none⟩)), (11, .slice a8 n6 c7), (15, .slice a2 n2 c2), (16, .int .i64 (l2.length : Int)), (17, .int .i64 x1)] tm ∧ Step (fun l => NoM l ∨ t ≤ l) g0 g ∧ Box g m0 b1 90 [[.slice a1 n1 c1], [.map (some b2)]] [1, 1] ∧ RdS k_S_notary_entry g 173 a1 n1 c1 l1 ∧ MapB g m1 b2 kv_S_notary_entry (Value.int .i64) w1 ∧ RdS (Kd.slice 5 (Kd.int .u8)) g 24 a3 n3 c3 l3 ∧ RdS Kd.bool g 4 a4 n4 c4 l4 ∧ Box g (t + 1) b3 23 [encA .u8 d1] [8] ∧ OwnS (Kd.int .i64) g (t + 4) 3 a8 n6 c7 l6 ∧ RdS (Kd.arrI 8 .u8) g 23 a2 n2 c2 l2 ∧ F.notary_Missing.l1 l1 w1 l2 d1 l3 l4 k1 l6 x1 = some o1) k1 ?_ ?_ ?_
 ·exact ⟨[], none, 0, 0, 0, ⟨by kernel_rfl, by kernel_rfl⟩, tot, hB2, hR1, hB1, hR3, hR4, hB3, (OwnS.nil _ _ _ _), hR2, hs⟩
 ·rintro tm g ⟨l6, a8, n6, c7, x1, hF, tot, hB2, hR1, hB1, hR3, hR4, hB3, hR8, hR2, hs⟩
  exact absurd hs (by simp [F.notary_Missing.l1])
 clear tot hs hB2 hR1 hB1 hR3 hR4 hB3 hR2
 rintro k1 tm g ⟨l6, a8, n6, c7, x1, hF, tot, hB2, hR1, hB1, hR3, hR4, hB3, hR8, hR2, hs⟩
 clear ds
 obtain ⟨ds, rfl⟩ := hF.open
 clear hF
 unfold F.notary_Missing.l1 at hs
 refine CP.seqR ?_
 refine WP.stl 1 ?_
 refine WP.dn ?_
 refine NX.then_n ?_
 refine CP.seq ?_
 refine CP.cond (b := decide (x1 < (l2.length : Int))) (by kernel_rfl) (fun h9 => ?_) (fun h9 => ?_)
 ·replace hs := of_if_t hs h9
  refine CP.skip ?_
  refine NX.then_n ?_
  refine CP.cut (fun tm g => ∃ (l9 : List Int) (a15 : Option Addr) (n9 : Nat) (c12 : Nat), Fr 49 [(0, .iface 39 (.pointer (some ⟨b1, 0, none⟩))), (3, .slice a3 n3 c3), (4, .slice a4 n4 c4), (7, .pointer (some ⟨b3, 0, none⟩)), (11, .slice a15 n9 c12), (15, .slice a2 n2 c2), (16, .int .i64 (l2.length : Int)), (17, .int .i64 x1)] tm ∧ Step (fun l => NoM l ∨ t ≤ l) g0 g ∧ Box g m0 b1 90 [[.slice a1 n1 c1], [.map (some b2)]] [1, 1] ∧ RdS k_S_notary_entry g 173 a1 n1 c1 l1 ∧ MapB g m1 b2 kv_S_notary_entry (Value.int .i64) w1 ∧ RdS (Kd.slice 5 (Kd.int .u8)) g 24 a3 n3 c3 l3 ∧ RdS Kd.bool g 4 a4 n4 c4 l4 ∧ Box g (t + 1) b3 23 [encA .u8 d1] [8] ∧ OwnS (Kd.int .i64) g (t + 4) 3 a15 n9 c12 l9 ∧ RdS (Kd.arrI 8 .u8) g 23 a2 n2 c2 l2 ∧ (F.notary_Missing.c1 (F.notary_Missing.l1 l1 w1 l2 d1 l3 l4 k1) x1 l9) = some o1) ?_ ?_
  ·refine CP.block ?_
   refine CP.seqR ?_
   refine WP.stl 1 ?_
   by_cases hc10 : (0 : Int) ≤ x1 ∧ x1 < (l2.length : Int)
   case neg => rw [if_neg hc10] at hs; cases hs
   replace hs := of_if_p hs hc10
   obtain ⟨b13, u7, ha7⟩ := hR2.at hc10
   refine WP.indexA (t := 41) (e := 23) (sz := 8) (cap := c2) (k := .i64) (i := x1) hR2.len ha7 (by kernel_rfl) (by kernel_rfl) hc10 ?_
   obtain ⟨cs7, hcR7, hcV7⟩ := hR2.src.view (getI_some hc10) ha7
   replace hcR7 := Kd.o_arr hcR7
   refine WP.loadV [encA .u8 (getI l2 x1)] [8] hcV7 hcR7 (by simp [len_encA]) (f := 0) (ty := 23) (agg := true) (size := 8) (rs := [encA .u8 (getI l2 x1)]) (v := AG [encA .u8 (getI l2 x1)]) (by kernel_rfl) (by kernel_rfl) (by kernel_rfl) (by kernel_rfl) ?_
   refine WP.alloc (T := 23) (t + 9) [encA .u8 (zA 8)] [8] (by kernel_rfl) (by simp [len_encA]) ?_
   intro g17 b14 st17 hB10
   replace hB2 := hB2.mono st17 (fun x => x)
   replace hR1 := hR1.mono st17 (fun x => x)
   replace hB1 := hB1.mono st17 (fun x => x)
   replace hR3 := hR3.mono st17 (fun x => x)
   replace hR4 := hR4.mono st17 (fun x => x)
   replace hB3 := hB3.mono st17 (fun x => x)
   replace hR8 := hR8.mono st17 (fun x => x) (fun x => x)
   replace hR2 := hR2.mono st17 (fun x => x)
   replace tot := tot.trans st17.pure
   refine WP.stl 1 ?_
   refine WP.storeB (ty := 23) (off := 0) (v := AG [encA .u8 (getI l2 x1)]) hB10 [encA .u8 (getI l2 x1)] [8] (by kernel_rfl) (by kernel_rfl) (by simp [len_encA]) (by kernel_rfl) [encA .u8 (getI l2 x1)] (by kernel_rfl) (.arr .nil) ?_
   intro g18 st18 hB11
   replace hB2 := hB2.mono st18 (WL.no1 (by omega))
   replace hR1 := hR1.mono st18 (WL.no1 (by omega))
   replace hB1 := hB1.mono st18 (WL.no1 (by omega))
   replace hR3 := hR3.mono st18 (WL.no1 (by omega))
   replace hR4 := hR4.mono st18 (WL.no1 (by omega))
   replace hB3 := hB3.mono st18 (WL.no1 (by omega))
   replace hR8 := hR8.mono st18 (WL.no1 (by omega)) (WL.no1 (by omega))
   replace hR2 := hR2.mono st18 (WL.no1 (by omega))
   replace tot := tot.trans (st18.up1 (.inr (by omega)))
   clear hB10
   have hB10 := hB11
   clear hB11
   refine WP.dn ?_
   refine NX.then_n ?_
   refine CP.cut (fun tm g => ∃ (q10 : Bool), Fr 49 [(0, .iface 39 (.pointer (some ⟨b1, 0, none⟩))), (3, .slice a3 n3 c3), (4, .slice a4 n4 c4), (7, .pointer (some ⟨b3, 0, none⟩)), (11, .slice a8 n6 c7), (12, .int .i64 x1), (13, .pointer (some ⟨b14, 0, none⟩)), (14, .bool q10), (15, .slice a2 n2 c2), (16, .int .i64 (l2.length : Int)), (17, .int .i64 x1)] tm ∧ Step (fun l => NoM l ∨ t ≤ l) g0 g ∧ Box g m0 b1 90 [[.slice a1 n1 c1], [.map (some b2)]] [1, 1] ∧ RdS k_S_notary_entry g 173 a1 n1 c1 l1 ∧ MapB g m1 b2 kv_S_notary_entry (Value.int .i64) w1 ∧ RdS (Kd.slice 5 (Kd.int .u8)) g 24 a3 n3 c3 l3 ∧ RdS Kd.bool g 4 a4 n4 c4 l4 ∧ Box g (t + 1) b3 23 [encA .u8 d1] [8] ∧ OwnS (Kd.int .i64) g (t + 4) 3 a8 n6 c7 l6 ∧ Box g (t + 9) b14 23 [encA .u8 (getI l2 x1)] [8] ∧ RdS (Kd.arrI 8 .u8) g 23 a2 n2 c2 l2 ∧ (F.notary_Missing.c2 (F.notary_Missing.l1 l1 w1 l2 d1 l3 l4 k1) l1 w1 l2 d1 l3 l6 x1 q10) = some o1) ?_ ?_
   ·refine CP.region ?_
    refine WP.stl 2 ?_
    refine WP.len (a := a4) (cp := c4) hR4.len (by kernel_rfl) ?_
    refine WP.stl 2 ?_
    refine WP.guard 26 (b := decide (x1 < (l4.length : Int))) (by kernel_rfl) (fun h17 => ?_) (fun h17 => ?_)
    ·replace hs := of_if_t hs h17
     refine WP.stl 2 ?_
     by_cases hc13 : (0 : Int) ≤ x1 ∧ x1 < (l4.length : Int)
     case neg => rw [if_neg hc13] at hs; cases hs
     replace hs := of_if_p hs hc13
     obtain ⟨b16, u9, ha9⟩ := hR4.at hc13
     refine WP.indexA (t := 36) (e := 4) (sz := 1) (cap := c4) (k := .i64) (i := x1) hR4.len ha9 (by kernel_rfl) (by kernel_rfl) hc13 ?_
     obtain ⟨cs9, hcR9, hcV9⟩ := hR4.src.view (getI_some hc13) ha9
     replace hcR9 := Kd.o_bool hcR9
     refine WP.loadV [[.bool (getI l4 x1)]] [1] hcV9 hcR9 rfl (f := 0) (ty := 4) (agg := false) (size := 1) (rs := [[.bool (getI l4 x1)]]) (v := .bool (getI l4 x1)) (by kernel_rfl) (by kernel_rfl) (by kernel_rfl) (by kernel_rfl) ?_
     refine WP.stl 2 ?_
     refine WP.dn ?_
     refine NX.post ?_
     exact ⟨(getI l4 x1), ⟨by kernel_rfl, by kernel_rfl⟩, tot, hB2, hR1, hB1, hR3, hR4, hB3, hR8, hB10, hR2, hs⟩
    replace hs := of_if_f hs h17
    refine WP.stl 6 ?_
    refine WP.dn ?_
    refine NX.post ?_
    exact ⟨false, ⟨by kernel_rfl, by kernel_rfl⟩, tot, hB2, hR1, hB1, hR3, hR4, hB3, hR8, hB10, hR2, hs⟩
   clear tot hs hB2 hR1 hB1 hR3 hR4 hB3 hR8 hR2 hB10
   rintro tm g ⟨q10, hF, tot, hB2, hR1, hB1, hR3, hR4, hB3, hR8, hB10, hR2, hs⟩
   clear ds
   obtain ⟨ds, rfl⟩ := hF.open
   clear hF
   unfold F.notary_Missing.c2 at hs
   refine CP.cut (fun tm g => ∃ (q12 : Bool), Fr 49 [(0, .iface 39 (.pointer (some ⟨b1, 0, none⟩))), (3, .slice a3 n3 c3), (4, .slice a4 n4 c4), (7, .pointer (some ⟨b3, 0, none⟩)), (11, .slice a8 n6 c7), (12, .int .i64 x1), (15, .slice a2 n2 c2), (16, .int .i64 (l2.length : Int)), (17, .int .i64 x1), (42, .bool q12)] tm ∧ Step (fun l => NoM l ∨ t ≤ l) g0 g ∧ Box g m0 b1 90 [[.slice a1 n1 c1], [.map (some b2)]] [1, 1] ∧ RdS k_S_notary_entry g 173 a1 n1 c1 l1 ∧ MapB g m1 b2 kv_S_notary_entry (Value.int .i64) w1 ∧ RdS (Kd.slice 5 (Kd.int .u8)) g 24 a3 n3 c3 l3 ∧ RdS Kd.bool g 4 a4 n4 c4 l4 ∧ Box g (t + 1) b3 23 [encA .u8 d1] [8] ∧ OwnS (Kd.int .i64) g (t + 4) 3 a8 n6 c7 l6 ∧ RdS (Kd.arrI 8 .u8) g 23 a2 n2 c2 l2 ∧ (F.notary_Missing.c3 (F.notary_Missing.l1 l1 w1 l2 d1 l3 l4 k1) l6 x1 q12) = some o1) ?_ ?_
   ·refine CP.region ?_
    refine WP.stl 3 ?_
    refine WP.guard 34 (b := (!q10)) (by kernel_rfl) (fun h16 => ?_) (fun h16 => ?_)
    ·replace hs := of_if_t hs h16
     refine WP.stl 1 ?_
     refine WP.loadB (v := AG [encA .u8 (getI l2 x1)]) hB10 (by kernel_rfl) (by kernel_rfl) ?_
     refine WP.loadB (v := AG [encA .u8 d1]) hB3 (by kernel_rfl) (by kernel_rfl) ?_
     refine WP.stl 2 ?_
     replace hs := Option.bind_eq_some_iff.1 hs
     obtain ⟨q13, hk5, hs⟩ := hs
     have hcal5 := P.notary_signed g m0 m1 l1 w1 (getI l2 x1) d1 l3 x1 a1 n1 c1 a3 n3 c3 b1 b2 hR1 hR3 hB1 hB2 (by omega) (by omega) (by omega) q13 hk5
     refine WP.callC hcal5 (by kernel_rfl) ?_
     rintro _ g22 st22 rfl
     replace hB2 := hB2.mono st22 (fun x => x)
     replace hR1 := hR1.mono st22 (fun x => x)
     replace hB1 := hB1.mono st22 (fun x => x)
     replace hR3 := hR3.mono st22 (fun x => x)
     replace hR4 := hR4.mono st22 (fun x => x)
     replace hB3 := hB3.mono st22 (fun x => x)
     replace hR8 := hR8.mono st22 (fun x => x) (fun x => x)
     replace hB10 := hB10.mono st22 (fun x => x)
     replace hR2 := hR2.mono st22 (fun x => x)
     replace tot := tot.trans st22.pure
     refine WP.stl 2 ?_
     refine WP.dn ?_
     refine NX.post ?_
     exact ⟨(!q13), ⟨by kernel_rfl, by kernel_rfl⟩, tot, hB2, hR1, hB1, hR3, hR4, hB3, hR8, hR2, hs⟩
    replace hs := of_if_f hs h16
    refine WP.stl 8 ?_
    refine WP.dn ?_
    refine NX.post ?_
    exact ⟨false, ⟨by kernel_rfl, by kernel_rfl⟩, tot, hB2, hR1, hB1, hR3, hR4, hB3, hR8, hR2, hs⟩
   clear tot hs hB2 hR1 hB1 hR3 hR4 hB3 hR8 hB10 hR2
   rintro tm g ⟨q12, hF, tot, hB2, hR1, hB1, hR3, hR4, hB3, hR8, hR2, hs⟩
   clear ds
   obtain ⟨ds, rfl⟩ := hF.open
   clear hF
   unfold F.notary_Missing.c3 at hs
   refine CP.cond (b := q12) (by kernel_rfl) (fun h15 => ?_) (fun h15 => ?_)
   ·replace hs := of_if_t hs h15
    refine CP.region ?_
    refine WP.stl 2 ?_
    refine WP.mkSl (kd := (Kd.int .i64)) (t := 27) (e := 3) (bytes := 8) (t + 10) [.int .i64 x1] [x1] (by kernel_rfl) (by kernel_rfl) (Nat.le_of_ble_eq_true rfl) (Nat.le_of_ble_eq_true rfl) (all_cons rfl all_nil) (⟨_, _, rfl, (by exact rfl), rfl⟩) rfl ?_
    intro g20 a16 st20 hR16
    replace hB2 := hB2.mono st20 (fun x => x)
    replace hR1 := hR1.mono st20 (fun x => x)
    replace hB1 := hB1.mono st20 (fun x => x)
    replace hR3 := hR3.mono st20 (fun x => x)
    replace hR4 := hR4.mono st20 (fun x => x)
    replace hB3 := hB3.mono st20 (fun x => x)
    replace hR8 := hR8.mono st20 (fun x => x) (fun x => x)
    replace hR2 := hR2.mono st20 (fun x => x)
    replace tot := tot.trans st20.pure
    by_cases hc12 : l6.length + ([x1]).length ≤ 17592186044416
    case neg => rw [if_neg hc12] at hs; cases hs
    replace hs := of_if_p hs hc12
    refine WP.append (kd := (Kd.int .i64)) (t := 27) (e := 3) (bytes := 8) (a2 := a16) (c2 := 1) hR8 hR16.src hR16.len (by kernel_rfl) (by kernel_rfl) (by omega) (by simp only [maxLen]; omega) (by omega) ?_
    intro g21 a17 c13 st21 hR17
    replace hB2 := hB2.mono st21 (WL.no1 (by omega))
    replace hR1 := hR1.mono st21 (WL.no1 (by omega))
    replace hB1 := hB1.mono st21 (WL.no1 (by omega))
    replace hR3 := hR3.mono st21 (WL.no1 (by omega))
    replace hR4 := hR4.mono st21 (WL.no1 (by omega))
    replace hB3 := hB3.mono st21 (WL.no1 (by omega))
    replace hR2 := hR2.mono st21 (WL.no1 (by omega))
    replace hR16 := hR16.mono st21 (WL.no1 (by omega)) (WL.no1 (by omega))
    replace tot := tot.trans (st21.up1 (.inr (by omega)))
    refine WP.stl 1 ?_
    refine WP.dn ?_
    refine NX.block_n ?_
    refine NX.post ?_
    exact ⟨(l6 ++ [x1]), a17, (n6 + 1), c13, ⟨by kernel_rfl, by kernel_rfl⟩, tot, hB2, hR1, hB1, hR3, hR4, hB3, hR17, hR2, hs⟩
   replace hs := of_if_f hs h15
   refine CP.skip ?_
   refine NX.block_n ?_
   refine NX.post ?_
   exact ⟨l6, a8, n6, c7, ⟨by kernel_rfl, by kernel_rfl⟩, tot, hB2, hR1, hB1, hR3, hR4, hB3, hR8, hR2, hs⟩
  clear tot hs hB2 hR1 hB1 hR3 hR4 hB3 hR8 hR2
  rintro tm g ⟨l9, a15, n9, c12, hF, tot, hB2, hR1, hB1, hR3, hR4, hB3, hR15, hR2, hs⟩
  clear ds
  obtain ⟨ds, rfl⟩ := hF.open
  clear hF
  unfold F.notary_Missing.c1 at hs
  refine CP.region ?_
  refine WP.stl 2 ?_
  refine WP.dn ?_
  refine NX.post ?_
  exact ⟨l9, a15, n9, c12, (IntKind.i64.wrap (x1 + 1)), ⟨by kernel_rfl, by kernel_rfl⟩, tot, hB2, hR1, hB1, hR3, hR4, hB3, hR15, hR2, hs⟩
 replace hs := of_if_f hs h9
 refine CP.exit ?_
 refine NX.then_e ?_
 refine NX.then_e ?_
 refine NX.block_s ?_
 refine NX.then_n ?_
 refine CP.seqR ?_
 refine WP.stl 2 ?_
 refine WP.dn ?_
 refine NX.then_n ?_
 refine CP.ret ?_
 obtain ⟨g23, hw1, st23, hnew⟩ := hR8.relab (by omega) r0
 refine NX.regw hw1 ?_
 replace tot := tot.trans (st23.up1 (.inr (by omega)))
 clear hR8
 have hR8 := hnew
 clear hnew
 replace hs := Option.some.inj hs
 obtain rfl := hs
 exact NX.fin (v := .slice a8 n6 c7) (Res.still (by kernel_rfl)) tot htL ⟨a8, n6, c7, rfl, hR8⟩
def F.notary_All.c1 (l1 : List S_notary_entry) (w1 : (List (S_notary_entry × Int))) (l2 : List (Arr Int 8)) (d1 : Arr Int 8) (l3 : List (List Int)) (l4 : List Bool) (q1 : Bool) : Option (Int) := (if q1 = true then (some 1) else ((F.notary_Missing l1 w1 l2 d1 l3 l4).bind fun l5 => (if decide ((l5.length : Int) > 0) = true then (some 16) else (some 0))))
def F.notary_All (l1 : List S_notary_entry) (w1 : (List (S_notary_entry × Int))) (l2 : List (Arr Int 8)) (d1 : Arr Int 8) (l3 : List (List Int)) (l4 : List Bool) : Option (Int) := (if ((l2.length : Int) == 0) = true then (F.notary_All.c1 l1 w1 l2 d1 l3 l4 true) else (F.notary_All.c1 l1 w1 l2 d1 l3 l4 ((l3.length : Int) != (l2.length : Int))))
theorem P.notary_All (g0 : GW) (m0 : Nat) (m1 : Nat) (l1 : List S_notary_entry) (w1 : (List (S_notary_entry × Int))) (l2 : List (Arr Int 8)) (d1 : Arr Int 8) (l3 : List (List Int)) (l4 : List Bool) (a1 : Option Addr) (n1 : Nat) (c1 : Nat) (a2 : Option Addr) (n2 : Nat) (c2 : Nat) (a3 : Option Addr) (n3 : Nat) (c3 : Nat) (a4 : Option Addr) (n4 : Nat) (c4 : Nat) (b1 : Nat) (b2 : Nat) (hR1 : RdS k_S_notary_entry g0 173 a1 n1 c1 l1) (hR2 : RdS (Kd.arrI 8 .u8) g0 23 a2 n2 c2 l2) (hR3 : RdS (Kd.slice 5 (Kd.int .u8)) g0 24 a3 n3 c3 l3) (hR4 : RdS Kd.bool g0 4 a4 n4 c4 l4) (hB1 : MapB g0 m1 b2 kv_S_notary_entry (Value.int .i64) w1) (hB2 : Box g0 m0 b1 90 [[.slice a1 n1 c1], [.map (some b2)]] [1, 1]) (hm1_0 : m1 ≠ m0) (hm0 : m0 ≠ 0) (hm1 : m1 ≠ 0) (o1 : Int) (hs : F.notary_All l1 w1 l2 d1 l3 l4 = some o1) :
  Calls Try.prog 42 #[.iface 39 (.pointer (some ⟨b1, 0, none⟩)), .slice a2 n2 c2, AG [encA .u8 d1], .slice a3 n3 c3, .slice a4 n4 c4] g0.w (Ret NoM g0 fun v g => v = .int .i64 o1) := by
 refine calls_of (args := [.iface 39 (.pointer (some ⟨b1, 0, none⟩)), .slice a2 n2 c2, AG [encA .u8 d1], .slice a3 n3 c3, .slice a4 n4 c4]) Try.func42 rfl (m0 + m1 + 0) ?_
 intro t ht htL
 refine ⟨_, rfl, ?_⟩
 refine CP.refr 31 [(0, .iface 39 (.pointer (some ⟨b1, 0, none⟩))), (1, .slice a2 n2 c2), (2, AG [encA .u8 d1]), (3, .slice a3 n3 c3), (4, .slice a4 n4 c4)] (by kernel_rfl) (by kernel_rfl) ?_
 intro ds
 have tot : Step (fun l => NoM l ∨ t ≤ l) g0 g0 := Step.refl _ _
 unfold F.notary_All at hs
 refine CP.seqR ?_
 refine WP.alloc (T := 23) (t + 1) [encA .u8 d1] [8] (by kernel_rfl) (by simp [len_encA]) ?_
 intro g1 b3 st1 hB3
 replace hB2 := hB2.mono st1 (fun x => x)
 replace hR1 := hR1.mono st1 (fun x => x)
 replace hB1 := hB1.mono st1 (fun x => x)
 replace hR2 := hR2.mono st1 (fun x => x)
 replace hR3 := hR3.mono st1 (fun x => x)
 replace hR4 := hR4.mono st1 (fun x => x)
 replace tot := tot.trans st1.pure
 refine WP.stl 1 ?_
 refine WP.dn ?_
 refine NX.then_n ?_
 refine CP.seq ?_
 refine CP.block ?_
 refine CP.cut (fun tm g => ∃ (q1 : Bool), Fr 31 [(0, .iface 39 (.pointer (some ⟨b1, 0, none⟩))), (1, .slice a2 n2 c2), (3, .slice a3 n3 c3), (4, .slice a4 n4 c4), (7, .pointer (some ⟨b3, 0, none⟩)), (11, .bool q1)] tm ∧ Step (fun l => NoM l ∨ t ≤ l) g0 g ∧ Box g m0 b1 90 [[.slice a1 n1 c1], [.map (some b2)]] [1, 1] ∧ RdS k_S_notary_entry g 173 a1 n1 c1 l1 ∧ MapB g m1 b2 kv_S_notary_entry (Value.int .i64) w1 ∧ RdS (Kd.arrI 8 .u8) g 23 a2 n2 c2 l2 ∧ RdS (Kd.slice 5 (Kd.int .u8)) g 24 a3 n3 c3 l3 ∧ RdS Kd.bool g 4 a4 n4 c4 l4 ∧ Box g (t + 1) b3 23 [encA .u8 d1] [8] ∧ (F.notary_All.c1 l1 w1 l2 d1 l3 l4 q1) = some o1) ?_ ?_
 ·refine CP.region ?_
  refine WP.stl 1 ?_
  refine WP.len (a := a2) (cp := c2) hR2.len (by kernel_rfl) ?_
  refine WP.stl 2 ?_
  refine WP.guard 15 (b := ((l2.length : Int) == 0)) (by kernel_rfl) (fun h4 => ?_) (fun h4 => ?_)
  ·replace hs := of_if_t hs h4
   refine WP.stl 7 ?_
   refine WP.dn ?_
   refine NX.post ?_
   exact ⟨true, ⟨by kernel_rfl, by kernel_rfl⟩, tot, hB2, hR1, hB1, hR2, hR3, hR4, hB3, hs⟩
  replace hs := of_if_f hs h4
  refine WP.stl 1 ?_
  refine WP.len (a := a3) (cp := c3) hR3.len (by kernel_rfl) ?_
  refine WP.stl 1 ?_
  refine WP.len (a := a2) (cp := c2) hR2.len (by kernel_rfl) ?_
  refine WP.stl 3 ?_
  refine WP.dn ?_
  refine NX.post ?_
  exact ⟨((l3.length : Int) != (l2.length : Int)), ⟨by kernel_rfl, by kernel_rfl⟩, tot, hB2, hR1, hB1, hR2, hR3, hR4, hB3, hs⟩
 clear tot hs hB2 hR1 hB1 hR2 hR3 hR4 hB3
 rintro tm g ⟨q1, hF, tot, hB2, hR1, hB1, hR2, hR3, hR4, hB3, hs⟩
 clear ds
 obtain ⟨ds, rfl⟩ := hF.open
 clear hF
 unfold F.notary_All.c1 at hs
 refine CP.cond (b := q1) (by kernel_rfl) (fun h2 => ?_) (fun h2 => ?_)
 ·replace hs := of_if_t hs h2
  refine CP.seqR ?_
  refine WP.stl 1 ?_
  refine WP.dn ?_
  refine NX.then_n ?_
  refine CP.ret ?_
  refine NX.block_r ?_
  refine NX.then_r ?_
  replace hs := Option.some.inj hs
  obtain rfl := hs
  exact NX.fin (v := .int .i64 1) (Res.still (by kernel_rfl)) tot htL rfl
 replace hs := of_if_f hs h2
 refine CP.seqR ?_
 refine WP.stl 2 ?_
 refine WP.loadB (v := AG [encA .u8 d1]) hB3 (by kernel_rfl) (by kernel_rfl) ?_
 refine WP.stl 2 ?_
 replace hs := Option.bind_eq_some_iff.1 hs
 obtain ⟨l5, hk1, hs⟩ := hs
 have hcal1 := P.notary_Missing g m0 m1 (t + 2) l1 w1 l2 d1 l3 l4 a1 n1 c1 a2 n2 c2 a3 n3 c3 a4 n4 c4 b1 b2 hR1 hR2 hR3 hR4 hB1 hB2 (by omega) (by omega) (by omega) l5 hk1
 refine WP.callC hcal1 (by kernel_rfl) ?_
 rintro _ g2 st2 ⟨a5, n5, c5, rfl, hR5⟩
 replace hB2 := hB2.mono st2 (fun x => x)
 replace hR1 := hR1.mono st2 (fun x => x)
 replace hB1 := hB1.mono st2 (fun x => x)
 replace hR2 := hR2.mono st2 (fun x => x)
 replace hR3 := hR3.mono st2 (fun x => x)
 replace hR4 := hR4.mono st2 (fun x => x)
 replace hB3 := hB3.mono st2 (fun x => x)
 replace tot := tot.trans st2.pure
 refine WP.len (a := a5) (cp := c5) hR5.len (by kernel_rfl) ?_
 refine WP.stl 2 ?_
 refine WP.dn ?_
 refine NX.then_n ?_
 refine CP.cond (b := decide ((l5.length : Int) > 0)) (by kernel_rfl) (fun h3 => ?_) (fun h3 => ?_)
 ·replace hs := of_if_t hs h3
  refine CP.seqR ?_
  refine WP.stl 1 ?_
  refine WP.dn ?_
  refine NX.then_n ?_
  refine CP.ret ?_
  refine NX.block_r ?_
  refine NX.then_r ?_
  replace hs := Option.some.inj hs
  obtain rfl := hs
  exact NX.fin (v := .int .i64 16) (Res.still (by kernel_rfl)) tot htL rfl
 replace hs := of_if_f hs h3
 refine CP.skip ?_
 refine NX.block_n ?_
 refine NX.then_n ?_
 refine CP.seqR ?_
 refine WP.stl 1 ?_
 refine WP.dn ?_
 refine NX.then_n ?_
 refine CP.ret ?_
 replace hs := Option.some.inj hs
 obtain rfl := hs
 exact NX.fin (v := .int .i64 0) (Res.still (by kernel_rfl)) tot htL rfl
def F.state_Full (l1 : List S_notary_entry) (w1 : (List (S_notary_entry × Int))) (l2 : List (Arr Int 8)) (l3 : List Bool) (d1 : Arr Int 8) (l4 : List (List Int)) : Option (Bool) := ((F.notary_All l1 w1 l2 d1 l4 l3).bind fun x1 => (some (x1 == 0)))
theorem P.state_Full (g0 : GW) (m0 : Nat) (m1 : Nat) (l1 : List S_notary_entry) (w1 : (List (S_notary_entry × Int))) (l2 : List (Arr Int 8)) (l3 : List Bool) (d1 : Arr Int 8) (l4 : List (List Int)) (a1 : Option Addr) (n1 : Nat) (c1 : Nat) (a2 : Option Addr) (n2 : Nat) (c2 : Nat) (a3 : Option Addr) (n3 : Nat) (c3 : Nat) (a4 : Option Addr) (n4 : Nat) (c4 : Nat) (b1 : Nat) (b2 : Nat) (hR1 : RdS k_S_notary_entry g0 173 a1 n1 c1 l1) (hR2 : RdS (Kd.arrI 8 .u8) g0 23 a2 n2 c2 l2) (hR3 : RdS Kd.bool g0 4 a3 n3 c3 l3) (hR4 : RdS (Kd.slice 5 (Kd.int .u8)) g0 24 a4 n4 c4 l4) (hB1 : MapB g0 m1 b2 kv_S_notary_entry (Value.int .i64) w1) (hB2 : Box g0 m0 b1 90 [[.slice a1 n1 c1], [.map (some b2)]] [1, 1]) (hm1_0 : m1 ≠ m0) (hm0 : m0 ≠ 0) (hm1 : m1 ≠ 0) (o1 : Bool) (hs : F.state_Full l1 w1 l2 l3 d1 l4 = some o1) :
  Calls Try.prog 20 #[.iface 39 (.pointer (some ⟨b1, 0, none⟩)), .slice a2 n2 c2, .slice a3 n3 c3, AG [encA .u8 d1], .slice a4 n4 c4] g0.w (Ret NoM g0 fun v g => v = .bool o1) := by
 refine calls_of (args := [.iface 39 (.pointer (some ⟨b1, 0, none⟩)), .slice a2 n2 c2, .slice a3 n3 c3, AG [encA .u8 d1], .slice a4 n4 c4]) Try.func20 rfl (m0 + m1 + 0) ?_
 intro t ht htL
 refine ⟨_, rfl, ?_⟩
 refine CP.refr 18 [(0, .iface 39 (.pointer (some ⟨b1, 0, none⟩))), (1, .slice a2 n2 c2), (2, .slice a3 n3 c3), (3, AG [encA .u8 d1]), (4, .slice a4 n4 c4)] (by kernel_rfl) (by kernel_rfl) ?_
 intro ds
 have tot : Step (fun l => NoM l ∨ t ≤ l) g0 g0 := Step.refl _ _
 unfold F.state_Full at hs
 refine CP.seqR ?_
 refine WP.alloc (T := 23) (t + 1) [encA .u8 d1] [8] (by kernel_rfl) (by simp [len_encA]) ?_
 intro g1 b3 st1 hB3
 replace hB2 := hB2.mono st1 (fun x => x)
 replace hR1 := hR1.mono st1 (fun x => x)
 replace hB1 := hB1.mono st1 (fun x => x)
 replace hR2 := hR2.mono st1 (fun x => x)
 replace hR3 := hR3.mono st1 (fun x => x)
 replace hR4 := hR4.mono st1 (fun x => x)
 replace tot := tot.trans st1.pure
 refine WP.stl 1 ?_
 refine WP.dn ?_
 refine NX.then_n ?_
 refine CP.seqR ?_
 refine WP.stl 2 ?_
 refine WP.loadB (v := AG [encA .u8 d1]) hB3 (by kernel_rfl) (by kernel_rfl) ?_
 refine WP.stl 2 ?_
 replace hs := Option.bind_eq_some_iff.1 hs
 obtain ⟨x1, hk1, hs⟩ := hs
 have hcal1 := P.notary_All g1 m0 m1 l1 w1 l2 d1 l4 l3 a1 n1 c1 a2 n2 c2 a4 n4 c4 a3 n3 c3 b1 b2 hR1 hR2 hR4 hR3 hB1 hB2 (by omega) (by omega) (by omega) x1 hk1
 refine WP.callC hcal1 (by kernel_rfl) ?_
 rintro _ g2 st2 rfl
 replace hB2 := hB2.mono st2 (fun x => x)
 replace hR1 := hR1.mono st2 (fun x => x)
 replace hB1 := hB1.mono st2 (fun x => x)
 replace hR2 := hR2.mono st2 (fun x => x)
 replace hR3 := hR3.mono st2 (fun x => x)
 replace hR4 := hR4.mono st2 (fun x => x)
 replace hB3 := hB3.mono st2 (fun x => x)
 replace tot := tot.trans st2.pure
 refine WP.stl 2 ?_
 refine WP.dn ?_
 refine NX.then_n ?_
 refine CP.ret ?_
 replace hs := Option.some.inj hs
 obtain rfl := hs
 exact NX.fin (v := .bool (x1 == 0)) (Res.still (by kernel_rfl)) tot htL rfl
def F.state_Count.c1 (nx1 : Int → Int → Option (Int)) (x3 : Int) (x7 : Int) : Option (Int) := (nx1 x7 (IntKind.i64.wrap (x3 + 1)))
def F.state_Count.c2 (nx1 : Int → Int → Option (Int)) (x2 : Int) (x3 : Int) (q8 : Bool) : Option (Int) := (if q8 = true then (F.state_Count.c1 nx1 x3 (IntKind.i64.wrap (x2 + 1))) else (F.state_Count.c1 nx1 x3 x2))
def N.state_Count_0 : List (List Nat) := [[], [0], [0, 1], [0, 1, 2], [0, 1, 2], [0, 1, 2, 4], [0, 1, 2, 3, 4, 5], [0, 1, 2, 3, 4, 5, 6], [0, 1, 2, 3, 4, 5, 6, 7], [0, 1, 2, 3, 4, 5, 6, 7, 8], [0, 1, 2, 3, 4, 5, 6, 7, 8], [0, 1, 2, 3, 4, 5, 6, 7, 8], [0, 1, 2, 3, 4, 5, 6, 7, 8], [0, 1, 2, 3, 4, 5, 6, 7, 8], [0, 1, 2, 3, 4, 5, 6, 7, 8, 12, 13], [0, 1, 2, 3, 4, 5, 6, 7, 8, 12, 13, 14], [0, 1, 2, 3, 4, 5, 6, 7, 8, 9], [0, 1, 2, 3, 4, 5, 6, 7, 8, 9, 16], [0, 1, 2, 3, 4, 5, 6, 7, 8, 9, 16, 17], [0, 1, 2, 3, 4, 5, 6, 7, 8, 9, 10, 11, 12, 13, 14, 15, 16, 17, 18], [0, 1, 2, 3, 4, 5, 6, 7, 8, 9, 10, 11, 12, 13, 14, 15, 16, 17, 18, 19]]
def F.state_Count.l1 (l1 : List S_notary_entry) (w1 : (List (S_notary_entry × Int))) (l2 : List (Arr Int 8)) (d1 : Arr Int 8) (l3 : List (List Int)) : Nat → Int → Int → Option (Int)
 | 0, _, _ => none
 | k + 1, x2, x3 => (if decide (x3 < (l2.length : Int)) = true then (if (0 : Int) ≤ x3 ∧ x3 < (l2.length : Int) then (if decide (x3 < (l3.length : Int)) = true then (if (0 : Int) ≤ x3 ∧ x3 < (l3.length : Int) then ((F.notary_Book_Verify l1 w1 (getI l2 x3) d1 (getI l3 x3)).bind fun q9 => (F.state_Count.c2 (F.state_Count.l1 l1 w1 l2 d1 l3 k) x2 x3 q9)) else none) else (F.state_Count.c2 (F.state_Count.l1 l1 w1 l2 d1 l3 k) x2 x3 false)) else none) else (some x2))
def F.state_Count (l1 : List S_notary_entry) (w1 : (List (S_notary_entry × Int))) (l2 : List (Arr Int 8)) (d1 : Arr Int 8) (l3 : List (List Int)) : Option (Int) := (F.state_Count.l1 l1 w1 l2 d1 l3 fuel 0 0)
theorem P.state_Count (g0 : GW) (m0 : Nat) (m1 : Nat) (l1 : List S_notary_entry) (w1 : (List (S_notary_entry × Int))) (l2 : List (Arr Int 8)) (d1 : Arr Int 8) (l3 : List (List Int)) (a1 : Option Addr) (n1 : Nat) (c1 : Nat) (a2 : Option Addr) (n2 : Nat) (c2 : Nat) (a3 : Option Addr) (n3 : Nat) (c3 : Nat) (b1 : Nat) (b2 : Nat) (hR1 : RdS k_S_notary_entry g0 173 a1 n1 c1 l1) (hR2 : RdS (Kd.arrI 8 .u8) g0 23 a2 n2 c2 l2) (hR3 : RdS (Kd.slice 5 (Kd.int .u8)) g0 24 a3 n3 c3 l3) (hB1 : MapB g0 m1 b2 kv_S_notary_entry (Value.int .i64) w1) (hB2 : Box g0 m0 b1 90 [[.slice a1 n1 c1], [.map (some b2)]] [1, 1]) (hm1_0 : m1 ≠ m0) (hm0 : m0 ≠ 0) (hm1 : m1 ≠ 0) (o1 : Int) (hs : F.state_Count l1 w1 l2 d1 l3 = some o1) :
  Calls Try.prog 21 #[.iface 39 (.pointer (some ⟨b1, 0, none⟩)), .slice a2 n2 c2, AG [encA .u8 d1], .slice a3 n3 c3] g0.w (Ret NoM g0 fun v g => v = .int .i64 o1) := by
 refine calls_of (args := [.iface 39 (.pointer (some ⟨b1, 0, none⟩)), .slice a2 n2 c2, AG [encA .u8 d1], .slice a3 n3 c3]) Try.func21 rfl (m0 + m1 + 0) ?_
 intro t ht htL
 refine ⟨_, rfl, ?_⟩
 refine CP.refr 44 [(0, .iface 39 (.pointer (some ⟨b1, 0, none⟩))), (1, .slice a2 n2 c2), (2, AG [encA .u8 d1]), (3, .slice a3 n3 c3)] (by kernel_rfl) (by kernel_rfl) ?_
 intro ds
 have tot : Step (fun l => NoM l ∨ t ≤ l) g0 g0 := Step.refl _ _
 unfold F.state_Count at hs
 refine CP.seqR ?_
 refine WP.alloc (T := 23) (t + 1) [encA .u8 d1] [8] (by kernel_rfl) (by simp [len_encA]) ?_
 intro g1 b3 st1 hB3
 replace hB2 := hB2.mono st1 (fun x => x)
 replace hR1 := hR1.mono st1 (fun x => x)
 replace hB1 := hB1.mono st1 (fun x => x)
 replace hR2 := hR2.mono st1 (fun x => x)
 replace hR3 := hR3.mono st1 (fun x => x)
 replace tot := tot.trans st1.pure
 refine WP.stl 1 ?_
 refine WP.dn ?_
 refine NX.then_n ?_
 refine CP.seqR ?_
 refine WP.stl 1 ?_
 refine WP.dn ?_
 refine NX.then_n ?_
 refine CP.seq ?_
 refine CP.seqR ?_
 refine WP.stl 1 ?_
 refine WP.len (a := a2) (cp := c2) hR2.len (by kernel_rfl) ?_
 refine WP.stl 1 ?_
 refine WP.dn ?_
 refine NX.then_n ?_
 refine CP.block ?_
 generalize fuel = k1 at hs
 refine CP.loop (fun k1 tm g => ∃ (x2 : Int) (x3 : Int), Fr 44 [(0, .iface 39 (.pointer (some ⟨b1, 0, none⟩))), (3, .slice a3 n3 c3), (6, .pointer (some ⟨b3, 0, none⟩)), (9, .int .i64 x2), (12, .slice a2 n2 c2), (13, .int .i64 (l2.length : Int)), (14, .int .i64 x3)] tm ∧ Step (fun l => NoM l ∨ t ≤ l) g0 g ∧ Box g m0 b1 90 [[.slice a1 n1 c1], [.map (some b2)]] [1, 1] ∧ RdS k_S_notary_entry g 173 a1 n1 c1 l1 ∧ MapB g m1 b2 kv_S_notary_entry (Value.int .i64) w1 ∧ RdS (Kd.slice 5 (Kd.int .u8)) g 24 a3 n3 c3 l3 ∧ Box g (t + 1) b3 23 [encA .u8 d1] [8] ∧ RdS (Kd.arrI 8 .u8) g 23 a2 n2 c2 l2 ∧ F.state_Count.l1 l1 w1 l2 d1 l3 k1 x2 x3 = some o1) k1 ?_ ?_ ?_
 ·exact ⟨0, 0, ⟨by kernel_rfl, by kernel_rfl⟩, tot, hB2, hR1, hB1, hR3, hB3, hR2, hs⟩
 ·rintro tm g ⟨x2, x3, hF, tot, hB2, hR1, hB1, hR3, hB3, hR2, hs⟩
  exact absurd hs (by simp [F.state_Count.l1])
 clear tot hs hB2 hR1 hB1 hR3 hB3 hR2
 rintro k1 tm g ⟨x2, x3, hF, tot, hB2, hR1, hB1, hR3, hB3, hR2, hs⟩
 clear ds
 obtain ⟨ds, rfl⟩ := hF.open
 clear hF
 unfold F.state_Count.l1 at hs
 refine CP.seqR ?_
 refine WP.stl 1 ?_
 refine WP.dn ?_
 refine NX.then_n ?_
 refine CP.seq ?_
 refine CP.cond (b := decide (x3 < (l2.length : Int))) (by kernel_rfl) (fun h7 => ?_) (fun h7 => ?_)
 ·replace hs := of_if_t hs h7
  refine CP.skip ?_
  refine NX.then_n ?_
  refine CP.cut (fun tm g => ∃ (x7 : Int), Fr 44 [(0, .iface 39 (.pointer (some ⟨b1, 0, none⟩))), (3, .slice a3 n3 c3), (6, .pointer (some ⟨b3, 0, none⟩)), (9, .int .i64 x7), (12, .slice a2 n2 c2), (13, .int .i64 (l2.length : Int)), (14, .int .i64 x3), (22, .int .i64 x3), (23, .slice a3 n3 c3), (24, .int .i64 (l3.length : Int)), (25, .bool (decide (x3 < (l3.length : Int))))] tm ∧ Step (fun l => NoM l ∨ t ≤ l) g0 g ∧ Box g m0 b1 90 [[.slice a1 n1 c1], [.map (some b2)]] [1, 1] ∧ RdS k_S_notary_entry g 173 a1 n1 c1 l1 ∧ MapB g m1 b2 kv_S_notary_entry (Value.int .i64) w1 ∧ RdS (Kd.slice 5 (Kd.int .u8)) g 24 a3 n3 c3 l3 ∧ Box g (t + 1) b3 23 [encA .u8 d1] [8] ∧ RdS (Kd.arrI 8 .u8) g 23 a2 n2 c2 l2 ∧ (F.state_Count.c1 (F.state_Count.l1 l1 w1 l2 d1 l3 k1) x3 x7) = some o1) ?_ ?_
  ·refine CP.block ?_
   refine CP.seqR ?_
   refine WP.stl 1 ?_
   by_cases hc7 : (0 : Int) ≤ x3 ∧ x3 < (l2.length : Int)
   case neg => rw [if_neg hc7] at hs; cases hs
   replace hs := of_if_p hs hc7
   obtain ⟨b13, u7, ha7⟩ := hR2.at hc7
   refine WP.indexA (t := 41) (e := 23) (sz := 8) (cap := c2) (k := .i64) (i := x3) hR2.len ha7 (by kernel_rfl) (by kernel_rfl) hc7 ?_
   obtain ⟨cs7, hcR7, hcV7⟩ := hR2.src.view (getI_some hc7) ha7
   replace hcR7 := Kd.o_arr hcR7
   refine WP.loadV [encA .u8 (getI l2 x3)] [8] hcV7 hcR7 (by simp [len_encA]) (f := 0) (ty := 23) (agg := true) (size := 8) (rs := [encA .u8 (getI l2 x3)]) (v := AG [encA .u8 (getI l2 x3)]) (by kernel_rfl) (by kernel_rfl) (by kernel_rfl) (by kernel_rfl) ?_
   refine WP.alloc (T := 23) (t + 5) [encA .u8 (zA 8)] [8] (by kernel_rfl) (by simp [len_encA]) ?_
   intro g11 b14 st11 hB10
   replace hB2 := hB2.mono st11 (fun x => x)
   replace hR1 := hR1.mono st11 (fun x => x)
   replace hB1 := hB1.mono st11 (fun x => x)
   replace hR3 := hR3.mono st11 (fun x => x)
   replace hB3 := hB3.mono st11 (fun x => x)
   replace hR2 := hR2.mono st11 (fun x => x)
   replace tot := tot.trans st11.pure
   refine WP.stl 1 ?_
   refine WP.storeB (ty := 23) (off := 0) (v := AG [encA .u8 (getI l2 x3)]) hB10 [encA .u8 (getI l2 x3)] [8] (by kernel_rfl) (by kernel_rfl) (by simp [len_encA]) (by kernel_rfl) [encA .u8 (getI l2 x3)] (by kernel_rfl) (.arr .nil) ?_
   intro g12 st12 hB11
   replace hB2 := hB2.mono st12 (WL.no1 (by omega))
   replace hR1 := hR1.mono st12 (WL.no1 (by omega))
   replace hB1 := hB1.mono st12 (WL.no1 (by omega))
   replace hR3 := hR3.mono st12 (WL.no1 (by omega))
   replace hB3 := hB3.mono st12 (WL.no1 (by omega))
   replace hR2 := hR2.mono st12 (WL.no1 (by omega))
   replace tot := tot.trans (st12.up1 (.inr (by omega)))
   clear hB10
   have hB10 := hB11
   clear hB11
   refine WP.dn ?_
   refine NX.then_n ?_
   refine CP.cut (fun tm g => ∃ (q8 : Bool), Fr 44 [(0, .iface 39 (.pointer (some ⟨b1, 0, none⟩))), (3, .slice a3 n3 c3), (6, .pointer (some ⟨b3, 0, none⟩)), (9, .int .i64 x2), (12, .slice a2 n2 c2), (13, .int .i64 (l2.length : Int)), (14, .int .i64 x3), (22, .int .i64 x3), (23, .slice a3 n3 c3), (24, .int .i64 (l3.length : Int)), (25, .bool (decide (x3 < (l3.length : Int)))), (39, .bool q8)] tm ∧ Step (fun l => NoM l ∨ t ≤ l) g0 g ∧ Box g m0 b1 90 [[.slice a1 n1 c1], [.map (some b2)]] [1, 1] ∧ RdS k_S_notary_entry g 173 a1 n1 c1 l1 ∧ MapB g m1 b2 kv_S_notary_entry (Value.int .i64) w1 ∧ RdS (Kd.slice 5 (Kd.int .u8)) g 24 a3 n3 c3 l3 ∧ Box g (t + 1) b3 23 [encA .u8 d1] [8] ∧ RdS (Kd.arrI 8 .u8) g 23 a2 n2 c2 l2 ∧ (F.state_Count.c2 (F.state_Count.l1 l1 w1 l2 d1 l3 k1) x2 x3 q8) = some o1) ?_ ?_
   ·refine bool_split (b := decide (x3 < (l3.length : Int))) (fun h12 => ?_) (fun h12 => ?_)
    ·replace hs := of_if_t hs h12
     by_cases hc9 : (0 : Int) ≤ x3 ∧ x3 < (l3.length : Int)
     case neg => rw [if_neg hc9] at hs; cases hs
     replace hs := of_if_p hs hc9
     replace hs := Option.bind_eq_some_iff.1 hs
     obtain ⟨q9, hk5, hs⟩ := hs
     obtain ⟨b16, u9, ha9⟩ := hR3.at hc9
     refine CP.drawL (by kernel_rfl) [5, 8, 10, 11, 14, 15, 19] N.state_Count_0 [⟨none, [], [], fun l g => Box g m0 b1 90 [[.slice a1 n1 c1], [.map (some b2)]] [1, 1]⟩, ⟨none, [], [], fun l g => RdS k_S_notary_entry g 173 a1 n1 c1 l1⟩, ⟨none, [], [], fun l g => MapB g m1 b2 kv_S_notary_entry (Value.int .i64) w1⟩, ⟨none, [], [], fun l g => RdS (Kd.slice 5 (Kd.int .u8)) g 24 a3 n3 c3 l3⟩, ⟨none, [], [], fun l g => Box g (t + 1) b3 23 [encA .u8 d1] [8]⟩, ⟨none, [], [], fun l g => Box g (t + 5) b14 23 [encA .u8 (getI l2 x3)] [8]⟩, ⟨some 0, [], [0], fun l g => l.getD 0 undef = .int .i64 (l3.length : Int)⟩, ⟨some 1, [], [1], fun l g => l.getD 0 undef = .bool true⟩, ⟨some 2, [], [2], fun l g => l.getD 0 undef = AG [encA .u8 (getI l2 x3)]⟩, ⟨some 3, [], [3], fun l g => l.getD 0 undef = AG [encA .u8 d1]⟩, ⟨some 4, [], [4], fun l g => l.getD 0 undef = .pointer (some ⟨b16, u9 + x3.toNat * 1, none⟩)⟩, ⟨some 5, [], [5], fun l g => ∃ (a8 : Option Addr) (c8 : Nat), l.getD 0 undef = .slice a8 ((getI l3 x3).length) c8 ∧ RdS (Kd.int .u8) g 5 a8 ((getI l3 x3).length) c8 (getI l3 x3)⟩, ⟨some 6, [], [6], fun l g => l.getD 0 undef = .bool q9⟩] [[], [], [], [], [], [], []] [] [0, 1, 2, 3, 4] [6, 7, 9, 12, 13, 16, 17, 18, 20] (by kernel_rfl) (by simp) (by simp) ⟨fun _ _ _ _ st h0 hl hj hB2 => (hB2.mono st (fun h => absurd (hl _ h) (by simp))), fun _ _ _ _ st h0 hl hj hR1 => (RdS.mono (e := 173) hR1 st h0), fun _ _ _ _ st h0 hl hj hB1 => (hB1.mono st (fun h => absurd (hl _ h) (by simp))), fun _ _ _ _ st h0 hl hj hR3 => (RdS.mono (e := 24) hR3 st h0), fun _ _ _ _ st h0 hl hj hB3 => (hB3.mono st (fun h => absurd (hl _ h) (by simp))), fun _ _ _ _ st h0 hl hj hB10 => (hB10.mono st (fun h => absurd (hl _ h) (by simp))), fun _ _ _ _ st h0 hl hj e0 => e0, fun _ _ _ _ st h0 hl hj e1 => e1, fun _ _ _ _ st h0 hl hj e2 => e2, fun _ _ _ _ st h0 hl hj e3 => e3, fun _ _ _ _ st h0 hl hj e4 => e4, fun _ _ _ _ st h0 hl hj ⟨a8, c8, e5, hR8⟩ => ⟨a8, c8, e5, (RdS.mono (e := 5) hR8 st h0)⟩, fun _ _ _ _ st h0 hl hj e6 => e6, tv⟩ ⟨hB2, hR1, hB1, hR3, hB3, hB10, tv, tv, tv, tv, tv, tv, tv, tv⟩ (by kernel_rfl) (fun vs => by kernel_rfl) ?_ ?_ ?_
     ·intro j hj
      have hq : j = 0 ∨ j = 1 ∨ j = 2 ∨ j = 3 ∨ j = 4 ∨ j = 5 ∨ j = 6 ∨ j = 7 ∨ j = 8 := by have h : j < 9 := hj; omega
      rcases hq with rfl | rfl | rfl | rfl | rfl | rfl | rfl | rfl | rfl
      ·intro vs gq stq hl hf
       obtain ⟨v0, v1, v2, v3, v4, v5, v6, rfl⟩ := len_k7 hl
       have e0 := (show v0 = .int .i64 (l3.length : Int) from hf _ (memI 6 rfl) (by kernel_rfl))
       subst e0
       show Option.isSome _ = true
       kernel_rfl
      ·intro vs gq stq hl hf
       obtain ⟨v0, v1, v2, v3, v4, v5, v6, rfl⟩ := len_k7 hl
       have e0 := (show v0 = .int .i64 (l3.length : Int) from hf _ (memI 6 rfl) (by kernel_rfl))
       subst e0
       show Option.isSome _ = true
       kernel_rfl
      ·intro vs gq stq hl hf
       obtain ⟨v0, v1, v2, v3, v4, v5, v6, rfl⟩ := len_k7 hl
       have e1 := (show v1 = .bool true from hf _ (memI 7 rfl) (by kernel_rfl))
       subst e1
       show Option.isSome _ = true
       kernel_rfl
      ·intro vs gq stq hl hf
       obtain ⟨v0, v1, v2, v3, v4, v5, v6, rfl⟩ := len_k7 hl
       have e1 := (show v1 = .bool true from hf _ (memI 7 rfl) (by kernel_rfl))
       subst e1
       show Option.isSome _ = true
       kernel_rfl
      ·intro vs gq stq hl hf
       obtain ⟨v0, v1, v2, v3, v4, v5, v6, rfl⟩ := len_k7 hl
       have e1 := (show v1 = .bool true from hf _ (memI 7 rfl) (by kernel_rfl))
       subst e1
       show Option.isSome _ = true
       kernel_rfl
      ·intro vs gq stq hl hf
       obtain ⟨v0, v1, v2, v3, v4, v5, v6, rfl⟩ := len_k7 hl
       have e1 := (show v1 = .bool true from hf _ (memI 7 rfl) (by kernel_rfl))
       subst e1
       show Option.isSome _ = true
       kernel_rfl
      ·intro vs gq stq hl hf
       obtain ⟨v0, v1, v2, v3, v4, v5, v6, rfl⟩ := len_k7 hl
       have e1 := (show v1 = .bool true from hf _ (memI 7 rfl) (by kernel_rfl))
       subst e1
       show Option.isSome _ = true
       kernel_rfl
      ·intro vs gq stq hl hf
       obtain ⟨v0, v1, v2, v3, v4, v5, v6, rfl⟩ := len_k7 hl
       have e1 := (show v1 = .bool true from hf _ (memI 7 rfl) (by kernel_rfl))
       subst e1
       show Option.isSome _ = true
       kernel_rfl
      ·intro vs gq stq hl hf
       obtain ⟨v0, v1, v2, v3, v4, v5, v6, rfl⟩ := len_k7 hl
       have e1 := (show v1 = .bool true from hf _ (memI 7 rfl) (by kernel_rfl))
       subst e1
       have e6 := (show v6 = .bool q9 from hf _ (memI 12 rfl) (by kernel_rfl))
       subst e6
       show Option.isSome _ = true
       kernel_rfl
     ·intro j hj
      have hq : j = 0 ∨ j = 1 ∨ j = 2 ∨ j = 3 ∨ j = 4 ∨ j = 5 ∨ j = 6 := by have h : j < 7 := hj; omega
      rcases hq with rfl | rfl | rfl | rfl | rfl | rfl | rfl
      ·intro vs gq stq hl hf
       obtain ⟨v0, v1, v2, v3, v4, v5, v6, rfl⟩ := len_k7 hl
       have hR3 := (show RdS (Kd.slice 5 (Kd.int .u8)) gq 24 a3 n3 c3 l3 from hf _ (memI 3 rfl) (by kernel_rfl))
       refine WP.len (a := a3) (cp := c3) hR3.len (by kernel_rfl) ?_
       refine WP.dn (Shown.ok (v := .int .i64 (l3.length : Int)) (by kernel_rfl) (Step.refl _ _) ?_)
       exact ⟨tv, tv, tv, tv, tv, tv, rfl, tv, tv, tv, tv, tv, tv, tv⟩
      ·intro vs gq stq hl hf
       obtain ⟨v0, v1, v2, v3, v4, v5, v6, rfl⟩ := len_k7 hl
       have e0 := (show v0 = .int .i64 (l3.length : Int) from hf _ (memI 6 rfl) (by kernel_rfl))
       subst e0
       refine WP.stl 1 ?_
       refine WP.dn (Shown.ok (v := .bool (decide (x3 < (l3.length : Int)))) (by kernel_rfl) (Step.refl _ _) ?_)
       exact ⟨tv, tv, tv, tv, tv, tv, tv, congrArg Value.bool h12, tv, tv, tv, tv, tv, tv⟩
      ·intro vs gq stq hl hf
       obtain ⟨v0, v1, v2, v3, v4, v5, v6, rfl⟩ := len_k7 hl
       have hB10 := (show Box gq (t + 5) b14 23 [encA .u8 (getI l2 x3)] [8] from hf _ (memI 5 rfl) (by kernel_rfl))
       have e1 := (show v1 = .bool true from hf _ (memI 7 rfl) (by kernel_rfl))
       subst e1
       refine WP.loadB (v := AG [encA .u8 (getI l2 x3)]) hB10 (by kernel_rfl) (by kernel_rfl) ?_
       refine WP.dn (Shown.ok (v := AG [encA .u8 (getI l2 x3)]) (by kernel_rfl) (Step.refl _ _) ?_)
       exact ⟨tv, tv, tv, tv, tv, tv, tv, tv, rfl, tv, tv, tv, tv, tv⟩
      ·intro vs gq stq hl hf
       obtain ⟨v0, v1, v2, v3, v4, v5, v6, rfl⟩ := len_k7 hl
       have hB3 := (show Box gq (t + 1) b3 23 [encA .u8 d1] [8] from hf _ (memI 4 rfl) (by kernel_rfl))
       have e1 := (show v1 = .bool true from hf _ (memI 7 rfl) (by kernel_rfl))
       subst e1
       refine WP.loadB (v := AG [encA .u8 d1]) hB3 (by kernel_rfl) (by kernel_rfl) ?_
       refine WP.dn (Shown.ok (v := AG [encA .u8 d1]) (by kernel_rfl) (Step.refl _ _) ?_)
       exact ⟨tv, tv, tv, tv, tv, tv, tv, tv, tv, rfl, tv, tv, tv, tv⟩
      ·intro vs gq stq hl hf
       obtain ⟨v0, v1, v2, v3, v4, v5, v6, rfl⟩ := len_k7 hl
       have hR3 := (show RdS (Kd.slice 5 (Kd.int .u8)) gq 24 a3 n3 c3 l3 from hf _ (memI 3 rfl) (by kernel_rfl))
       have e1 := (show v1 = .bool true from hf _ (memI 7 rfl) (by kernel_rfl))
       subst e1
       refine WP.indexA (t := 42) (e := 24) (sz := 1) (cap := c3) (k := .i64) (i := x3) hR3.len ha9 (by kernel_rfl) (by kernel_rfl) hc9 ?_
       refine WP.dn (Shown.ok (v := .pointer (some ⟨b16, u9 + x3.toNat * 1, none⟩)) (by kernel_rfl) (Step.refl _ _) ?_)
       exact ⟨tv, tv, tv, tv, tv, tv, tv, tv, tv, tv, rfl, tv, tv, tv⟩
      ·intro vs gq stq hl hf
       obtain ⟨v0, v1, v2, v3, v4, v5, v6, rfl⟩ := len_k7 hl
       have hR3 := (show RdS (Kd.slice 5 (Kd.int .u8)) gq 24 a3 n3 c3 l3 from hf _ (memI 3 rfl) (by kernel_rfl))
       have e1 := (show v1 = .bool true from hf _ (memI 7 rfl) (by kernel_rfl))
       subst e1
       have e4 := (show v4 = .pointer (some ⟨b16, u9 + x3.toNat * 1, none⟩) from hf _ (memI 10 rfl) (by kernel_rfl))
       subst e4
       obtain ⟨cs9, hcR9, hcV9⟩ := hR3.src.view (getI_some hc9) ha9
       obtain ⟨a8, n8, c8, hcR9, hR8⟩ := Kd.o_sl hcR9
       refine WP.loadV [[.slice a8 n8 c8]] [1] hcV9 hcR9 rfl (f := 0) (ty := 24) (agg := false) (size := 1) (rs := [[.slice a8 n8 c8]]) (v := .slice a8 n8 c8) (by kernel_rfl) (by kernel_rfl) (by kernel_rfl) (by kernel_rfl) ?_
       obtain rfl := hR8.len
       refine WP.dn (Shown.ok (v := .slice a8 ((getI l3 x3).length) c8) (by kernel_rfl) (Step.refl _ _) ?_)
       exact ⟨tv, tv, tv, tv, tv, tv, tv, tv, tv, tv, tv, ⟨a8, c8, rfl, hR8⟩, tv, tv⟩
      ·intro vs gq stq hl hf
       obtain ⟨v0, v1, v2, v3, v4, v5, v6, rfl⟩ := len_k7 hl
       have hB2 := (show Box gq m0 b1 90 [[.slice a1 n1 c1], [.map (some b2)]] [1, 1] from hf _ (memI 0 rfl) (by kernel_rfl))
       have hR1 := (show RdS k_S_notary_entry gq 173 a1 n1 c1 l1 from hf _ (memI 1 rfl) (by kernel_rfl))
       have hB1 := (show MapB gq m1 b2 kv_S_notary_entry (Value.int .i64) w1 from hf _ (memI 2 rfl) (by kernel_rfl))
       have e1 := (show v1 = .bool true from hf _ (memI 7 rfl) (by kernel_rfl))
       subst e1
       have e2 := (show v2 = AG [encA .u8 (getI l2 x3)] from hf _ (memI 8 rfl) (by kernel_rfl))
       subst e2
       have e3 := (show v3 = AG [encA .u8 d1] from hf _ (memI 9 rfl) (by kernel_rfl))
       subst e3
       obtain ⟨a8, c8, e5, hR8⟩ := (show ∃ (a8 : Option Addr) (c8 : Nat), v5 = .slice a8 ((getI l3 x3).length) c8 ∧ RdS (Kd.int .u8) gq 5 a8 ((getI l3 x3).length) c8 (getI l3 x3) from hf _ (memI 11 rfl) (by kernel_rfl))
       subst e5
       have hcal5 := P.notary_Book_Verify gq m0 m1 l1 w1 (getI l2 x3) d1 (getI l3 x3) a1 n1 c1 a8 ((getI l3 x3).length) c8 b1 b2 hR1 hR8 hB1 hB2 (by omega) (by omega) (by omega) q9 hk5
       refine WP.callC hcal5 (by kernel_rfl) ?_
       rintro _ g14 st14 rfl
       refine WP.dn (Shown.o (v := .bool q9) st14.pure ?_)
       exact ⟨tv, tv, tv, tv, tv, tv, tv, tv, tv, tv, tv, tv, rfl, tv⟩
     intro vs g15 st15 hl hf
     obtain ⟨v0, v1, v2, v3, v4, v5, v6, rfl⟩ := len_k7 hl
     have e0 := (show v0 = .int .i64 (l3.length : Int) from hf _ (memI 6 rfl) (by kernel_rfl))
     subst e0
     have e1 := (show v1 = .bool true from hf _ (memI 7 rfl) (by kernel_rfl))
     subst e1
     have e2 := (show v2 = AG [encA .u8 (getI l2 x3)] from hf _ (memI 8 rfl) (by kernel_rfl))
     subst e2
     have e3 := (show v3 = AG [encA .u8 d1] from hf _ (memI 9 rfl) (by kernel_rfl))
     subst e3
     have e4 := (show v4 = .pointer (some ⟨b16, u9 + x3.toNat * 1, none⟩) from hf _ (memI 10 rfl) (by kernel_rfl))
     subst e4
     obtain ⟨a8, c8, e5, hR8⟩ := (show ∃ (a8 : Option Addr) (c8 : Nat), v5 = .slice a8 ((getI l3 x3).length) c8 ∧ RdS (Kd.int .u8) g15 5 a8 ((getI l3 x3).length) c8 (getI l3 x3) from hf _ (memI 11 rfl) (by kernel_rfl))
     subst e5
     have e6 := (show v6 = .bool q9 from hf _ (memI 12 rfl) (by kernel_rfl))
     subst e6
     replace hB2 := hB2.mono st15.toNo (fun x => x)
     replace hR1 := hR1.mono st15.toNo (fun x => x)
     replace hB1 := hB1.mono st15.toNo (fun x => x)
     replace hR3 := hR3.mono st15.toNo (fun x => x)
     replace hB3 := hB3.mono st15.toNo (fun x => x)
     replace hR2 := hR2.mono st15.toNo (fun x => x)
     replace tot := tot.trans st15.toNo.pure
     refine NX.post ?_
     exact ⟨q9, ⟨by kernel_rfl, by kernel_rfl⟩, tot, hB2, hR1, hB1, hR3, hB3, hR2, hs⟩
    replace hs := of_if_f hs h12
    refine CP.drawL (by kernel_rfl) [5, 8] N.state_Count_0 [⟨none, [], [], fun l g => RdS (Kd.slice 5 (Kd.int .u8)) g 24 a3 n3 c3 l3⟩, ⟨some 0, [], [0], fun l g => l.getD 0 undef = .int .i64 (l3.length : Int)⟩, ⟨some 1, [], [1], fun l g => l.getD 0 undef = .bool false⟩] [[], []] [] [0, 1, 2, 3, 4] [6, 7, 9, 10, 11, 12, 13, 14, 15, 16, 17, 18, 19, 20] (by kernel_rfl) (by simp) (by simp) ⟨fun _ _ _ _ st h0 hl hj hR3 => (RdS.mono (e := 24) hR3 st h0), fun _ _ _ _ st h0 hl hj e0 => e0, fun _ _ _ _ st h0 hl hj e1 => e1, tv⟩ ⟨hR3, tv, tv, tv⟩ (by kernel_rfl) (fun vs => by kernel_rfl) ?_ ?_ ?_
    ·intro j hj
     have hq : j = 0 ∨ j = 1 ∨ j = 2 ∨ j = 3 ∨ j = 4 ∨ j = 5 ∨ j = 6 ∨ j = 7 ∨ j = 8 ∨ j = 9 ∨ j = 10 ∨ j = 11 ∨ j = 12 ∨ j = 13 := by have h : j < 14 := hj; omega
     rcases hq with rfl | rfl | rfl | rfl | rfl | rfl | rfl | rfl | rfl | rfl | rfl | rfl | rfl | rfl
     ·intro vs gq stq hl hf
      obtain ⟨v0, v1, rfl⟩ := len_k2 hl
      have e0 := (show v0 = .int .i64 (l3.length : Int) from hf _ (memI 1 rfl) (by kernel_rfl))
      subst e0
      show Option.isSome _ = true
      kernel_rfl
     ·intro vs gq stq hl hf
      obtain ⟨v0, v1, rfl⟩ := len_k2 hl
      have e0 := (show v0 = .int .i64 (l3.length : Int) from hf _ (memI 1 rfl) (by kernel_rfl))
      subst e0
      show Option.isSome _ = true
      kernel_rfl
     ·intro vs gq stq hl hf
      obtain ⟨v0, v1, rfl⟩ := len_k2 hl
      have e1 := (show v1 = .bool false from hf _ (memI 2 rfl) (by kernel_rfl))
      subst e1
      show Option.isSome _ = true
      kernel_rfl
     ·intro vs gq stq hl hf
      obtain ⟨v0, v1, rfl⟩ := len_k2 hl
      have e1 := (show v1 = .bool false from hf _ (memI 2 rfl) (by kernel_rfl))
      subst e1
      show Option.isSome _ = true
      kernel_rfl
     ·intro vs gq stq hl hf
      obtain ⟨v0, v1, rfl⟩ := len_k2 hl
      have e1 := (show v1 = .bool false from hf _ (memI 2 rfl) (by kernel_rfl))
      subst e1
      show Option.isSome _ = true
      kernel_rfl
     ·intro vs gq stq hl hf
      obtain ⟨v0, v1, rfl⟩ := len_k2 hl
      have e1 := (show v1 = .bool false from hf _ (memI 2 rfl) (by kernel_rfl))
      subst e1
      show Option.isSome _ = true
      kernel_rfl
     ·intro vs gq stq hl hf
      obtain ⟨v0, v1, rfl⟩ := len_k2 hl
      have e1 := (show v1 = .bool false from hf _ (memI 2 rfl) (by kernel_rfl))
      subst e1
      show Option.isSome _ = true
      kernel_rfl
     ·intro vs gq stq hl hf
      obtain ⟨v0, v1, rfl⟩ := len_k2 hl
      have e1 := (show v1 = .bool false from hf _ (memI 2 rfl) (by kernel_rfl))
      subst e1
      show Option.isSome _ = true
      kernel_rfl
     ·intro vs gq stq hl hf
      obtain ⟨v0, v1, rfl⟩ := len_k2 hl
      have e1 := (show v1 = .bool false from hf _ (memI 2 rfl) (by kernel_rfl))
      subst e1
      show Option.isSome _ = true
      kernel_rfl
     ·intro vs gq stq hl hf
      obtain ⟨v0, v1, rfl⟩ := len_k2 hl
      have e1 := (show v1 = .bool false from hf _ (memI 2 rfl) (by kernel_rfl))
      subst e1
      show Option.isSome _ = true
      kernel_rfl
     ·intro vs gq stq hl hf
      obtain ⟨v0, v1, rfl⟩ := len_k2 hl
      have e1 := (show v1 = .bool false from hf _ (memI 2 rfl) (by kernel_rfl))
      subst e1
      show Option.isSome _ = true
      kernel_rfl
     ·intro vs gq stq hl hf
      obtain ⟨v0, v1, rfl⟩ := len_k2 hl
      have e1 := (show v1 = .bool false from hf _ (memI 2 rfl) (by kernel_rfl))
      subst e1
      show Option.isSome _ = true
      kernel_rfl
     ·intro vs gq stq hl hf
      obtain ⟨v0, v1, rfl⟩ := len_k2 hl
      have e1 := (show v1 = .bool false from hf _ (memI 2 rfl) (by kernel_rfl))
      subst e1
      show Option.isSome _ = true
      kernel_rfl
     ·intro vs gq stq hl hf
      obtain ⟨v0, v1, rfl⟩ := len_k2 hl
      have e1 := (show v1 = .bool false from hf _ (memI 2 rfl) (by kernel_rfl))
      subst e1
      show Option.isSome _ = true
      kernel_rfl
    ·intro j hj
     have hq : j = 0 ∨ j = 1 := by have h : j < 2 := hj; omega
     rcases hq with rfl | rfl
     ·intro vs gq stq hl hf
      obtain ⟨v0, v1, rfl⟩ := len_k2 hl
      have hR3 := (show RdS (Kd.slice 5 (Kd.int .u8)) gq 24 a3 n3 c3 l3 from hf _ (memI 0 rfl) (by kernel_rfl))
      refine WP.len (a := a3) (cp := c3) hR3.len (by kernel_rfl) ?_
      refine WP.dn (Shown.ok (v := .int .i64 (l3.length : Int)) (by kernel_rfl) (Step.refl _ _) ?_)
      exact ⟨tv, rfl, tv, tv⟩
     ·intro vs gq stq hl hf
      obtain ⟨v0, v1, rfl⟩ := len_k2 hl
      have e0 := (show v0 = .int .i64 (l3.length : Int) from hf _ (memI 1 rfl) (by kernel_rfl))
      subst e0
      refine WP.stl 1 ?_
      refine WP.dn (Shown.ok (v := .bool (decide (x3 < (l3.length : Int)))) (by kernel_rfl) (Step.refl _ _) ?_)
      exact ⟨tv, tv, congrArg Value.bool h12, tv⟩
    intro vs g16 st16 hl hf
    obtain ⟨v0, v1, rfl⟩ := len_k2 hl
    have e0 := (show v0 = .int .i64 (l3.length : Int) from hf _ (memI 1 rfl) (by kernel_rfl))
    subst e0
    have e1 := (show v1 = .bool false from hf _ (memI 2 rfl) (by kernel_rfl))
    subst e1
    replace hB2 := hB2.mono st16.toNo (fun x => x)
    replace hR1 := hR1.mono st16.toNo (fun x => x)
    replace hB1 := hB1.mono st16.toNo (fun x => x)
    replace hR3 := hR3.mono st16.toNo (fun x => x)
    replace hB3 := hB3.mono st16.toNo (fun x => x)
    replace hR2 := hR2.mono st16.toNo (fun x => x)
    replace tot := tot.trans st16.toNo.pure
    refine NX.post ?_
    exact ⟨false, ⟨by kernel_rfl, by kernel_rfl⟩, tot, hB2, hR1, hB1, hR3, hB3, hR2, hs⟩
   clear tot hs hB2 hR1 hB1 hR3 hB3 hR2 hB10
   rintro tm g ⟨q8, hF, tot, hB2, hR1, hB1, hR3, hB3, hR2, hs⟩
   clear ds
   obtain ⟨ds, rfl⟩ := hF.open
   clear hF
   unfold F.state_Count.c2 at hs
   refine CP.cond (b := q8) (by kernel_rfl) (fun h11 => ?_) (fun h11 => ?_)
   ·replace hs := of_if_t hs h11
    refine CP.region ?_
    refine WP.stl 3 ?_
    refine WP.dn ?_
    refine NX.block_n ?_
    refine NX.post ?_
    exact ⟨(IntKind.i64.wrap (x2 + 1)), ⟨by kernel_rfl, by kernel_rfl⟩, tot, hB2, hR1, hB1, hR3, hB3, hR2, hs⟩
   replace hs := of_if_f hs h11
   refine CP.skip ?_
   refine NX.block_n ?_
   refine NX.post ?_
   exact ⟨x2, ⟨by kernel_rfl, by kernel_rfl⟩, tot, hB2, hR1, hB1, hR3, hB3, hR2, hs⟩
  clear tot hs hB2 hR1 hB1 hR3 hB3 hR2
  rintro tm g ⟨x7, hF, tot, hB2, hR1, hB1, hR3, hB3, hR2, hs⟩
  clear ds
  obtain ⟨ds, rfl⟩ := hF.open
  clear hF
  unfold F.state_Count.c1 at hs
  refine CP.region ?_
  refine WP.stl 2 ?_
  refine WP.dn ?_
  refine NX.post ?_
  exact ⟨x7, (IntKind.i64.wrap (x3 + 1)), ⟨by kernel_rfl, by kernel_rfl⟩, tot, hB2, hR1, hB1, hR3, hB3, hR2, hs⟩
 replace hs := of_if_f hs h7
 refine CP.exit ?_
 refine NX.then_e ?_
 refine NX.then_e ?_
 refine NX.block_s ?_
 refine NX.then_n ?_
 refine CP.seqR ?_
 refine WP.stl 2 ?_
 refine WP.dn ?_
 refine NX.then_n ?_
 refine CP.ret ?_
 replace hs := Option.some.inj hs
 obtain rfl := hs
 exact NX.fin (v := .int .i64 x2) (Res.still (by kernel_rfl)) tot htL rfl
def N.baizelaw32_told_0 : List (List Nat) := [[], [], [1], [1, 2], [0, 1, 2, 3], [], [0, 1, 2, 3, 4, 5], [0, 1, 2, 3, 4], [0, 1, 2, 3, 4, 7], [0, 1, 2, 3, 4, 7, 8], [0, 1, 2, 3, 4, 5, 6, 7, 8, 9], [0, 1, 2, 3, 4, 5, 6, 7, 8, 9, 10], [0, 1, 2, 3, 4, 5, 6, 7, 8, 9, 10, 11], [0, 1, 2, 3, 4, 5, 6, 7, 8, 9, 10, 11], [0, 1, 2, 3, 4, 5, 6, 7, 8, 9, 10, 11, 12], [0, 1, 2, 3, 4, 5, 6, 7, 8, 9, 10, 11, 12, 13, 14]]
def F.baizelaw32_told.c1 (q3 : Bool) : Option (Bool) := (some q3)
def F.baizelaw32_told : Option (Bool) := ((F.notary_NewBook).bind fun d1 => (if (0 : Int) ≤ 0 ∧ 0 < (([(⟨[1, 0, 0, 0, 0, 0, 0, 0], rfl⟩ : Arr Int 8), (⟨[2, 0, 0, 0, 0, 0, 0, 0], rfl⟩ : Arr Int 8)]).length : Int) then ((F.notary_Book_Signer ([]) d1 (getI ([(⟨[1, 0, 0, 0, 0, 0, 0, 0], rfl⟩ : Arr Int 8), (⟨[2, 0, 0, 0, 0, 0, 0, 0], rfl⟩ : Arr Int 8)]) 0)).bind fun d2 => ((F.state_State_Digest (⟨[9, 0, 0, 0, 0, 0, 0, 0], rfl⟩ : Arr Int 8) 3 ([112])).bind fun d3 => ((F.notary_bookSigner_Sign ([]) d1 d2 d3).bind fun (l1, x1, d4, d5) => (if (x1 == 0) = true then ((F.state_State_Digest (⟨[9, 0, 0, 0, 0, 0, 0, 0], rfl⟩ : Arr Int 8) 3 ([112])).bind fun d10 => (if (!(d10.1 == (zA 8).1)) = true then ((F.state_State_Digest (⟨[9, 0, 0, 0, 0, 0, 0, 0], rfl⟩ : Arr Int 8) 3 ([112])).bind fun d11 => ((F.state_Full d5 d4 ([(⟨[1, 0, 0, 0, 0, 0, 0, 0], rfl⟩ : Arr Int 8), (⟨[2, 0, 0, 0, 0, 0, 0, 0], rfl⟩ : Arr Int 8)]) ([false, true]) d11 ([l1, []])).bind fun q4 => (if q4 = true then ((F.state_State_Digest (⟨[9, 0, 0, 0, 0, 0, 0, 0], rfl⟩ : Arr Int 8) 3 ([112])).bind fun d12 => ((F.state_Full d5 d4 ([(⟨[1, 0, 0, 0, 0, 0, 0, 0], rfl⟩ : Arr Int 8), (⟨[2, 0, 0, 0, 0, 0, 0, 0], rfl⟩ : Arr Int 8)]) ([]) d12 ([l1, []])).bind fun q5 => (if (!q5) = true then ((F.state_State_Digest (⟨[9, 0, 0, 0, 0, 0, 0, 0], rfl⟩ : Arr Int 8) 3 ([112])).bind fun d13 => ((F.state_Count d5 d4 ([(⟨[1, 0, 0, 0, 0, 0, 0, 0], rfl⟩ : Arr Int 8), (⟨[2, 0, 0, 0, 0, 0, 0, 0], rfl⟩ : Arr Int 8)]) d13 ([l1, []])).bind fun x3 => (F.baizelaw32_told.c1 (x3 == 1)))) else (F.baizelaw32_told.c1 false)))) else (F.baizelaw32_told.c1 false)))) else (F.baizelaw32_told.c1 false))) else (F.baizelaw32_told.c1 false))))) else none))
theorem P.baizelaw32_told (g0 : GW) (o1 : Bool) (hs : F.baizelaw32_told = some o1) :
  Calls Try.prog 15 #[] g0.w (Ret NoM g0 fun v g => v = .bool o1) := by
 refine calls_of (args := []) Try.func15 rfl (0) ?_
 intro t ht htL
 refine ⟨_, rfl, ?_⟩
 refine CP.refr 71 [] (by kernel_rfl) (by kernel_rfl) ?_
 intro ds
 have tot : Step (fun l => NoM l ∨ t ≤ l) g0 g0 := Step.refl _ _
 unfold F.baizelaw32_told at hs
 refine CP.seqR ?_
 refine WP.stl 1 ?_
 refine WP.dn ?_
 refine NX.then_n ?_
 refine CP.seqR ?_
 replace hs := Option.bind_eq_some_iff.1 hs
 obtain ⟨d1, hk1, hs⟩ := hs
 have hcal1 := P.notary_NewBook g0 (t + 1) (t + 2) d1 hk1
 refine WP.callC hcal1 (by kernel_rfl) ?_
 rintro _ g1 st1 ⟨b1, b2, rfl, hB1, hB2⟩
 replace tot := tot.trans st1.pure
 refine WP.stl 1 ?_
 refine WP.dn ?_
 refine NX.then_n ?_
 refine CP.seq ?_
 refine CP.seqR ?_
 refine WP.stl 2 ?_
 refine WP.dn ?_
 refine NX.then_n ?_
 refine CP.cond_f (by kernel_rfl) ?_
 refine CP.skip ?_
 refine NX.then_n ?_
 refine CP.seqR ?_
 refine WP.stl 2 ?_
 refine WP.mkSl (kd := (Kd.arrI 8 .u8)) (t := 41) (e := 23) (bytes := 8) (t + 3) [AG [encA .u8 (⟨[1, 0, 0, 0, 0, 0, 0, 0], rfl⟩ : Arr Int 8)], AG [encA .u8 (⟨[2, 0, 0, 0, 0, 0, 0, 0], rfl⟩ : Arr Int 8)]] [(⟨[1, 0, 0, 0, 0, 0, 0, 0], rfl⟩ : Arr Int 8), (⟨[2, 0, 0, 0, 0, 0, 0, 0], rfl⟩ : Arr Int 8)] (by kernel_rfl) (by kernel_rfl) (Nat.le_of_ble_eq_true rfl) (Nat.le_of_ble_eq_true rfl) (all_cons (Kd.len (Kd.arrI 8 .u8) (g := g1) (x := (⟨[1, 0, 0, 0, 0, 0, 0, 0], rfl⟩ : Arr Int 8)) (AG_one _)) (all_cons (Kd.len (Kd.arrI 8 .u8) (g := g1) (x := (⟨[2, 0, 0, 0, 0, 0, 0, 0], rfl⟩ : Arr Int 8)) (AG_one _)) all_nil)) (⟨_, _, rfl, (AG_one _), ⟨_, _, rfl, (AG_one _), rfl⟩⟩) rfl ?_
 intro g2 a1 st2 hR1
 replace hB1 := hB1.mono st2 (fun x => x)
 replace hB2 := hB2.mono st2 (fun x => x)
 replace tot := tot.trans st2.pure
 refine WP.stl 1 ?_
 refine WP.dn ?_
 refine NX.then_n ?_
 refine CP.seqR ?_
 refine WP.stl 1 ?_
 refine WP.mkSl (kd := (Kd.int .u8)) (t := 24) (e := 5) (bytes := 1) (t + 4) [.int .u8 112] [112] (by kernel_rfl) (by kernel_rfl) (Nat.le_of_ble_eq_true rfl) (Nat.le_of_ble_eq_true rfl) (all_cons rfl all_nil) (⟨_, _, rfl, (by exact rfl), rfl⟩) rfl ?_
 intro g3 a2 st3 hR2
 replace hB1 := hB1.mono st3 (fun x => x)
 replace hB2 := hB2.mono st3 (fun x => x)
 replace hR1 := hR1.mono st3 (fun x => x) (fun x => x)
 replace tot := tot.trans st3.pure
 refine WP.markB hR2 (by omega) (Nat.le_of_ble_eq_true rfl) (by kernel_rfl) ?_
 intro g4 st4 hR3
 replace hB1 := hB1.mono st4 (WL.no1 (by omega))
 replace hB2 := hB2.mono st4 (WL.no1 (by omega))
 replace hR1 := hR1.mono st4 (WL.no1 (by omega)) (WL.no1 (by omega))
 replace tot := tot.trans (st4.up1 (.inr (by omega)))
 refine WP.buildS (places := #[(0, 8), (8, 1), (9, 1)]) (t := 26) [encA .u8 (zA 8), [.int .i64 0], [.slice none 0 0]] [8, 1, 1] (by kernel_rfl) (by kernel_rfl) (by simp [len_encA]) (by kernel_rfl) ((.cons (i := 0) (off := 0) (v := AG [encA .u8 (⟨[9, 0, 0, 0, 0, 0, 0, 0], rfl⟩ : Arr Int 8)]) (mid := [encA .u8 (⟨[9, 0, 0, 0, 0, 0, 0, 0], rfl⟩ : Arr Int 8), [.int .i64 0], [.slice none 0 0]]) [encA .u8 (⟨[9, 0, 0, 0, 0, 0, 0, 0], rfl⟩ : Arr Int 8)] [8] (by kernel_rfl) (by kernel_rfl) (by simp [len_encA]) (by kernel_rfl) (.cons (i := 1) (off := 8) (v := .int .i64 3) (mid := [encA .u8 (⟨[9, 0, 0, 0, 0, 0, 0, 0], rfl⟩ : Arr Int 8), [.int .i64 3], [.slice none 0 0]]) [[.int .i64 3]] [1] (by kernel_rfl) (by kernel_rfl) rfl (by kernel_rfl) (.cons (i := 2) (off := 9) (v := .slice a2 1 1) (mid := [encA .u8 (⟨[9, 0, 0, 0, 0, 0, 0, 0], rfl⟩ : Arr Int 8), [.int .i64 3], [.slice a2 1 1]]) [[.slice a2 1 1]] [1] (by kernel_rfl) (by kernel_rfl) rfl (by kernel_rfl) .nil)))) ?_
 refine WP.alloc (T := 26) (t + 5) [encA .u8 (zA 8), [.int .i64 0], [.slice none 0 0]] [8, 1, 1] (by kernel_rfl) (by simp [len_encA]) ?_
 intro g5 b3 st5 hB3
 replace hB1 := hB1.mono st5 (fun x => x)
 replace hB2 := hB2.mono st5 (fun x => x)
 replace hR1 := hR1.mono st5 (fun x => x) (fun x => x)
 replace hR3 := hR3.mono st5 (fun x => x)
 replace tot := tot.trans st5.pure
 refine WP.storeB (ty := 26) (off := 0) (v := AG [encA .u8 (⟨[9, 0, 0, 0, 0, 0, 0, 0], rfl⟩ : Arr Int 8), [.int .i64 3], [.slice a2 1 1]]) hB3 [encA .u8 (⟨[9, 0, 0, 0, 0, 0, 0, 0], rfl⟩ : Arr Int 8), [.int .i64 3], [.slice a2 1 1]] [8, 1, 1] (by kernel_rfl) (by kernel_rfl) (by simp [len_encA]) (by kernel_rfl) [encA .u8 (⟨[9, 0, 0, 0, 0, 0, 0, 0], rfl⟩ : Arr Int 8), [.int .i64 3], [.slice a2 1 1]] (by kernel_rfl) (.arr (.one rfl (.one rfl .nil))) ?_
 intro g6 st6 hB4
 replace hB1 := hB1.mono st6 (WL.no1 (by omega))
 replace hB2 := hB2.mono st6 (WL.no1 (by omega))
 replace hR1 := hR1.mono st6 (WL.no1 (by omega)) (WL.no1 (by omega))
 replace hR3 := hR3.mono st6 (WL.no1 (by omega))
 replace tot := tot.trans (st6.up1 (.inr (by omega)))
 clear hB3
 have hB3 := hB4
 clear hB4
 refine WP.dn ?_
 refine NX.then_n ?_
 refine CP.refr 71 [(1, .pointer (some ⟨b1, 0, none⟩)), (2, .slice a1 2 2), (3, .pointer (some ⟨b3, 0, none⟩))] (by kernel_rfl) (by kernel_rfl) ?_
 clear ds
 intro ds
 refine CP.seq ?_
 by_cases hc1 : (0 : Int) ≤ 0 ∧ 0 < (([(⟨[1, 0, 0, 0, 0, 0, 0, 0], rfl⟩ : Arr Int 8), (⟨[2, 0, 0, 0, 0, 0, 0, 0], rfl⟩ : Arr Int 8)]).length : Int)
 case neg => rw [if_neg hc1] at hs; cases hs
 replace hs := of_if_p hs hc1
 replace hs := Option.bind_eq_some_iff.1 hs
 obtain ⟨d2, hk2, hs⟩ := hs
 replace hs := Option.bind_eq_some_iff.1 hs
 obtain ⟨d3, hk3, hs⟩ := hs
 replace hs := Option.bind_eq_some_iff.1 hs
 obtain ⟨⟨l1, x1, d4, d5⟩, hk4, hs⟩ := hs
 dsimp only at hs
 obtain ⟨b4, u1, ha1⟩ := hR1.at hc1
 refine CP.drawL (by kernel_rfl) [2, 3, 4, 5, 6, 10] N.baizelaw32_told_0 [⟨none, [1], [], fun l g => Box g (t + 1) b1 90 [[.slice none 0 0], [.map (some b2)]] [1, 1]⟩, ⟨none, [0], [], fun l g => MapB g (t + 2) b2 kv_S_notary_entry (Value.int .i64) d1⟩, ⟨none, [], [], fun l g => OwnS (Kd.arrI 8 .u8) g (t + 3) 23 a1 2 2 ([(⟨[1, 0, 0, 0, 0, 0, 0, 0], rfl⟩ : Arr Int 8), (⟨[2, 0, 0, 0, 0, 0, 0, 0], rfl⟩ : Arr Int 8)])⟩, ⟨none, [], [], fun l g => Box g (t + 5) b3 26 [encA .u8 (⟨[9, 0, 0, 0, 0, 0, 0, 0], rfl⟩ : Arr Int 8), [.int .i64 3], [.slice a2 1 1]] [8, 1, 1]⟩, ⟨none, [], [], fun l g => RdS (Kd.int .u8) g 5 a2 1 1 ([112])⟩, ⟨some 0, [], [0], fun l g => l.getD 0 undef = .pointer (some ⟨b4, u1 + (0 : Int).toNat * 8, none⟩)⟩, ⟨some 1, [], [1], fun l g => l.getD 0 undef = AG [encA .u8 (getI ([(⟨[1, 0, 0, 0, 0, 0, 0, 0], rfl⟩ : Arr Int 8), (⟨[2, 0, 0, 0, 0, 0, 0, 0], rfl⟩ : Arr Int 8)]) 0)]⟩, ⟨some 2, [], [2], fun l g => l.getD 0 undef = .iface 92 (AG [[.pointer (some ⟨b1, 0, none⟩)], encA .u8 d2])⟩, ⟨some 3, [], [3], fun l g => l.getD 0 undef = AG [encA .u8 (⟨[9, 0, 0, 0, 0, 0, 0, 0], rfl⟩ : Arr Int 8), [.int .i64 3], [.slice a2 1 1]]⟩, ⟨some 4, [], [4], fun l g => l.getD 0 undef = AG [encA .u8 d3]⟩, ⟨some 5, [0], [], fun l g => MapB g (t + 2) b2 kv_S_notary_entry (Value.int .i64) d4⟩, ⟨some 5, [1, 2], [5], fun l g => ∃ (a3 : Option Addr) (c1 : Nat) (a4 : Option Addr) (c2 : Nat), l.getD 0 undef = .tuple #[.slice a3 l1.length c1, .int .i64 x1] ∧ OwnS (Kd.int .u8) g (t + 7) 5 a3 l1.length c1 l1 ∧ OwnS k_S_notary_entry g (t + 6) 173 a4 d5.length c2 d5 ∧ Box g (t + 1) b1 90 [[.slice a4 d5.length c2], [.map (some b2)]] [1, 1]⟩] [[], [], [], [], [], [0, 1, 2]] [(t + 2), (t + 1), (t + 6)] [0, 1] [7, 8, 9, 11, 12, 13, 14, 15] (by kernel_rfl) (by simp <;> omega) (by simp <;> omega) ⟨fun _ _ _ _ st h0 hl hj hB1 => (hB1.mono st (hj 1 (by simp) _ rfl)), fun _ _ _ _ st h0 hl hj hB2 => (hB2.mono st (hj 0 (by simp) _ rfl)), fun _ _ _ _ st h0 hl hj hR1 => (hR1.mono st h0 (fun h => absurd (hl _ h) (by simp <;> omega))), fun _ _ _ _ st h0 hl hj hB3 => (hB3.mono st (fun h => absurd (hl _ h) (by simp <;> omega))), fun _ _ _ _ st h0 hl hj hR3 => (RdS.mono (e := 5) hR3 st h0), fun _ _ _ _ st h0 hl hj e0 => e0, fun _ _ _ _ st h0 hl hj e1 => e1, fun _ _ _ _ st h0 hl hj e2 => e2, fun _ _ _ _ st h0 hl hj e3 => e3, fun _ _ _ _ st h0 hl hj e4 => e4, fun _ _ _ _ st h0 hl hj hB2 => (hB2.mono st (hj 0 (by simp) _ rfl)), fun _ _ _ _ st h0 hl hj ⟨a3, c1, a4, c2, e5, hR4, hR5, hB1⟩ => ⟨a3, c1, a4, c2, e5, (hR4.mono st h0 (fun h => absurd (hl _ h) (by simp <;> omega))), (hR5.mono st h0 (hj 2 (by simp) _ rfl)), (hB1.mono st (hj 1 (by simp) _ rfl))⟩, tv⟩ ⟨hB1, hB2, hR1, hB3, hR3, tv, tv, tv, tv, tv, tv, tv, tv⟩ (by kernel_rfl) (fun vs => by kernel_rfl) ?_ ?_ ?_
 ·intro j hj
  have hq : j = 0 ∨ j = 1 ∨ j = 2 ∨ j = 3 ∨ j = 4 ∨ j = 5 ∨ j = 6 ∨ j = 7 := by have h : j < 8 := hj; omega
  rcases hq with rfl | rfl | rfl | rfl | rfl | rfl | rfl | rfl
  ·intro vs gq stq hl hf
   obtain ⟨v0, v1, v2, v3, v4, v5, rfl⟩ := len_k6 hl
   have e2 := (show v2 = .iface 92 (AG [[.pointer (some ⟨b1, 0, none⟩)], encA .u8 d2]) from hf _ (memI 7 rfl) (by kernel_rfl))
   subst e2
   show Option.isSome _ = true
   kernel_rfl
  ·intro vs gq stq hl hf
   obtain ⟨v0, v1, v2, v3, v4, v5, rfl⟩ := len_k6 hl
   have e2 := (show v2 = .iface 92 (AG [[.pointer (some ⟨b1, 0, none⟩)], encA .u8 d2]) from hf _ (memI 7 rfl) (by kernel_rfl))
   subst e2
   show Option.isSome _ = true
   kernel_rfl
  ·intro vs gq stq hl hf
   obtain ⟨v0, v1, v2, v3, v4, v5, rfl⟩ := len_k6 hl
   have e2 := (show v2 = .iface 92 (AG [[.pointer (some ⟨b1, 0, none⟩)], encA .u8 d2]) from hf _ (memI 7 rfl) (by kernel_rfl))
   subst e2
   show Option.isSome _ = true
   kernel_rfl
  ·intro vs gq stq hl hf
   obtain ⟨v0, v1, v2, v3, v4, v5, rfl⟩ := len_k6 hl
   obtain ⟨a3, c1, a4, c2, e5, hR4, hR5, hB1⟩ := (show ∃ (a3 : Option Addr) (c1 : Nat) (a4 : Option Addr) (c2 : Nat), v5 = .tuple #[.slice a3 l1.length c1, .int .i64 x1] ∧ OwnS (Kd.int .u8) gq (t + 7) 5 a3 l1.length c1 l1 ∧ OwnS k_S_notary_entry gq (t + 6) 173 a4 d5.length c2 d5 ∧ Box gq (t + 1) b1 90 [[.slice a4 d5.length c2], [.map (some b2)]] [1, 1] from hf _ (memI 11 rfl) (by kernel_rfl))
   subst e5
   show Option.isSome _ = true
   kernel_rfl
  ·intro vs gq stq hl hf
   obtain ⟨v0, v1, v2, v3, v4, v5, rfl⟩ := len_k6 hl
   obtain ⟨a3, c1, a4, c2, e5, hR4, hR5, hB1⟩ := (show ∃ (a3 : Option Addr) (c1 : Nat) (a4 : Option Addr) (c2 : Nat), v5 = .tuple #[.slice a3 l1.length c1, .int .i64 x1] ∧ OwnS (Kd.int .u8) gq (t + 7) 5 a3 l1.length c1 l1 ∧ OwnS k_S_notary_entry gq (t + 6) 173 a4 d5.length c2 d5 ∧ Box gq (t + 1) b1 90 [[.slice a4 d5.length c2], [.map (some b2)]] [1, 1] from hf _ (memI 11 rfl) (by kernel_rfl))
   subst e5
   show Option.isSome _ = true
   kernel_rfl
  ·intro vs gq stq hl hf
   obtain ⟨v0, v1, v2, v3, v4, v5, rfl⟩ := len_k6 hl
   obtain ⟨a3, c1, a4, c2, e5, hR4, hR5, hB1⟩ := (show ∃ (a3 : Option Addr) (c1 : Nat) (a4 : Option Addr) (c2 : Nat), v5 = .tuple #[.slice a3 l1.length c1, .int .i64 x1] ∧ OwnS (Kd.int .u8) gq (t + 7) 5 a3 l1.length c1 l1 ∧ OwnS k_S_notary_entry gq (t + 6) 173 a4 d5.length c2 d5 ∧ Box gq (t + 1) b1 90 [[.slice a4 d5.length c2], [.map (some b2)]] [1, 1] from hf _ (memI 11 rfl) (by kernel_rfl))
   subst e5
   show Option.isSome _ = true
   kernel_rfl
  ·intro vs gq stq hl hf
   obtain ⟨v0, v1, v2, v3, v4, v5, rfl⟩ := len_k6 hl
   obtain ⟨a3, c1, a4, c2, e5, hR4, hR5, hB1⟩ := (show ∃ (a3 : Option Addr) (c1 : Nat) (a4 : Option Addr) (c2 : Nat), v5 = .tuple #[.slice a3 l1.length c1, .int .i64 x1] ∧ OwnS (Kd.int .u8) gq (t + 7) 5 a3 l1.length c1 l1 ∧ OwnS k_S_notary_entry gq (t + 6) 173 a4 d5.length c2 d5 ∧ Box gq (t + 1) b1 90 [[.slice a4 d5.length c2], [.map (some b2)]] [1, 1] from hf _ (memI 11 rfl) (by kernel_rfl))
   subst e5
   show Option.isSome _ = true
   kernel_rfl
  ·intro vs gq stq hl hf
   obtain ⟨v0, v1, v2, v3, v4, v5, rfl⟩ := len_k6 hl
   obtain ⟨a3, c1, a4, c2, e5, hR4, hR5, hB1⟩ := (show ∃ (a3 : Option Addr) (c1 : Nat) (a4 : Option Addr) (c2 : Nat), v5 = .tuple #[.slice a3 l1.length c1, .int .i64 x1] ∧ OwnS (Kd.int .u8) gq (t + 7) 5 a3 l1.length c1 l1 ∧ OwnS k_S_notary_entry gq (t + 6) 173 a4 d5.length c2 d5 ∧ Box gq (t + 1) b1 90 [[.slice a4 d5.length c2], [.map (some b2)]] [1, 1] from hf _ (memI 11 rfl) (by kernel_rfl))
   subst e5
   show Option.isSome _ = true
   kernel_rfl
 ·intro j hj
  have hq : j = 0 ∨ j = 1 ∨ j = 2 ∨ j = 3 ∨ j = 4 ∨ j = 5 := by have h : j < 6 := hj; omega
  rcases hq with rfl | rfl | rfl | rfl | rfl | rfl
  ·intro vs gq stq hl hf
   obtain ⟨v0, v1, v2, v3, v4, v5, rfl⟩ := len_k6 hl
   have hR1 := (show OwnS (Kd.arrI 8 .u8) gq (t + 3) 23 a1 2 2 ([(⟨[1, 0, 0, 0, 0, 0, 0, 0], rfl⟩ : Arr Int 8), (⟨[2, 0, 0, 0, 0, 0, 0, 0], rfl⟩ : Arr Int 8)]) from hf _ (memI 2 rfl) (by kernel_rfl))
   refine WP.indexA (t := 41) (e := 23) (sz := 8) (cap := 2) (k := .i64) (i := 0) hR1.len ha1 (by kernel_rfl) (by kernel_rfl) hc1 ?_
   refine WP.dn (Shown.ok (v := .pointer (some ⟨b4, u1 + (0 : Int).toNat * 8, none⟩)) (by kernel_rfl) (Step.refl _ _) ?_)
   exact ⟨tv, tv, tv, tv, tv, rfl, tv, tv, tv, tv, tv, tv, tv⟩
  ·intro vs gq stq hl hf
   obtain ⟨v0, v1, v2, v3, v4, v5, rfl⟩ := len_k6 hl
   have hR1 := (show OwnS (Kd.arrI 8 .u8) gq (t + 3) 23 a1 2 2 ([(⟨[1, 0, 0, 0, 0, 0, 0, 0], rfl⟩ : Arr Int 8), (⟨[2, 0, 0, 0, 0, 0, 0, 0], rfl⟩ : Arr Int 8)]) from hf _ (memI 2 rfl) (by kernel_rfl))
   have e0 := (show v0 = .pointer (some ⟨b4, u1 + (0 : Int).toNat * 8, none⟩) from hf _ (memI 5 rfl) (by kernel_rfl))
   subst e0
   obtain ⟨cs1, hcR1, hcV1⟩ := hR1.src.view (getI_some hc1) ha1
   replace hcR1 := Kd.o_arr hcR1
   refine WP.loadV [encA .u8 (getI ([(⟨[1, 0, 0, 0, 0, 0, 0, 0], rfl⟩ : Arr Int 8), (⟨[2, 0, 0, 0, 0, 0, 0, 0], rfl⟩ : Arr Int 8)]) 0)] [8] hcV1 hcR1 (by simp [len_encA]) (f := 0) (ty := 23) (agg := true) (size := 8) (rs := [encA .u8 (getI ([(⟨[1, 0, 0, 0, 0, 0, 0, 0], rfl⟩ : Arr Int 8), (⟨[2, 0, 0, 0, 0, 0, 0, 0], rfl⟩ : Arr Int 8)]) 0)]) (v := AG [encA .u8 (getI ([(⟨[1, 0, 0, 0, 0, 0, 0, 0], rfl⟩ : Arr Int 8), (⟨[2, 0, 0, 0, 0, 0, 0, 0], rfl⟩ : Arr Int 8)]) 0)]) (by kernel_rfl) (by kernel_rfl) (by kernel_rfl) (by kernel_rfl) ?_
   refine WP.dn (Shown.ok (v := AG [encA .u8 (getI ([(⟨[1, 0, 0, 0, 0, 0, 0, 0], rfl⟩ : Arr Int 8), (⟨[2, 0, 0, 0, 0, 0, 0, 0], rfl⟩ : Arr Int 8)]) 0)]) (by kernel_rfl) (Step.refl _ _) ?_)
   exact ⟨tv, tv, tv, tv, tv, tv, rfl, tv, tv, tv, tv, tv, tv⟩
  ·intro vs gq stq hl hf
   obtain ⟨v0, v1, v2, v3, v4, v5, rfl⟩ := len_k6 hl
   have hB1 := (show Box gq (t + 1) b1 90 [[.slice none 0 0], [.map (some b2)]] [1, 1] from hf _ (memI 0 rfl) (by kernel_rfl))
   have hB2 := (show MapB gq (t + 2) b2 kv_S_notary_entry (Value.int .i64) d1 from hf _ (memI 1 rfl) (by kernel_rfl))
   have e1 := (show v1 = AG [encA .u8 (getI ([(⟨[1, 0, 0, 0, 0, 0, 0, 0], rfl⟩ : Arr Int 8), (⟨[2, 0, 0, 0, 0, 0, 0, 0], rfl⟩ : Arr Int 8)]) 0)] from hf _ (memI 6 rfl) (by kernel_rfl))
   subst e1
   have hcal2 := P.notary_Book_Signer gq (t + 1) (t + 2) ([]) d1 (getI ([(⟨[1, 0, 0, 0, 0, 0, 0, 0], rfl⟩ : Arr Int 8), (⟨[2, 0, 0, 0, 0, 0, 0, 0], rfl⟩ : Arr Int 8)]) 0) none 0 0 b1 b2 (RdS.nil _ _ _) hB2 hB1 (by omega) (by omega) (by omega) d2 hk2
   refine WP.callC hcal2 (by kernel_rfl) ?_
   rintro _ g7 st7 rfl
   refine WP.dn (Shown.o (v := .iface 92 (AG [[.pointer (some ⟨b1, 0, none⟩)], encA .u8 d2])) st7.pure ?_)
   exact ⟨tv, tv, tv, tv, tv, tv, tv, rfl, tv, tv, tv, tv, tv⟩
  ·intro vs gq stq hl hf
   obtain ⟨v0, v1, v2, v3, v4, v5, rfl⟩ := len_k6 hl
   have hB3 := (show Box gq (t + 5) b3 26 [encA .u8 (⟨[9, 0, 0, 0, 0, 0, 0, 0], rfl⟩ : Arr Int 8), [.int .i64 3], [.slice a2 1 1]] [8, 1, 1] from hf _ (memI 3 rfl) (by kernel_rfl))
   refine WP.loadB (v := AG [encA .u8 (⟨[9, 0, 0, 0, 0, 0, 0, 0], rfl⟩ : Arr Int 8), [.int .i64 3], [.slice a2 1 1]]) hB3 (by kernel_rfl) (by kernel_rfl) ?_
   refine WP.dn (Shown.ok (v := AG [encA .u8 (⟨[9, 0, 0, 0, 0, 0, 0, 0], rfl⟩ : Arr Int 8), [.int .i64 3], [.slice a2 1 1]]) (by kernel_rfl) (Step.refl _ _) ?_)
   exact ⟨tv, tv, tv, tv, tv, tv, tv, tv, rfl, tv, tv, tv, tv⟩
  ·intro vs gq stq hl hf
   obtain ⟨v0, v1, v2, v3, v4, v5, rfl⟩ := len_k6 hl
   have hR3 := (show RdS (Kd.int .u8) gq 5 a2 1 1 ([112]) from hf _ (memI 4 rfl) (by kernel_rfl))
   have e3 := (show v3 = AG [encA .u8 (⟨[9, 0, 0, 0, 0, 0, 0, 0], rfl⟩ : Arr Int 8), [.int .i64 3], [.slice a2 1 1]] from hf _ (memI 8 rfl) (by kernel_rfl))
   subst e3
   have hcal3 := P.state_State_Digest gq (⟨[9, 0, 0, 0, 0, 0, 0, 0], rfl⟩ : Arr Int 8) 3 ([112]) a2 1 1 hR3 d3 hk3
   refine WP.callC hcal3 (by kernel_rfl) ?_
   rintro _ g8 st8 rfl
   refine WP.dn (Shown.o (v := AG [encA .u8 d3]) st8.pure ?_)
   exact ⟨tv, tv, tv, tv, tv, tv, tv, tv, tv, rfl, tv, tv, tv⟩
  ·intro vs gq stq hl hf
   obtain ⟨v0, v1, v2, v3, v4, v5, rfl⟩ := len_k6 hl
   have hB1 := (show Box gq (t + 1) b1 90 [[.slice none 0 0], [.map (some b2)]] [1, 1] from hf _ (memI 0 rfl) (by kernel_rfl))
   have hB2 := (show MapB gq (t + 2) b2 kv_S_notary_entry (Value.int .i64) d1 from hf _ (memI 1 rfl) (by kernel_rfl))
   have e2 := (show v2 = .iface 92 (AG [[.pointer (some ⟨b1, 0, none⟩)], encA .u8 d2]) from hf _ (memI 7 rfl) (by kernel_rfl))
   subst e2
   have e4 := (show v4 = AG [encA .u8 d3] from hf _ (memI 9 rfl) (by kernel_rfl))
   subst e4
   have hcal4 := P.notary_bookSigner_Sign gq (t + 1) (t + 6) (t + 2) (t + 7) ([]) d1 d2 d3 none 0 0 b1 b2 (OwnS.nil _ _ _ _) hB2 hB1 (by omega) (by omega) (by omega) (by omega) (by omega) (by omega) l1 x1 d4 d5 hk4
   refine WP.callC hcal4 (by kernel_rfl) ?_
   rintro _ g9 st9 ⟨a3, n1, c1, a4, n2, c2, rfl, hR4, hB5, hR5, hB6⟩
   obtain rfl := hR4.len
   obtain rfl := hR5.len
   refine WP.dn (Shown.o (v := .tuple #[.slice a3 l1.length c1, .int .i64 x1]) st9 ?_)
   exact ⟨tv, tv, tv, tv, tv, tv, tv, tv, tv, tv, hB5, ⟨a3, c1, a4, c2, rfl, hR4, hR5, hB6⟩, tv⟩
 intro vs g10 st10 hl hf
 obtain ⟨v0, v1, v2, v3, v4, v5, rfl⟩ := len_k6 hl
 have hB2 := (show MapB g10 (t + 2) b2 kv_S_notary_entry (Value.int .i64) d4 from hf _ (memI 10 rfl) (by kernel_rfl))
 obtain ⟨a3, c1, a4, c2, e5, hR4, hR5, hB1⟩ := (show ∃ (a3 : Option Addr) (c1 : Nat) (a4 : Option Addr) (c2 : Nat), v5 = .tuple #[.slice a3 l1.length c1, .int .i64 x1] ∧ OwnS (Kd.int .u8) g10 (t + 7) 5 a3 l1.length c1 l1 ∧ OwnS k_S_notary_entry g10 (t + 6) 173 a4 d5.length c2 d5 ∧ Box g10 (t + 1) b1 90 [[.slice a4 d5.length c2], [.map (some b2)]] [1, 1] from hf _ (memI 11 rfl) (by kernel_rfl))
 subst e5
 replace hR1 := hR1.mono st10 (WL.no3 (by omega) (by omega) (by omega)) (WL.no3 (by omega) (by omega) (by omega))
 replace hB3 := hB3.mono st10 (WL.no3 (by omega) (by omega) (by omega))
 replace hR3 := hR3.mono st10 (WL.no3 (by omega) (by omega) (by omega))
 replace tot := tot.trans (st10.up3 (.inr (by omega)) (.inr (by omega)) (.inr (by omega)))
 refine NX.then_n ?_
 refine CP.refr 71 [(1, .pointer (some ⟨b1, 0, none⟩)), (2, .slice a1 2 2), (3, .pointer (some ⟨b3, 0, none⟩)), (4, .slice a3 l1.length c1), (5, .int .i64 x1)] (by kernel_rfl) (by kernel_rfl) ?_
 clear ds
 intro ds
 refine CP.seqR ?_
 refine WP.stl 1 ?_
 obtain ⟨g12, hw1, st12, hnew⟩ := hR4.freeze (by omega)
 refine WP.regw hw1 ?_
 replace hB1 := hB1.mono st12 (WL.no1 (by omega))
 replace hR5 := hR5.mono st12 (WL.no1 (by omega)) (WL.no1 (by omega))
 replace hB2 := hB2.mono st12 (WL.no1 (by omega))
 replace hR1 := hR1.mono st12 (WL.no1 (by omega)) (WL.no1 (by omega))
 replace hB3 := hB3.mono st12 (WL.no1 (by omega))
 replace hR3 := hR3.mono st12 (WL.no1 (by omega))
 replace tot := tot.trans (st12.up1 (.inr (by omega)))
 clear hR4
 have hR4 := hnew
 clear hnew
 refine WP.mkSl (kd := (Kd.slice 5 (Kd.int .u8))) (t := 42) (e := 24) (bytes := 24) (t + 8) [.slice a3 l1.length c1, .slice none 0 0] [l1, []] (by kernel_rfl) (by kernel_rfl) (Nat.le_of_ble_eq_true rfl) (Nat.le_of_ble_eq_true rfl) (all_cons rfl (all_cons rfl all_nil)) (⟨_, _, rfl, (by exact ⟨_, _, _, rfl, hR4⟩), ⟨_, _, rfl, (by exact ⟨_, _, _, rfl, RdS.nil _ _ _⟩), rfl⟩⟩) rfl ?_
 intro g11 a5 st11 hR6
 replace hB1 := hB1.mono st11 (fun x => x)
 replace hR5 := hR5.mono st11 (fun x => x) (fun x => x)
 replace hB2 := hB2.mono st11 (fun x => x)
 replace hR1 := hR1.mono st11 (fun x => x) (fun x => x)
 replace hB3 := hB3.mono st11 (fun x => x)
 replace hR3 := hR3.mono st11 (fun x => x)
 replace hR4 := hR4.mono st11 (fun x => x)
 replace tot := tot.trans st11.pure
 refine WP.stl 1 ?_
 refine WP.dn ?_
 refine NX.then_n ?_
 refine CP.cut (fun tm g => ∃ (q3 : Bool), Fr 71 [(0, .bool q3)] tm ∧ Step (fun l => NoM l ∨ t ≤ l) g0 g ∧ (F.baizelaw32_told.c1 q3) = some o1) ?_ ?_
 ·refine CP.region ?_
  refine WP.stl 3 ?_
  refine WP.guard 35 (b := (x1 == 0)) (by kernel_rfl) (fun h5 => ?_) (fun h5 => ?_)
  ·replace hs := of_if_t hs h5
   refine WP.loadB (v := AG [encA .u8 (⟨[9, 0, 0, 0, 0, 0, 0, 0], rfl⟩ : Arr Int 8), [.int .i64 3], [.slice a2 1 1]]) hB3 (by kernel_rfl) (by kernel_rfl) ?_
   replace hs := Option.bind_eq_some_iff.1 hs
   obtain ⟨d10, hk12, hs⟩ := hs
   have hcal12 := P.state_State_Digest g11 (⟨[9, 0, 0, 0, 0, 0, 0, 0], rfl⟩ : Arr Int 8) 3 ([112]) a2 1 1 hR3 d10 hk12
   refine WP.callC hcal12 (by kernel_rfl) ?_
   rintro _ g24 st24 rfl
   replace hB1 := hB1.mono st24 (fun x => x)
   replace hR5 := hR5.mono st24 (fun x => x) (fun x => x)
   replace hB2 := hB2.mono st24 (fun x => x)
   replace hR1 := hR1.mono st24 (fun x => x) (fun x => x)
   replace hB3 := hB3.mono st24 (fun x => x)
   replace hR3 := hR3.mono st24 (fun x => x)
   replace hR6 := hR6.mono st24 (fun x => x) (fun x => x)
   replace tot := tot.trans st24.pure
   refine WP.stl 1 ?_
   refine WP.neV (by kernel_rfl) (by kernel_rfl) (EqV.arr (d := 9998) (t := 23) (e := 5) (m := 8) (k := .u8) (x := d10) (y := (zA 8)) (by kernel_rfl) (by kernel_rfl)) ?_
   refine WP.stl 2 ?_
   refine WP.guard 41 (b := (!(d10.1 == (zA 8).1))) (by kernel_rfl) (fun h6 => ?_) (fun h6 => ?_)
   ·replace hs := of_if_t hs h6
    refine WP.stl 3 ?_
    refine WP.mkSl (kd := Kd.bool) (t := 36) (e := 4) (bytes := 1) (t + 10) [.bool false, .bool true] [false, true] (by kernel_rfl) (by kernel_rfl) (Nat.le_of_ble_eq_true rfl) (Nat.le_of_ble_eq_true rfl) (all_cons rfl (all_cons rfl all_nil)) (⟨_, _, rfl, (by exact rfl), ⟨_, _, rfl, (by exact rfl), rfl⟩⟩) rfl ?_
    intro g25 a7 st25 hR8
    replace hB1 := hB1.mono st25 (fun x => x)
    replace hR5 := hR5.mono st25 (fun x => x) (fun x => x)
    replace hB2 := hB2.mono st25 (fun x => x)
    replace hR1 := hR1.mono st25 (fun x => x) (fun x => x)
    replace hB3 := hB3.mono st25 (fun x => x)
    replace hR3 := hR3.mono st25 (fun x => x)
    replace hR6 := hR6.mono st25 (fun x => x) (fun x => x)
    replace tot := tot.trans st25.pure
    refine WP.loadB (v := AG [encA .u8 (⟨[9, 0, 0, 0, 0, 0, 0, 0], rfl⟩ : Arr Int 8), [.int .i64 3], [.slice a2 1 1]]) hB3 (by kernel_rfl) (by kernel_rfl) ?_
    replace hs := Option.bind_eq_some_iff.1 hs
    obtain ⟨d11, hk13, hs⟩ := hs
    have hcal13 := P.state_State_Digest g25 (⟨[9, 0, 0, 0, 0, 0, 0, 0], rfl⟩ : Arr Int 8) 3 ([112]) a2 1 1 hR3 d11 hk13
    refine WP.callC hcal13 (by kernel_rfl) ?_
    rintro _ g26 st26 rfl
    replace hB1 := hB1.mono st26 (fun x => x)
    replace hR5 := hR5.mono st26 (fun x => x) (fun x => x)
    replace hB2 := hB2.mono st26 (fun x => x)
    replace hR1 := hR1.mono st26 (fun x => x) (fun x => x)
    replace hB3 := hB3.mono st26 (fun x => x)
    replace hR3 := hR3.mono st26 (fun x => x)
    replace hR6 := hR6.mono st26 (fun x => x) (fun x => x)
    replace hR8 := hR8.mono st26 (fun x => x) (fun x => x)
    replace tot := tot.trans st26.pure
    refine WP.stl 1 ?_
    replace hs := Option.bind_eq_some_iff.1 hs
    obtain ⟨q4, hk14, hs⟩ := hs
    have hS4 : 0 ∉ ([(t + 6), (t + 3), (t + 10), (t + 8)] : List Nat) := by simp <;> omega
    have stl4 := GW.lend_step g26 [(t + 6), (t + 3), (t + 10), (t + 8)]
    have hRl11 := hR5.lendTo hS4 (by simp)
    have hRl12 := hR1.lendTo hS4 (by simp)
    have hRl13 := hR8.lendTo hS4 (by simp)
    have hRl14 := hR6.lendTo hS4 (by simp)
    refine WP.regw (g' := GW.lend g26 [(t + 6), (t + 3), (t + 10), (t + 8)]) rfl ?_
    have hcal14 := P.state_Full (GW.lend g26 [(t + 6), (t + 3), (t + 10), (t + 8)]) (t + 1) (t + 2) d5 d4 ([(⟨[1, 0, 0, 0, 0, 0, 0, 0], rfl⟩ : Arr Int 8), (⟨[2, 0, 0, 0, 0, 0, 0, 0], rfl⟩ : Arr Int 8)]) ([false, true]) d11 ([l1, []]) a4 d5.length c2 a1 2 2 a7 2 2 a5 2 2 b1 b2 hRl11 hRl12 hRl13 hRl14 (hB2.mono stl4 (WL.no (by simp <;> omega))) (hB1.mono stl4 (WL.no (by simp <;> omega))) (by omega) (by omega) (by omega) q4 hk14
    refine WP.callC hcal14 (by kernel_rfl) ?_
    rintro _ g27 st27 rfl
    have st28 := (GW.back_step st27).lentS
    have hO11 := hR5.backTo hS4 (by simp) st27 (fun x => x)
    have hO12 := hR1.backTo hS4 (by simp) st27 (fun x => x)
    have hO13 := hR8.backTo hS4 (by simp) st27 (fun x => x)
    have hO14 := hR6.backTo hS4 (by simp) st27 (fun x => x)
    refine WP.regw (g' := GW.back g26 g27 [(t + 6), (t + 3), (t + 10), (t + 8)]) rfl ?_
    generalize GW.back g26 g27 [(t + 6), (t + 3), (t + 10), (t + 8)] = g28 at *
    replace hB1 := hB1.mono st28 (WL.no (by simp <;> omega))
    replace hB2 := hB2.mono st28 (WL.no (by simp <;> omega))
    replace hB3 := hB3.mono st28 (WL.no (by simp <;> omega))
    replace hR3 := hR3.mono st28 (WL.no (by simp <;> omega))
    replace tot := tot.trans (st28.up (by intro l hl; simp at hl; rcases hl with rfl | rfl | rfl | rfl <;> first | exact .inr (by omega) | exact .inl (by simp [WL])))
    clear hR5
    have hR5 : OwnS k_S_notary_entry g28 (t + 6) 173 a4 d5.length c2 d5 := hO11
    clear hO11
    clear hR1
    have hR1 : OwnS (Kd.arrI 8 .u8) g28 (t + 3) 23 a1 2 2 ([(⟨[1, 0, 0, 0, 0, 0, 0, 0], rfl⟩ : Arr Int 8), (⟨[2, 0, 0, 0, 0, 0, 0, 0], rfl⟩ : Arr Int 8)]) := hO12
    clear hO12
    clear hR8
    have hR8 : OwnS Kd.bool g28 (t + 10) 4 a7 2 2 ([false, true]) := hO13
    clear hO13
    clear hR6
    have hR6 : OwnS (Kd.slice 5 (Kd.int .u8)) g28 (t + 8) 24 a5 2 2 ([l1, []]) := hO14
    clear hO14
    refine WP.stl 2 ?_
    refine WP.guard 51 (b := q4) (by kernel_rfl) (fun h7 => ?_) (fun h7 => ?_)
    ·replace hs := of_if_t hs h7
     refine WP.stl 3 ?_
     refine WP.loadB (v := AG [encA .u8 (⟨[9, 0, 0, 0, 0, 0, 0, 0], rfl⟩ : Arr Int 8), [.int .i64 3], [.slice a2 1 1]]) hB3 (by kernel_rfl) (by kernel_rfl) ?_
     replace hs := Option.bind_eq_some_iff.1 hs
     obtain ⟨d12, hk15, hs⟩ := hs
     have hcal15 := P.state_State_Digest g28 (⟨[9, 0, 0, 0, 0, 0, 0, 0], rfl⟩ : Arr Int 8) 3 ([112]) a2 1 1 hR3 d12 hk15
     refine WP.callC hcal15 (by kernel_rfl) ?_
     rintro _ g29 st29 rfl
     replace hB1 := hB1.mono st29 (fun x => x)
     replace hR5 := hR5.mono st29 (fun x => x) (fun x => x)
     replace hB2 := hB2.mono st29 (fun x => x)
     replace hR1 := hR1.mono st29 (fun x => x) (fun x => x)
     replace hB3 := hB3.mono st29 (fun x => x)
     replace hR3 := hR3.mono st29 (fun x => x)
     replace hR6 := hR6.mono st29 (fun x => x) (fun x => x)
     replace hR8 := hR8.mono st29 (fun x => x) (fun x => x)
     replace tot := tot.trans st29.pure
     refine WP.stl 1 ?_
     replace hs := Option.bind_eq_some_iff.1 hs
     obtain ⟨q5, hk16, hs⟩ := hs
     have hS5 : 0 ∉ ([(t + 6), (t + 3), (t + 8)] : List Nat) := by simp <;> omega
     have stl5 := GW.lend_step g29 [(t + 6), (t + 3), (t + 8)]
     have hRl15 := hR5.lendTo hS5 (by simp)
     have hRl16 := hR1.lendTo hS5 (by simp)
     have hRl17 := hR6.lendTo hS5 (by simp)
     refine WP.regw (g' := GW.lend g29 [(t + 6), (t + 3), (t + 8)]) rfl ?_
     have hcal16 := P.state_Full (GW.lend g29 [(t + 6), (t + 3), (t + 8)]) (t + 1) (t + 2) d5 d4 ([(⟨[1, 0, 0, 0, 0, 0, 0, 0], rfl⟩ : Arr Int 8), (⟨[2, 0, 0, 0, 0, 0, 0, 0], rfl⟩ : Arr Int 8)]) ([]) d12 ([l1, []]) a4 d5.length c2 a1 2 2 none 0 0 a5 2 2 b1 b2 hRl15 hRl16 (RdS.nil _ _ _) hRl17 (hB2.mono stl5 (WL.no (by simp <;> omega))) (hB1.mono stl5 (WL.no (by simp <;> omega))) (by omega) (by omega) (by omega) q5 hk16
     refine WP.callC hcal16 (by kernel_rfl) ?_
     rintro _ g30 st30 rfl
     have st31 := (GW.back_step st30).lentS
     have hO15 := hR5.backTo hS5 (by simp) st30 (fun x => x)
     have hO16 := hR1.backTo hS5 (by simp) st30 (fun x => x)
     have hO17 := hR6.backTo hS5 (by simp) st30 (fun x => x)
     refine WP.regw (g' := GW.back g29 g30 [(t + 6), (t + 3), (t + 8)]) rfl ?_
     generalize GW.back g29 g30 [(t + 6), (t + 3), (t + 8)] = g31 at *
     replace hB1 := hB1.mono st31 (WL.no3 (by omega) (by omega) (by omega))
     replace hB2 := hB2.mono st31 (WL.no3 (by omega) (by omega) (by omega))
     replace hB3 := hB3.mono st31 (WL.no3 (by omega) (by omega) (by omega))
     replace hR3 := hR3.mono st31 (WL.no3 (by omega) (by omega) (by omega))
     replace hR8 := hR8.mono st31 (WL.no3 (by omega) (by omega) (by omega)) (WL.no3 (by omega) (by omega) (by omega))
     replace tot := tot.trans (st31.up3 (.inr (by omega)) (.inr (by omega)) (.inr (by omega)))
     clear hR5
     have hR5 : OwnS k_S_notary_entry g31 (t + 6) 173 a4 d5.length c2 d5 := hO15
     clear hO15
     clear hR1
     have hR1 : OwnS (Kd.arrI 8 .u8) g31 (t + 3) 23 a1 2 2 ([(⟨[1, 0, 0, 0, 0, 0, 0, 0], rfl⟩ : Arr Int 8), (⟨[2, 0, 0, 0, 0, 0, 0, 0], rfl⟩ : Arr Int 8)]) := hO16
     clear hO16
     clear hR6
     have hR6 : OwnS (Kd.slice 5 (Kd.int .u8)) g31 (t + 8) 24 a5 2 2 ([l1, []]) := hO17
     clear hO17
     refine WP.stl 3 ?_
     refine WP.guard 61 (b := (!q5)) (by kernel_rfl) (fun h8 => ?_) (fun h8 => ?_)
     ·replace hs := of_if_t hs h8
      refine WP.stl 3 ?_
      refine WP.loadB (v := AG [encA .u8 (⟨[9, 0, 0, 0, 0, 0, 0, 0], rfl⟩ : Arr Int 8), [.int .i64 3], [.slice a2 1 1]]) hB3 (by kernel_rfl) (by kernel_rfl) ?_
      replace hs := Option.bind_eq_some_iff.1 hs
      obtain ⟨d13, hk17, hs⟩ := hs
      have hcal17 := P.state_State_Digest g31 (⟨[9, 0, 0, 0, 0, 0, 0, 0], rfl⟩ : Arr Int 8) 3 ([112]) a2 1 1 hR3 d13 hk17
      refine WP.callC hcal17 (by kernel_rfl) ?_
      rintro _ g32 st32 rfl
      replace hB1 := hB1.mono st32 (fun x => x)
      replace hR5 := hR5.mono st32 (fun x => x) (fun x => x)
      replace hB2 := hB2.mono st32 (fun x => x)
      replace hR1 := hR1.mono st32 (fun x => x) (fun x => x)
      replace hB3 := hB3.mono st32 (fun x => x)
      replace hR3 := hR3.mono st32 (fun x => x)
      replace hR6 := hR6.mono st32 (fun x => x) (fun x => x)
      replace hR8 := hR8.mono st32 (fun x => x) (fun x => x)
      replace tot := tot.trans st32.pure
      refine WP.stl 1 ?_
      replace hs := Option.bind_eq_some_iff.1 hs
      obtain ⟨x3, hk18, hs⟩ := hs
      have hS6 : 0 ∉ ([(t + 6), (t + 3), (t + 8)] : List Nat) := by simp <;> omega
      have stl6 := GW.lend_step g32 [(t + 6), (t + 3), (t + 8)]
      have hRl18 := hR5.lendTo hS6 (by simp)
      have hRl19 := hR1.lendTo hS6 (by simp)
      have hRl20 := hR6.lendTo hS6 (by simp)
      refine WP.regw (g' := GW.lend g32 [(t + 6), (t + 3), (t + 8)]) rfl ?_
      have hcal18 := P.state_Count (GW.lend g32 [(t + 6), (t + 3), (t + 8)]) (t + 1) (t + 2) d5 d4 ([(⟨[1, 0, 0, 0, 0, 0, 0, 0], rfl⟩ : Arr Int 8), (⟨[2, 0, 0, 0, 0, 0, 0, 0], rfl⟩ : Arr Int 8)]) d13 ([l1, []]) a4 d5.length c2 a1 2 2 a5 2 2 b1 b2 hRl18 hRl19 hRl20 (hB2.mono stl6 (WL.no (by simp <;> omega))) (hB1.mono stl6 (WL.no (by simp <;> omega))) (by omega) (by omega) (by omega) x3 hk18
      refine WP.callC hcal18 (by kernel_rfl) ?_
      rintro _ g33 st33 rfl
      have st34 := (GW.back_step st33).lentS
      have hO18 := hR5.backTo hS6 (by simp) st33 (fun x => x)
      have hO19 := hR1.backTo hS6 (by simp) st33 (fun x => x)
      have hO20 := hR6.backTo hS6 (by simp) st33 (fun x => x)
      refine WP.regw (g' := GW.back g32 g33 [(t + 6), (t + 3), (t + 8)]) rfl ?_
      generalize GW.back g32 g33 [(t + 6), (t + 3), (t + 8)] = g34 at *
      replace hB1 := hB1.mono st34 (WL.no3 (by omega) (by omega) (by omega))
      replace hB2 := hB2.mono st34 (WL.no3 (by omega) (by omega) (by omega))
      replace hB3 := hB3.mono st34 (WL.no3 (by omega) (by omega) (by omega))
      replace hR3 := hR3.mono st34 (WL.no3 (by omega) (by omega) (by omega))
      replace hR8 := hR8.mono st34 (WL.no3 (by omega) (by omega) (by omega)) (WL.no3 (by omega) (by omega) (by omega))
      replace tot := tot.trans (st34.up3 (.inr (by omega)) (.inr (by omega)) (.inr (by omega)))
      clear hR5
      have hR5 : OwnS k_S_notary_entry g34 (t + 6) 173 a4 d5.length c2 d5 := hO18
      clear hO18
      clear hR1
      have hR1 : OwnS (Kd.arrI 8 .u8) g34 (t + 3) 23 a1 2 2 ([(⟨[1, 0, 0, 0, 0, 0, 0, 0], rfl⟩ : Arr Int 8), (⟨[2, 0, 0, 0, 0, 0, 0, 0], rfl⟩ : Arr Int 8)]) := hO19
      clear hO19
      clear hR6
      have hR6 : OwnS (Kd.slice 5 (Kd.int .u8)) g34 (t + 8) 24 a5 2 2 ([l1, []]) := hO20
      clear hO20
      refine WP.stl 3 ?_
      refine WP.dn ?_
      refine NX.post ?_
      exact ⟨(x3 == 1), ⟨by kernel_rfl, by kernel_rfl⟩, tot, hs⟩
     replace hs := of_if_f hs h8
     refine WP.stl 10 ?_
     refine WP.dn ?_
     refine NX.post ?_
     exact ⟨false, ⟨by kernel_rfl, by kernel_rfl⟩, tot, hs⟩
    replace hs := of_if_f hs h7
    refine WP.stl 20 ?_
    refine WP.dn ?_
    refine NX.post ?_
    exact ⟨false, ⟨by kernel_rfl, by kernel_rfl⟩, tot, hs⟩
   replace hs := of_if_f hs h6
   refine WP.stl 30 ?_
   refine WP.dn ?_
   refine NX.post ?_
   exact ⟨false, ⟨by kernel_rfl, by kernel_rfl⟩, tot, hs⟩
  replace hs := of_if_f hs h5
  refine WP.stl 36 ?_
  refine WP.dn ?_
  refine NX.post ?_
  exact ⟨false, ⟨by kernel_rfl, by kernel_rfl⟩, tot, hs⟩
 clear tot hs hB1 hR5 hB2 hR1 hB3 hR3 hR6
 rintro tm g ⟨q3, hF, tot, hs⟩
 clear ds
 obtain ⟨ds, rfl⟩ := hF.open
 clear hF
 unfold F.baizelaw32_told.c1 at hs
 refine CP.ret ?_
 replace hs := Option.some.inj hs
 obtain rfl := hs
 exact NX.fin (v := .bool q3) (Res.still (by kernel_rfl)) tot htL rfl
def F.octet_NewReader (l1 : List Int) : Option ((List Int) × Int) := ((F.slices_Clone_byte_byte l1).bind fun l2 => (some (l2, 0)))
theorem P.octet_NewReader (g0 : GW) (r0 : Nat) (l1 : List Int) (a1 : Option Addr) (n1 : Nat) (c1 : Nat) (hR1 : RdS (Kd.int .u8) g0 5 a1 n1 c1 l1) (o1 : List Int) (o2 : Int) (hs : F.octet_NewReader l1 = some (o1, o2)) :
  Calls Try.prog 49 #[.slice a1 n1 c1] g0.w (Ret NoM g0 fun v g => ∃ (b_1 : Nat) (a_2 : Option Addr) (n_2 : Nat) (c_2 : Nat), v = .pointer (some ⟨b_1, 0, none⟩) ∧ Box g r0 b_1 126 [[.slice a_2 n_2 c_2], [.int .i64 o2]] [1, 1] ∧ RdS (Kd.int .u8) g 5 a_2 n_2 c_2 o1) := by
 refine calls_of (args := [.slice a1 n1 c1]) Try.func49 rfl (r0 + 0) ?_
 intro t ht htL
 refine ⟨_, rfl, ?_⟩
 refine CP.refr 7 [(0, .slice a1 n1 c1)] (by kernel_rfl) (by kernel_rfl) ?_
 intro ds
 have tot : Step (fun l => NoM l ∨ t ≤ l) g0 g0 := Step.refl _ _
 unfold F.octet_NewReader at hs
 refine CP.seqR ?_
 refine WP.stl 1 ?_
 refine WP.dn ?_
 refine NX.then_n ?_
 refine CP.seqR ?_
 refine WP.stl 1 ?_
 replace hs := Option.bind_eq_some_iff.1 hs
 obtain ⟨l2, hk1, hs⟩ := hs
 have hcal1 := P.slices_Clone_byte_byte g0 (t + 1) l1 a1 n1 c1 hR1 l2 hk1
 refine WP.callC hcal1 (by kernel_rfl) ?_
 rintro _ g1 st1 ⟨a2, n2, c2, rfl, hR2⟩
 replace hR1 := hR1.mono st1 (fun x => x)
 replace tot := tot.trans st1.pure
 refine WP.stl 1 ?_
 refine WP.alloc (T := 126) (t + 2) [[.slice a2 n2 c2], [.int .i64 0]] [1, 1] (by kernel_rfl) rfl ?_
 intro g2 b1 st2 hB1
 replace hR1 := hR1.mono st2 (fun x => x)
 replace hR2 := hR2.mono st2 (fun x => x) (fun x => x)
 replace tot := tot.trans st2.pure
 refine WP.stl 1 ?_
 refine WP.dn ?_
 refine NX.then_n ?_
 refine CP.ret ?_
 obtain ⟨g3, hw1, st3, hnew⟩ := hB1.relab r0
 refine NX.regw hw1 ?_
 replace hR2 := hR2.mono st3 (WL.no1 (by omega)) (WL.no1 (by omega))
 replace tot := tot.trans (st3.up1 (.inr (by omega)))
 clear hB1
 have hB1 := hnew
 clear hnew
 obtain ⟨g4, hw2, st4, hnew⟩ := hR2.freeze (by omega)
 refine NX.regw hw2 ?_
 replace hB1 := hB1.mono st4 (WL.no1 (by omega))
 replace tot := tot.trans (st4.up1 (.inr (by omega)))
 clear hR2
 have hR2 := hnew
 clear hnew
 replace hs := Option.some.inj hs
 obtain ⟨rfl, rfl⟩ := Prod.mk.inj hs
 exact NX.fin (v := .pointer (some ⟨b1, 0, none⟩)) (Res.still (by kernel_rfl)) tot htL ⟨b1, a2, n2, c2, rfl, hB1, hR2⟩
def F.math_bits_Len8 (x1 : Int) : Option (Int) := (if (0 : Int) ≤ x1 ∧ x1 < (str_3.size : Int) then (some (IntKind.i64.wrap (getI (strBytes str_3) x1))) else none)
theorem P.math_bits_Len8 (g0 : GW) (x1 : Int) (o1 : Int) (hs : F.math_bits_Len8 x1 = some o1) :
  Calls Try.prog 91 #[.int .u8 x1] g0.w (Ret NoM g0 fun v g => v = .int .i64 o1) := by
 refine calls_of (args := [.int .u8 x1]) Try.func91 rfl (0) ?_
 intro t ht htL
 refine ⟨_, rfl, ?_⟩
 refine CP.refr 6 [(0, .int .u8 x1)] (by kernel_rfl) (by kernel_rfl) ?_
 intro ds
 have tot : Step (fun l => NoM l ∨ t ≤ l) g0 g0 := Step.refl _ _
 unfold F.math_bits_Len8 at hs
 refine CP.seqR ?_
 refine WP.stl 1 ?_
 refine WP.dn ?_
 refine NX.then_n ?_
 refine CP.seqR ?_
 refine WP.stl 1 ?_
 by_cases hc1 : (0 : Int) ≤ x1 ∧ x1 < (str_3.size : Int)
 case neg => rw [if_neg hc1] at hs; cases hs
 replace hs := of_if_p hs hc1
 refine WP.indexS (s := str_3) (k := .u8) (i := x1) (by kernel_rfl) hc1 ?_
 refine WP.stl 2 ?_
 refine WP.dn ?_
 refine NX.then_n ?_
 refine CP.ret ?_
 replace hs := Option.some.inj hs
 obtain rfl := hs
 exact NX.fin (v := .int .i64 (IntKind.i64.wrap (getI (strBytes str_3) x1))) (Res.still (by kernel_rfl)) tot htL rfl
def F.octet_number.c1 (l1 : List Int) : Option (Int × Int × Int) := (if decide ((l1.length : Int) < 10) = true then (some (0, 0, 4)) else (some (0, 0, 3)))
def F.octet_number.c2 (nx1 : Int → Int → Option (Int × Int × Int)) (l1 : List Int) (x8 : Int) (x9 : Int) (q5 : Bool) : Option (Int × Int × Int) := (if q5 = true then (some (0, 0, 3)) else ((F.math_bits_Len8 (bitAnd .u8 (getI l1 x9) 127)).bind fun x13 => (if decide ((IntKind.i64.wrap (x13 + (IntKind.i64.wrap (7 * x9)))) > 64) = true then (some (0, 0, 3)) else (if (0 : Int) ≤ (IntKind.i64.wrap (7 * x9)) then (if decide ((getI l1 x9) < 128) = true then (some ((bitOr .u64 x8 (shV true .u64 (IntKind.u64.wrap (bitAnd .u8 (getI l1 x9) 127)) (IntKind.i64.wrap (7 * x9)))), (IntKind.i64.wrap (x9 + 1)), 0)) else (nx1 (bitOr .u64 x8 (shV true .u64 (IntKind.u64.wrap (bitAnd .u8 (getI l1 x9) 127)) (IntKind.i64.wrap (7 * x9)))) (IntKind.i64.wrap (x9 + 1)))) else none))))
def F.octet_number.l1 (l1 : List Int) : Nat → Int → Int → Option (Int × Int × Int)
 | 0, _, _ => none
 | k + 1, x8, x9 => (if decide (x9 < (l1.length : Int)) = true then (if (0 : Int) ≤ x9 ∧ x9 < (l1.length : Int) then (if (x9 == 10) = true then (F.octet_number.c1 l1) else (if decide ((getI l1 x9) < 128) = true then (if ((getI l1 x9) == 0) = true then (F.octet_number.c2 (F.octet_number.l1 l1 k) l1 x8 x9 (decide (x9 > 0))) else (F.octet_number.c2 (F.octet_number.l1 l1 k) l1 x8 x9 false)) else (F.octet_number.c2 (F.octet_number.l1 l1 k) l1 x8 x9 false))) else none) else (F.octet_number.c1 l1))
def F.octet_number (l1 : List Int) : Option (Int × Int × Int) := (F.octet_number.l1 l1 fuel 0 0)
theorem P.octet_number (g0 : GW) (l1 : List Int) (a1 : Option Addr) (n1 : Nat) (c1 : Nat) (hR1 : RdS (Kd.int .u8) g0 5 a1 n1 c1 l1) (o1 : Int) (o2 : Int) (o3 : Int) (hs : F.octet_number l1 = some (o1, o2, o3)) :
  Calls Try.prog 75 #[.slice a1 n1 c1] g0.w (Ret NoM g0 fun v g => v = .tuple #[.int .u64 o1, .int .i64 o2, .int .i64 o3]) := by
 refine calls_of (args := [.slice a1 n1 c1]) Try.func75 rfl (0) ?_
 intro t ht htL
 refine ⟨_, rfl, ?_⟩
 refine CP.refr 54 [(0, .slice a1 n1 c1)] (by kernel_rfl) (by kernel_rfl) ?_
 intro ds
 have tot : Step (fun l => NoM l ∨ t ≤ l) g0 g0 := Step.refl _ _
 unfold F.octet_number at hs
 refine CP.seqR ?_
 refine WP.stl 3 ?_
 refine WP.dn ?_
 refine NX.then_n ?_
 refine CP.scope ?_
 refine CP.seqR ?_
 refine WP.stl 1 ?_
 refine WP.dn ?_
 refine NX.then_n ?_
 refine CP.seq ?_
 refine CP.label ?_
 refine NX.then_n ?_
 refine CP.cut (fun tm g => Fr 54 [(0, .slice a1 n1 c1)] tm ∧ Step (fun l => NoM l ∨ t ≤ l) g0 g ∧ RdS (Kd.int .u8) g 5 a1 n1 c1 l1 ∧ (F.octet_number.c1 l1) = some (o1, o2, o3)) ?_ ?_
 ·refine CP.seqR ?_
  refine WP.stl 1 ?_
  refine WP.len (a := a1) (cp := c1) hR1.len (by kernel_rfl) ?_
  refine WP.stl 1 ?_
  refine WP.dn ?_
  refine NX.then_n ?_
  refine CP.block ?_
  generalize fuel = k1 at hs
  refine CP.loop (fun k1 tm g => ∃ (x8 : Int) (x9 : Int), Fr 54 [(0, .slice a1 n1 c1), (5, .int .u64 x8), (8, .slice a1 n1 c1), (9, .int .i64 (l1.length : Int)), (10, .int .i64 x9)] tm ∧ Step (fun l => NoM l ∨ t ≤ l) g0 g ∧ RdS (Kd.int .u8) g 5 a1 n1 c1 l1 ∧ F.octet_number.l1 l1 k1 x8 x9 = some (o1, o2, o3)) k1 ?_ ?_ ?_
  ·exact ⟨0, 0, ⟨by kernel_rfl, by kernel_rfl⟩, tot, hR1, hs⟩
  ·rintro tm g ⟨x8, x9, hF, tot, hR1, hs⟩
   exact absurd hs (by simp [F.octet_number.l1])
  clear tot hs hR1
  rintro k1 tm g ⟨x8, x9, hF, tot, hR1, hs⟩
  clear ds
  obtain ⟨ds, rfl⟩ := hF.open
  clear hF
  unfold F.octet_number.l1 at hs
  refine CP.seqR ?_
  refine WP.stl 1 ?_
  refine WP.dn ?_
  refine NX.then_n ?_
  refine CP.seq ?_
  refine CP.cond (b := decide (x9 < (l1.length : Int))) (by kernel_rfl) (fun h30 => ?_) (fun h30 => ?_)
  ·replace hs := of_if_t hs h30
   refine CP.skip ?_
   refine NX.then_n ?_
   refine CP.seq ?_
   refine CP.block ?_
   refine CP.seqR ?_
   refine WP.stl 1 ?_
   by_cases hc9 : (0 : Int) ≤ x9 ∧ x9 < (l1.length : Int)
   case neg => rw [if_neg hc9] at hs; cases hs
   replace hs := of_if_p hs hc9
   obtain ⟨b5, u5, ha5⟩ := hR1.at hc9
   refine WP.indexA (t := 24) (e := 5) (sz := 1) (cap := c1) (k := .i64) (i := x9) hR1.len ha5 (by kernel_rfl) (by kernel_rfl) hc9 ?_
   obtain ⟨cs5, hcR5, hcV5⟩ := hR1.src.view (getI_some hc9) ha5
   replace hcR5 := Kd.o_int hcR5
   refine WP.loadV [[.int .u8 (getI l1 x9)]] [1] hcV5 hcR5 rfl (f := 0) (ty := 5) (agg := false) (size := 1) (rs := [[.int .u8 (getI l1 x9)]]) (v := .int .u8 (getI l1 x9)) (by kernel_rfl) (by kernel_rfl) (by kernel_rfl) (by kernel_rfl) ?_
   refine WP.stl 2 ?_
   refine WP.dn ?_
   refine NX.then_n ?_
   refine CP.seq ?_
   refine CP.block ?_
   refine CP.seqR ?_
   refine WP.stl 3 ?_
   refine WP.dn ?_
   refine NX.then_n ?_
   refine CP.cond (b := (x9 == 10)) (by kernel_rfl) (fun h31 => ?_) (fun h31 => ?_)
   ·replace hs := of_if_t hs h31
    refine CP.exit ?_
    refine NX.block_o (by rfl) ?_
    refine NX.then_e ?_
    refine NX.block_o (by rfl) ?_
    refine NX.then_e ?_
    refine NX.then_e ?_
    refine NX.block_s ?_
    refine NX.post ?_
    exact ⟨⟨by kernel_rfl, by kernel_rfl⟩, tot, hR1, hs⟩
   replace hs := of_if_f hs h31
   refine CP.cut (fun tm g => ∃ (q5 : Bool), Fr 54 [(0, .slice a1 n1 c1), (5, .int .u64 x8), (6, .int .i64 x9), (7, .int .u8 (getI l1 x9)), (8, .slice a1 n1 c1), (9, .int .i64 (l1.length : Int)), (10, .int .i64 x9), (18, .bool q5)] tm ∧ Step (fun l => NoM l ∨ t ≤ l) g0 g ∧ RdS (Kd.int .u8) g 5 a1 n1 c1 l1 ∧ (F.octet_number.c2 (F.octet_number.l1 l1 k1) l1 x8 x9 q5) = some (o1, o2, o3)) ?_ ?_
   ·refine CP.region ?_
    refine WP.stl 3 ?_
    refine WP.guard 21 (b := decide ((getI l1 x9) < 128)) (by kernel_rfl) (fun h37 => ?_) (fun h37 => ?_)
    ·replace hs := of_if_t hs h37
     refine WP.stl 4 ?_
     refine WP.guard 25 (b := ((getI l1 x9) == 0)) (by kernel_rfl) (fun h38 => ?_) (fun h38 => ?_)
     ·replace hs := of_if_t hs h38
      refine WP.stl 4 ?_
      refine WP.dn ?_
      refine NX.post ?_
      exact ⟨decide (x9 > 0), ⟨by kernel_rfl, by kernel_rfl⟩, tot, hR1, hs⟩
     replace hs := of_if_f hs h38
     refine WP.stl 4 ?_
     refine WP.dn ?_
     refine NX.post ?_
     exact ⟨false, ⟨by kernel_rfl, by kernel_rfl⟩, tot, hR1, hs⟩
    replace hs := of_if_f hs h37
    refine WP.stl 8 ?_
    refine WP.dn ?_
    refine NX.post ?_
    exact ⟨false, ⟨by kernel_rfl, by kernel_rfl⟩, tot, hR1, hs⟩
   clear tot hs hR1
   rintro tm g ⟨q5, hF, tot, hR1, hs⟩
   clear ds
   obtain ⟨ds, rfl⟩ := hF.open
   clear hF
   unfold F.octet_number.c2 at hs
   refine CP.cond (b := q5) (by kernel_rfl) (fun h34 => ?_) (fun h34 => ?_)
   ·replace hs := of_if_t hs h34
    refine CP.seqR ?_
    refine WP.stl 3 ?_
    refine WP.dn ?_
    refine NX.then_n ?_
    refine CP.ret ?_
    refine NX.block_r ?_
    refine NX.then_r ?_
    refine NX.block_r ?_
    refine NX.then_r ?_
    refine NX.then_r ?_
    refine NX.block_r ?_
    refine NX.then_r ?_
    refine NX.scope_r ?_
    replace hs := Option.some.inj hs
    simp only [Prod.mk.injEq] at hs
    obtain ⟨rfl, rfl, rfl⟩ := hs
    exact NX.fin (v := .tuple #[.int .u64 0, .int .i64 0, .int .i64 3]) (Res.still (by kernel_rfl)) tot htL rfl
   replace hs := of_if_f hs h34
   refine CP.seqR ?_
   refine WP.stl 2 ?_
   replace hs := Option.bind_eq_some_iff.1 hs
   obtain ⟨x13, hk5, hs⟩ := hs
   have hcal5 := P.math_bits_Len8 g (bitAnd .u8 (getI l1 x9) 127) x13 hk5
   refine WP.callC hcal5 (by kernel_rfl) ?_
   rintro _ g5 st5 rfl
   replace hR1 := hR1.mono st5 (fun x => x)
   replace tot := tot.trans st5.pure
   refine WP.stl 5 ?_
   refine WP.dn ?_
   refine NX.then_n ?_
   refine CP.cond (b := decide ((IntKind.i64.wrap (x13 + (IntKind.i64.wrap (7 * x9)))) > 64)) (by kernel_rfl) (fun h35 => ?_) (fun h35 => ?_)
   ·replace hs := of_if_t hs h35
    refine CP.seqR ?_
    refine WP.stl 3 ?_
    refine WP.dn ?_
    refine NX.then_n ?_
    refine CP.ret ?_
    refine NX.block_r ?_
    refine NX.then_r ?_
    refine NX.block_r ?_
    refine NX.then_r ?_
    refine NX.then_r ?_
    refine NX.block_r ?_
    refine NX.then_r ?_
    refine NX.scope_r ?_
    replace hs := Option.some.inj hs
    simp only [Prod.mk.injEq] at hs
    obtain ⟨rfl, rfl, rfl⟩ := hs
    exact NX.fin (v := .tuple #[.int .u64 0, .int .i64 0, .int .i64 3]) (Res.still (by kernel_rfl)) tot htL rfl
   replace hs := of_if_f hs h35
   refine CP.skip ?_
   refine NX.block_n ?_
   refine NX.then_n ?_
   refine CP.seqR ?_
   refine WP.stl 6 ?_
   by_cases hc10 : (0 : Int) ≤ (IntKind.i64.wrap (7 * x9))
   case neg => rw [if_neg hc10] at hs; cases hs
   replace hs := of_if_p hs hc10
   refine WP.shift (left := true) (k := .u64) (yk := .i64) (x := (IntKind.u64.wrap (bitAnd .u8 (getI l1 x9) 127))) (y := (IntKind.i64.wrap (7 * x9))) (by kernel_rfl) hc10 ?_
   refine WP.stl 2 ?_
   refine WP.dn ?_
   refine NX.then_n ?_
   refine CP.refr 54 [(0, .slice a1 n1 c1), (5, .int .u64 (bitOr .u64 x8 (shV true .u64 (IntKind.u64.wrap (bitAnd .u8 (getI l1 x9) 127)) (IntKind.i64.wrap (7 * x9))))), (6, .int .i64 x9), (7, .int .u8 (getI l1 x9)), (8, .slice a1 n1 c1), (9, .int .i64 (l1.length : Int)), (10, .int .i64 x9)] (by kernel_rfl) (by kernel_rfl) ?_
   clear ds
   intro ds
   refine CP.seqR ?_
   refine WP.stl 2 ?_
   refine WP.dn ?_
   refine NX.then_n ?_
   refine CP.cond (b := decide ((getI l1 x9) < 128)) (by kernel_rfl) (fun h36 => ?_) (fun h36 => ?_)
   ·replace hs := of_if_t hs h36
    refine CP.seqR ?_
    refine WP.stl 6 ?_
    refine WP.dn ?_
    refine NX.then_n ?_
    refine CP.ret ?_
    refine NX.block_r ?_
    refine NX.then_r ?_
    refine NX.then_r ?_
    refine NX.block_r ?_
    refine NX.then_r ?_
    refine NX.scope_r ?_
    replace hs := Option.some.inj hs
    simp only [Prod.mk.injEq] at hs
    obtain ⟨rfl, rfl, rfl⟩ := hs
    exact NX.fin (v := .tuple #[.int .u64 (bitOr .u64 x8 (shV true .u64 (IntKind.u64.wrap (bitAnd .u8 (getI l1 x9) 127)) (IntKind.i64.wrap (7 * x9)))), .int .i64 (IntKind.i64.wrap (x9 + 1)), .int .i64 0]) (Res.still (by kernel_rfl)) tot htL rfl
   replace hs := of_if_f hs h36
   refine CP.skip ?_
   refine NX.block_n ?_
   refine NX.then_n ?_
   refine CP.region ?_
   refine WP.stl 2 ?_
   refine WP.dn ?_
   refine NX.post ?_
   exact ⟨(bitOr .u64 x8 (shV true .u64 (IntKind.u64.wrap (bitAnd .u8 (getI l1 x9) 127)) (IntKind.i64.wrap (7 * x9)))), (IntKind.i64.wrap (x9 + 1)), ⟨by kernel_rfl, by kernel_rfl⟩, tot, hR1, hs⟩
  replace hs := of_if_f hs h30
  refine CP.exit ?_
  refine NX.then_e ?_
  refine NX.then_e ?_
  refine NX.block_s ?_
  refine NX.post ?_
  exact ⟨⟨by kernel_rfl, by kernel_rfl⟩, tot, hR1, hs⟩
 clear tot hs hR1
 rintro tm g ⟨hF, tot, hR1, hs⟩
 clear ds
 obtain ⟨ds, rfl⟩ := hF.open
 clear hF
 unfold F.octet_number.c1 at hs
 refine CP.seq ?_
 refine CP.seqR ?_
 refine WP.stl 1 ?_
 refine WP.len (a := a1) (cp := c1) hR1.len (by kernel_rfl) ?_
 refine WP.stl 1 ?_
 refine WP.dn ?_
 refine NX.then_n ?_
 refine CP.cond (b := decide ((l1.length : Int) < 10)) (by kernel_rfl) (fun h15 => ?_) (fun h15 => ?_)
 ·replace hs := of_if_t hs h15
  refine CP.seqR ?_
  refine WP.stl 3 ?_
  refine WP.dn ?_
  refine NX.then_n ?_
  refine CP.ret ?_
  refine NX.then_r ?_
  refine NX.scope_r ?_
  replace hs := Option.some.inj hs
  simp only [Prod.mk.injEq] at hs
  obtain ⟨rfl, rfl, rfl⟩ := hs
  exact NX.fin (v := .tuple #[.int .u64 0, .int .i64 0, .int .i64 4]) (Res.still (by kernel_rfl)) tot htL rfl
 replace hs := of_if_f hs h15
 refine CP.skip ?_
 refine NX.then_n ?_
 refine CP.seqR ?_
 refine WP.stl 3 ?_
 refine WP.dn ?_
 refine NX.then_n ?_
 refine CP.ret ?_
 refine NX.scope_r ?_
 replace hs := Option.some.inj hs
 simp only [Prod.mk.injEq] at hs
 obtain ⟨rfl, rfl, rfl⟩ := hs
 exact NX.fin (v := .tuple #[.int .u64 0, .int .i64 0, .int .i64 3]) (Res.still (by kernel_rfl)) tot htL rfl
def F.octet_Reader_Bytes_1_2 (l1 : List Int) (x1 : Int) (l2 : List Int) : Option (Int × Int × (List Int)) := ((F.octet_number l1).bind fun (x2, x3, x4) => (if (x4 != 0) = true then (some (0, x4, l2)) else (if decide (x2 > (IntKind.u64.wrap (imax x1 0))) = true then (some (0, 2, l2)) else (if decide (x2 > (IntKind.u64.wrap (IntKind.i64.wrap ((l1.length : Int) - x3)))) = true then (some (0, 4, l2)) else (if (0 : Int) ≤ x3 ∧ x3 ≤ (IntKind.i64.wrap (x3 + (IntKind.i64.wrap x2))) ∧ (IntKind.i64.wrap (x3 + (IntKind.i64.wrap x2))) ≤ (l1.length : Int) then ((F.slices_Clone_byte_byte (sliceI l1 x3 (IntKind.i64.wrap (x3 + (IntKind.i64.wrap x2))))).bind fun l3 => (some ((IntKind.i64.wrap (x3 + (IntKind.i64.wrap x2))), 0, l3))) else none)))))
theorem P.octet_Reader_Bytes_1_2 (g0 : GW) (m0 : Nat) (m1 : Nat) (m2 : Nat) (l1 : List Int) (x1 : Int) (l2 : List Int) (a1 : Option Addr) (n1 : Nat) (c1 : Nat) (a2 : Option Addr) (n2 : Nat) (c2 : Nat) (b1 : Nat) (b2 : Nat) (hR1 : RdS (Kd.int .u8) g0 5 a1 n1 c1 l1) (hR2 : OwnS (Kd.int .u8) g0 m2 5 a2 n2 c2 l2) (hB1 : Box g0 m0 b1 3 [[.int .i64 x1]] [1]) (hB2 : Box g0 m1 b2 24 [[.slice a2 n2 c2]] [1]) (hm1_0 : m1 ≠ m0) (hm2_0 : m2 ≠ m0) (hm2_1 : m2 ≠ m1) (hm0 : m0 ≠ 0) (hm1 : m1 ≠ 0) (hm2 : m2 ≠ 0) (o1 : Int) (o2 : Int) (o3 : (List Int)) (hs : F.octet_Reader_Bytes_1_2 l1 x1 l2 = some (o1, o2, o3)) :
  Calls Try.prog 74 #[.slice a1 n1 c1, .pointer (some ⟨b1, 0, none⟩), .pointer (some ⟨b2, 0, none⟩)] g0.w (Ret (WL [m1, m2]) g0 fun v g => ∃ (a_1 : Option Addr) (n_1 : Nat) (c_1 : Nat), v = .tuple #[.int .i64 o1, .int .i64 o2] ∧ OwnS (Kd.int .u8) g m2 5 a_1 n_1 c_1 o3 ∧ Box g m1 b2 24 [[.slice a_1 n_1 c_1]] [1]) := by
 refine calls_of (args := [.slice a1 n1 c1, .pointer (some ⟨b1, 0, none⟩), .pointer (some ⟨b2, 0, none⟩)]) Try.func74 rfl (m0 + m1 + m2 + 0) ?_
 intro t ht htL
 refine ⟨_, rfl, ?_⟩
 refine CP.refr 44 [(0, .slice a1 n1 c1), (1, .pointer (some ⟨b1, 0, none⟩)), (2, .pointer (some ⟨b2, 0, none⟩))] (by kernel_rfl) (by kernel_rfl) ?_
 intro ds
 have tot : Step (fun l => (WL [m1, m2]) l ∨ t ≤ l) g0 g0 := Step.refl _ _
 unfold F.octet_Reader_Bytes_1_2 at hs
 refine CP.seqR ?_
 refine WP.stl 2 ?_
 refine WP.dn ?_
 refine NX.then_n ?_
 refine CP.seqR ?_
 refine WP.stl 1 ?_
 replace hs := Option.bind_eq_some_iff.1 hs
 obtain ⟨⟨x2, x3, x4⟩, hk1, hs⟩ := hs
 dsimp only at hs
 have hcal1 := P.octet_number g0 l1 a1 n1 c1 hR1 x2 x3 x4 hk1
 refine WP.callC hcal1 (by kernel_rfl) ?_
 rintro _ g1 st1 rfl
 replace hR1 := hR1.mono st1 (fun x => x)
 replace hB1 := hB1.mono st1 (fun x => x)
 replace hB2 := hB2.mono st1 (fun x => x)
 replace hR2 := hR2.mono st1 (fun x => x) (fun x => x)
 replace tot := tot.trans st1.pure
 refine WP.stl 7 ?_
 refine WP.dn ?_
 refine NX.then_n ?_
 refine CP.seq ?_
 refine CP.block ?_
 refine CP.seqR ?_
 refine WP.stl 3 ?_
 refine WP.dn ?_
 refine NX.then_n ?_
 refine CP.refr 44 [(0, .slice a1 n1 c1), (1, .pointer (some ⟨b1, 0, none⟩)), (2, .pointer (some ⟨b2, 0, none⟩)), (6, .int .u64 x2), (7, .int .i64 x3), (8, .int .i64 x4), (16, .bool (x4 != 0))] (by kernel_rfl) (by kernel_rfl) ?_
 clear ds
 intro ds
 refine CP.cond (b := (x4 != 0)) (by kernel_rfl) (fun h1 => ?_) (fun h1 => ?_)
 ·replace hs := of_if_t hs h1
  refine CP.seqR ?_
  refine WP.stl 3 ?_
  refine WP.dn ?_
  refine NX.then_n ?_
  refine CP.ret ?_
  refine NX.block_r ?_
  refine NX.then_r ?_
  replace hs := Option.some.inj hs
  simp only [Prod.mk.injEq] at hs
  obtain ⟨rfl, rfl, rfl⟩ := hs
  exact NX.fin (v := .tuple #[.int .i64 0, .int .i64 x4]) (Res.still (by kernel_rfl)) tot htL ⟨a2, n2, c2, rfl, hR2, hB2⟩
 replace hs := of_if_f hs h1
 refine CP.seqR ?_
 refine WP.stl 1 ?_
 refine WP.loadB (v := .int .i64 x1) hB1 (by kernel_rfl) (by kernel_rfl) ?_
 refine WP.stl 4 ?_
 refine WP.dn ?_
 refine NX.then_n ?_
 refine CP.cond (b := decide (x2 > (IntKind.u64.wrap (imax x1 0)))) (by kernel_rfl) (fun h2 => ?_) (fun h2 => ?_)
 ·replace hs := of_if_t hs h2
  refine CP.seqR ?_
  refine WP.stl 2 ?_
  refine WP.dn ?_
  refine NX.then_n ?_
  refine CP.ret ?_
  refine NX.block_r ?_
  refine NX.then_r ?_
  replace hs := Option.some.inj hs
  simp only [Prod.mk.injEq] at hs
  obtain ⟨rfl, rfl, rfl⟩ := hs
  exact NX.fin (v := .tuple #[.int .i64 0, .int .i64 2]) (Res.still (by kernel_rfl)) tot htL ⟨a2, n2, c2, rfl, hR2, hB2⟩
 replace hs := of_if_f hs h2
 refine CP.seqR ?_
 refine WP.stl 2 ?_
 refine WP.len (a := a1) (cp := c1) hR1.len (by kernel_rfl) ?_
 refine WP.stl 5 ?_
 refine WP.dn ?_
 refine NX.then_n ?_
 refine CP.refr 44 [(0, .slice a1 n1 c1), (2, .pointer (some ⟨b2, 0, none⟩)), (6, .int .u64 x2), (7, .int .i64 x3), (26, .bool (decide (x2 > (IntKind.u64.wrap (IntKind.i64.wrap ((l1.length : Int) - x3))))))] (by kernel_rfl) (by kernel_rfl) ?_
 clear ds
 intro ds
 refine CP.cond (b := decide (x2 > (IntKind.u64.wrap (IntKind.i64.wrap ((l1.length : Int) - x3))))) (by kernel_rfl) (fun h3 => ?_) (fun h3 => ?_)
 ·replace hs := of_if_t hs h3
  refine CP.seqR ?_
  refine WP.stl 2 ?_
  refine WP.dn ?_
  refine NX.then_n ?_
  refine CP.ret ?_
  refine NX.block_r ?_
  refine NX.then_r ?_
  replace hs := Option.some.inj hs
  simp only [Prod.mk.injEq] at hs
  obtain ⟨rfl, rfl, rfl⟩ := hs
  exact NX.fin (v := .tuple #[.int .i64 0, .int .i64 4]) (Res.still (by kernel_rfl)) tot htL ⟨a2, n2, c2, rfl, hR2, hB2⟩
 replace hs := of_if_f hs h3
 refine CP.skip ?_
 refine NX.block_n ?_
 refine NX.then_n ?_
 refine CP.seqR ?_
 refine WP.stl 5 ?_
 refine WP.dn ?_
 refine NX.then_n ?_
 refine CP.seqR ?_
 refine WP.stl 3 ?_
 by_cases hc1 : (0 : Int) ≤ x3 ∧ x3 ≤ (IntKind.i64.wrap (x3 + (IntKind.i64.wrap x2))) ∧ (IntKind.i64.wrap (x3 + (IntKind.i64.wrap x2))) ≤ (l1.length : Int)
 case neg => rw [if_neg hc1] at hs; cases hs
 replace hs := of_if_p hs hc1
 refine WP.sliceR (lo := some (.int .i64 x3)) (hi := some (.int .i64 (IntKind.i64.wrap (x3 + (IntKind.i64.wrap x2))))) hR1 x3 (IntKind.i64.wrap (x3 + (IntKind.i64.wrap x2))) (by kernel_rfl) (.inr ⟨_, rfl⟩) (.inr ⟨_, rfl⟩) hc1 ?_
 intro a3 c3 hR3
 replace hs := Option.bind_eq_some_iff.1 hs
 obtain ⟨l3, hk2, hs⟩ := hs
 have hcal2 := P.slices_Clone_byte_byte g1 (t + 1) (sliceI l1 x3 (IntKind.i64.wrap (x3 + (IntKind.i64.wrap x2)))) a3 ((IntKind.i64.wrap (x3 + (IntKind.i64.wrap x2))).toNat - x3.toNat) c3 hR3 l3 hk2
 refine WP.callC hcal2 (by kernel_rfl) ?_
 rintro _ g2 st2 ⟨a4, n3, c4, rfl, hR4⟩
 replace hR1 := hR1.mono st2 (fun x => x)
 replace hB2 := hB2.mono st2 (fun x => x)
 replace hR2 := hR2.mono st2 (fun x => x) (fun x => x)
 replace hR3 := hR3.mono st2 (fun x => x)
 replace tot := tot.trans st2.pure
 refine WP.storeB (ty := 24) (off := 0) (v := .slice a4 n3 c4) hB2 [[.slice a4 n3 c4]] [1] (by kernel_rfl) (by kernel_rfl) rfl (by kernel_rfl) [[.slice a4 n3 c4]] (by kernel_rfl) (.one rfl .nil) ?_
 intro g3 st3 hB3
 replace hR1 := hR1.mono st3 (WL.no1 (by omega))
 replace hR4 := hR4.mono st3 (WL.no1 (by omega)) (WL.no1 (by omega))
 replace hR3 := hR3.mono st3 (WL.no1 (by omega))
 replace tot := tot.trans (st3.up1 (.inl (by simp [WL])))
 clear hB2
 have hB2 := hB3
 clear hB3
 refine WP.dn ?_
 refine NX.then_n ?_
 refine CP.seqR ?_
 refine WP.stl 3 ?_
 refine WP.dn ?_
 refine NX.then_n ?_
 refine CP.refr 44 [(4, .int .i64 (IntKind.i64.wrap (x3 + (IntKind.i64.wrap x2)))), (5, .int .i64 0)] (by kernel_rfl) (by kernel_rfl) ?_
 clear ds
 intro ds
 refine CP.ret ?_
 obtain ⟨g4, hw1, st4, hnew⟩ := hR4.relab (by omega) m2
 refine NX.regw hw1 ?_
 replace hB2 := hB2.mono st4 (WL.no1 (by omega))
 replace tot := tot.trans (st4.up1 (.inr (by omega)))
 clear hR4
 have hR4 := hnew
 clear hnew
 replace hs := Option.some.inj hs
 simp only [Prod.mk.injEq] at hs
 obtain ⟨rfl, rfl, rfl⟩ := hs
 exact NX.fin (v := .tuple #[.int .i64 (IntKind.i64.wrap (x3 + (IntKind.i64.wrap x2))), .int .i64 0]) (Res.still (by kernel_rfl)) tot htL ⟨a4, n3, c4, rfl, hR4, hB2⟩
def F.octet_Reader_read_2 (l1 : List Int) (x1 : Int) (x2 : Int) (l2 : List Int) : Option (Bool × (List Int) × Int × (List Int)) := (if (x1 != 0) = true then (some (false, l1, x1, l2)) else ((F.octet_Reader_Bytes_1_2 l1 x2 l2).bind fun (x3, x4, d1) => (if (x4 != 0) = true then (some (false, l1, x4, d1)) else (if (0 : Int) ≤ x3 ∧ x3 ≤ (l1.length : Int) ∧ (l1.length : Int) ≤ (l1.length : Int) then (some (true, (sliceI l1 x3 (l1.length : Int)), x1, d1)) else none))))
theorem P.octet_Reader_read_2 (g0 : GW) (m0 : Nat) (m1 : Nat) (m2 : Nat) (m3 : Nat) (l1 : List Int) (x1 : Int) (x2 : Int) (l2 : List Int) (a1 : Option Addr) (n1 : Nat) (c1 : Nat) (a2 : Option Addr) (n2 : Nat) (c2 : Nat) (b1 : Nat) (b2 : Nat) (b3 : Nat) (hR1 : RdS (Kd.int .u8) g0 5 a1 n1 c1 l1) (hR2 : OwnS (Kd.int .u8) g0 m3 5 a2 n2 c2 l2) (hB1 : Box g0 m0 b1 126 [[.slice a1 n1 c1], [.int .i64 x1]] [1, 1]) (hB2 : Box g0 m1 b2 3 [[.int .i64 x2]] [1]) (hB3 : Box g0 m2 b3 24 [[.slice a2 n2 c2]] [1]) (hm1_0 : m1 ≠ m0) (hm2_0 : m2 ≠ m0) (hm2_1 : m2 ≠ m1) (hm3_0 : m3 ≠ m0) (hm3_1 : m3 ≠ m1) (hm3_2 : m3 ≠ m2) (hm0 : m0 ≠ 0) (hm1 : m1 ≠ 0) (hm2 : m2 ≠ 0) (hm3 : m3 ≠ 0) (o1 : Bool) (o2 : (List Int)) (o3 : Int) (o4 : (List Int)) (hs : F.octet_Reader_read_2 l1 x1 x2 l2 = some (o1, o2, o3, o4)) :
  Calls Try.prog 73 #[.pointer (some ⟨b1, 0, none⟩), .func (.func 74) #[] #[.pointer (some ⟨b2, 0, none⟩), .pointer (some ⟨b3, 0, none⟩)]] g0.w (Ret (WL [m0, m2, m3]) g0 fun v g => ∃ (a_1 : Option Addr) (n_1 : Nat) (c_1 : Nat) (a_4 : Option Addr) (n_4 : Nat) (c_4 : Nat), v = .bool o1 ∧ RdS (Kd.int .u8) g 5 a_1 n_1 c_1 o2 ∧ Box g m0 b1 126 [[.slice a_1 n_1 c_1], [.int .i64 o3]] [1, 1] ∧ OwnS (Kd.int .u8) g m3 5 a_4 n_4 c_4 o4 ∧ Box g m2 b3 24 [[.slice a_4 n_4 c_4]] [1]) := by
 refine calls_of (args := [.pointer (some ⟨b1, 0, none⟩), .func (.func 74) #[] #[.pointer (some ⟨b2, 0, none⟩), .pointer (some ⟨b3, 0, none⟩)]]) Try.func73 rfl (m0 + m1 + m2 + m3 + 0) ?_
 intro t ht htL
 refine ⟨_, rfl, ?_⟩
 refine CP.refr 40 [(0, .pointer (some ⟨b1, 0, none⟩)), (1, .func (.func 74) #[] #[.pointer (some ⟨b2, 0, none⟩), .pointer (some ⟨b3, 0, none⟩)])] (by kernel_rfl) (by kernel_rfl) ?_
 intro ds
 have tot : Step (fun l => (WL [m0, m2, m3]) l ∨ t ≤ l) g0 g0 := Step.refl _ _
 unfold F.octet_Reader_read_2 at hs
 refine CP.seqR ?_
 refine WP.stl 1 ?_
 refine WP.dn ?_
 refine NX.then_n ?_
 refine CP.seq ?_
 refine CP.seq ?_
 refine CP.region ?_
 refine WP.stl 6 ?_
 refine WP.loadB (v := .int .i64 x1) hB1 (by kernel_rfl) (by kernel_rfl) ?_
 refine WP.stl 2 ?_
 refine WP.dn ?_
 refine NX.then_n ?_
 refine CP.cond (b := (x1 != 0)) (by kernel_rfl) (fun h1 => ?_) (fun h1 => ?_)
 ·replace hs := of_if_t hs h1
  refine CP.seqR ?_
  refine WP.stl 1 ?_
  refine WP.dn ?_
  refine NX.then_n ?_
  refine CP.ret ?_
  refine NX.then_r ?_
  replace hs := Option.some.inj hs
  simp only [Prod.mk.injEq] at hs
  obtain ⟨rfl, rfl, rfl, rfl⟩ := hs
  exact NX.fin (v := .bool false) (Res.still (by kernel_rfl)) tot htL ⟨a1, n1, c1, a2, n2, c2, rfl, hR1, hB1, hR2, hB3⟩
 replace hs := of_if_f hs h1
 refine CP.skip ?_
 refine NX.then_n ?_
 refine CP.seqR ?_
 refine WP.stl 4 ?_
 refine WP.loadB (v := .slice a1 n1 c1) hB1 (by kernel_rfl) (by kernel_rfl) ?_
 replace hs := Option.bind_eq_some_iff.1 hs
 obtain ⟨⟨x3, x4, d1⟩, hk1, hs⟩ := hs
 dsimp only at hs
 have hcal1 := P.octet_Reader_Bytes_1_2 g0 m1 m2 m3 l1 x2 l2 a1 n1 c1 a2 n2 c2 b2 b3 hR1 hR2 hB2 hB3 (by omega) (by omega) (by omega) (by omega) (by omega) (by omega) x3 x4 d1 hk1
 refine WP.callC hcal1 (by kernel_rfl) ?_
 rintro _ g1 st1 ⟨a3, n3, c3, rfl, hR3, hB4⟩
 replace hB1 := hB1.mono st1 (WL.no2 (by omega) (by omega))
 replace hR1 := hR1.mono st1 (WL.no2 (by omega) (by omega))
 replace hB2 := hB2.mono st1 (WL.no2 (by omega) (by omega))
 replace tot := tot.trans (st1.up2 (.inl (by simp [WL])) (.inl (by simp [WL])))
 clear hB3
 have hB3 := hB4
 clear hB4
 refine WP.stl 5 ?_
 refine WP.dn ?_
 refine NX.then_n ?_
 refine CP.refr 40 [(0, .pointer (some ⟨b1, 0, none⟩)), (5, .int .i64 x3), (6, .int .i64 x4)] (by kernel_rfl) (by kernel_rfl) ?_
 clear ds
 intro ds
 refine CP.seq ?_
 refine CP.seqR ?_
 refine WP.stl 2 ?_
 refine WP.dn ?_
 refine NX.then_n ?_
 refine CP.cond (b := (x4 != 0)) (by kernel_rfl) (fun h2 => ?_) (fun h2 => ?_)
 ·replace hs := of_if_t hs h2
  refine CP.seqR ?_
  refine WP.stl 4 ?_
  refine WP.storeB (ty := 43) (off := 1) (v := .int .i64 x4) hB1 [[.int .i64 x4]] [1] (by kernel_rfl) (by kernel_rfl) rfl (by kernel_rfl) [[.slice a1 n1 c1], [.int .i64 x4]] (by kernel_rfl) (.one rfl .nil) ?_
  intro g2 st2 hB5
  replace hR1 := hR1.mono st2 (WL.no1 (by omega))
  replace hB3 := hB3.mono st2 (WL.no1 (by omega))
  replace hR3 := hR3.mono st2 (WL.no1 (by omega)) (WL.no1 (by omega))
  replace tot := tot.trans (st2.up1 (.inl (by simp [WL])))
  clear hB1
  have hB1 := hB5
  clear hB5
  refine WP.dn ?_
  refine NX.then_n ?_
  refine CP.seqR ?_
  refine WP.stl 1 ?_
  refine WP.dn ?_
  refine NX.then_n ?_
  refine CP.ret ?_
  refine NX.then_r ?_
  replace hs := Option.some.inj hs
  simp only [Prod.mk.injEq] at hs
  obtain ⟨rfl, rfl, rfl, rfl⟩ := hs
  exact NX.fin (v := .bool false) (Res.still (by kernel_rfl)) tot htL ⟨a1, n1, c1, a3, n3, c3, rfl, hR1, hB1, hR3, hB3⟩
 replace hs := of_if_f hs h2
 refine CP.skip ?_
 refine NX.then_n ?_
 refine CP.seqR ?_
 refine WP.stl 4 ?_
 refine WP.loadB (v := .slice a1 n1 c1) hB1 (by kernel_rfl) (by kernel_rfl) ?_
 refine WP.stl 1 ?_
 by_cases hc1 : (0 : Int) ≤ x3 ∧ x3 ≤ (l1.length : Int) ∧ (l1.length : Int) ≤ (l1.length : Int)
 case neg => rw [if_neg hc1] at hs; cases hs
 replace hs := of_if_p hs hc1
 refine WP.sliceR (lo := some (.int .i64 x3)) (hi := none) hR1 x3 (l1.length : Int) (by kernel_rfl) (.inr ⟨_, rfl⟩) (.inl ⟨rfl, rfl⟩) hc1 ?_
 intro a4 c4 hR4
 refine WP.stl 2 ?_
 refine WP.storeB (ty := 24) (off := 0) (v := .slice a4 ((l1.length : Int).toNat - x3.toNat) c4) hB1 [[.slice a4 ((l1.length : Int).toNat - x3.toNat) c4]] [1] (by kernel_rfl) (by kernel_rfl) rfl (by kernel_rfl) [[.slice a4 ((l1.length : Int).toNat - x3.toNat) c4], [.int .i64 x1]] (by kernel_rfl) (.one rfl .nil) ?_
 intro g3 st3 hB6
 replace hR4 := hR4.mono st3 (WL.no1 (by omega))
 replace hB3 := hB3.mono st3 (WL.no1 (by omega))
 replace hR3 := hR3.mono st3 (WL.no1 (by omega)) (WL.no1 (by omega))
 replace hR1 := hR1.mono st3 (WL.no1 (by omega))
 replace tot := tot.trans (st3.up1 (.inl (by simp [WL])))
 clear hB1
 have hB1 := hB6
 clear hB6
 refine WP.dn ?_
 refine NX.then_n ?_
 refine CP.seqR ?_
 refine WP.stl 1 ?_
 refine WP.dn ?_
 refine NX.then_n ?_
 refine CP.refr 40 [(4, .bool true)] (by kernel_rfl) (by kernel_rfl) ?_
 clear ds
 intro ds
 refine CP.ret ?_
 replace hs := Option.some.inj hs
 simp only [Prod.mk.injEq] at hs
 obtain ⟨rfl, rfl, rfl, rfl⟩ := hs
 exact NX.fin (v := .bool true) (Res.still (by kernel_rfl)) tot htL ⟨a4, ((l1.length : Int).toNat - x3.toNat), c4, a3, n3, c3, rfl, hR4, hB1, hR3, hB3⟩
def F.octet_Reader_Bytes (l1 : List Int) (x1 : Int) (x2 : Int) : Option ((List Int) × (List Int) × Int) := ((F.octet_Reader_read_2 l1 x1 x2 ([])).bind fun (q1, d1, x3, d2) => (if (!q1) = true then (some ([], d1, x3)) else (some (d2, d1, x3))))
theorem P.octet_Reader_Bytes (g0 : GW) (m0 : Nat) (r0 : Nat) (l1 : List Int) (x1 : Int) (x2 : Int) (a1 : Option Addr) (n1 : Nat) (c1 : Nat) (b1 : Nat) (hR1 : RdS (Kd.int .u8) g0 5 a1 n1 c1 l1) (hB1 : Box g0 m0 b1 126 [[.slice a1 n1 c1], [.int .i64 x1]] [1, 1]) (hm0 : m0 ≠ 0) (o1 : List Int) (o2 : (List Int)) (o3 : Int) (hs : F.octet_Reader_Bytes l1 x1 x2 = some (o1, o2, o3)) :
  Calls Try.prog 53 #[.pointer (some ⟨b1, 0, none⟩), .int .i64 x2] g0.w (Ret (WL [m0]) g0 fun v g => ∃ (a_1 : Option Addr) (n_1 : Nat) (c_1 : Nat) (a_4 : Option Addr) (n_4 : Nat) (c_4 : Nat), v = .slice a_1 n_1 c_1 ∧ OwnS (Kd.int .u8) g r0 5 a_1 n_1 c_1 o1 ∧ RdS (Kd.int .u8) g 5 a_4 n_4 c_4 o2 ∧ Box g m0 b1 126 [[.slice a_4 n_4 c_4], [.int .i64 o3]] [1, 1]) := by
 refine calls_of (args := [.pointer (some ⟨b1, 0, none⟩), .int .i64 x2]) Try.func53 rfl (m0 + r0 + 0) ?_
 intro t ht htL
 refine ⟨_, rfl, ?_⟩
 refine CP.refr 13 [(0, .pointer (some ⟨b1, 0, none⟩)), (1, .int .i64 x2)] (by kernel_rfl) (by kernel_rfl) ?_
 intro ds
 have tot : Step (fun l => (WL [m0]) l ∨ t ≤ l) g0 g0 := Step.refl _ _
 unfold F.octet_Reader_Bytes at hs
 refine CP.seqR ?_
 refine WP.alloc (T := 3) (t + 1) [[.int .i64 x2]] [1] (by kernel_rfl) rfl ?_
 intro g1 b2 st1 hB2
 replace hB1 := hB1.mono st1 (fun x => x)
 replace hR1 := hR1.mono st1 (fun x => x)
 replace tot := tot.trans st1.pure
 refine WP.stl 1 ?_
 refine WP.dn ?_
 refine NX.then_n ?_
 refine CP.seqR ?_
 refine WP.alloc (T := 24) (t + 2) [[.slice none 0 0]] [1] (by kernel_rfl) rfl ?_
 intro g2 b3 st2 hB3
 replace hB1 := hB1.mono st2 (fun x => x)
 replace hR1 := hR1.mono st2 (fun x => x)
 replace hB2 := hB2.mono st2 (fun x => x)
 replace tot := tot.trans st2.pure
 refine WP.dn ?_
 refine NX.then_n ?_
 refine CP.seqR ?_
 refine WP.stl 2 ?_
 replace hs := Option.bind_eq_some_iff.1 hs
 obtain ⟨⟨q1, d1, x3, d2⟩, hk1, hs⟩ := hs
 dsimp only at hs
 have hcal1 := P.octet_Reader_read_2 g2 m0 (t + 1) (t + 2) (t + 3) l1 x1 x2 ([]) a1 n1 c1 none 0 0 b1 b2 b3 hR1 (OwnS.nil _ _ _ _) hB1 hB2 hB3 (by omega) (by omega) (by omega) (by omega) (by omega) (by omega) (by omega) (by omega) (by omega) (by omega) q1 d1 x3 d2 hk1
 refine WP.callC hcal1 (by kernel_rfl) ?_
 rintro _ g3 st3 ⟨a2, n2, c2, a3, n3, c3, rfl, hR2, hB4, hR3, hB5⟩
 replace hB2 := hB2.mono st3 (WL.no3 (by omega) (by omega) (by omega))
 replace tot := tot.trans (st3.up3 (.inl (by simp [WL])) (.inr (by omega)) (.inr (by omega)))
 clear hB1
 have hB1 := hB4
 clear hB4
 clear hB3
 have hB3 := hB5
 clear hB5
 refine WP.stl 1 ?_
 refine WP.dn ?_
 refine NX.then_n ?_
 refine CP.seq ?_
 refine CP.seqR ?_
 refine WP.stl 2 ?_
 refine WP.dn ?_
 refine NX.then_n ?_
 refine CP.cond (b := (!q1)) (by kernel_rfl) (fun h1 => ?_) (fun h1 => ?_)
 ·replace hs := of_if_t hs h1
  refine CP.seqR ?_
  refine WP.stl 1 ?_
  refine WP.dn ?_
  refine NX.then_n ?_
  refine CP.ret ?_
  refine NX.then_r ?_
  replace hs := Option.some.inj hs
  simp only [Prod.mk.injEq] at hs
  obtain ⟨rfl, rfl, rfl⟩ := hs
  exact NX.fin (v := .slice none 0 0) (Res.still (by kernel_rfl)) tot htL ⟨none, 0, 0, a2, n2, c2, rfl, (OwnS.nil _ _ _ _), hR2, hB1⟩
 replace hs := of_if_f hs h1
 refine CP.skip ?_
 refine NX.then_n ?_
 refine CP.seqR ?_
 refine WP.loadB (v := .slice a3 n3 c3) hB3 (by kernel_rfl) (by kernel_rfl) ?_
 refine WP.stl 1 ?_
 refine WP.dn ?_
 refine NX.then_n ?_
 refine CP.ret ?_
 obtain ⟨g4, hw1, st4, hnew⟩ := hR3.relab (by omega) r0
 refine NX.regw hw1 ?_
 replace hB1 := hB1.mono st4 (WL.no1 (by omega))
 replace hR2 := hR2.mono st4 (WL.no1 (by omega))
 replace tot := tot.trans (st4.up1 (.inr (by omega)))
 clear hR3
 have hR3 := hnew
 clear hnew
 replace hs := Option.some.inj hs
 simp only [Prod.mk.injEq] at hs
 obtain ⟨rfl, rfl, rfl⟩ := hs
 exact NX.fin (v := .slice a3 n3 c3) (Res.still (by kernel_rfl)) tot htL ⟨a3, n3, c3, a2, n2, c2, rfl, hR3, hR2, hB1⟩
def F.octet_Reader_Err (l1 : List Int) (x1 : Int) : Option (Int) := (some x1)
theorem P.octet_Reader_Err (g0 : GW) (m0 : Nat) (l1 : List Int) (x1 : Int) (a1 : Option Addr) (n1 : Nat) (c1 : Nat) (b1 : Nat) (hR1 : RdS (Kd.int .u8) g0 5 a1 n1 c1 l1) (hB1 : Box g0 m0 b1 126 [[.slice a1 n1 c1], [.int .i64 x1]] [1, 1]) (hm0 : m0 ≠ 0) (o1 : Int) (hs : F.octet_Reader_Err l1 x1 = some o1) :
  Calls Try.prog 51 #[.pointer (some ⟨b1, 0, none⟩)] g0.w (Ret NoM g0 fun v g => v = .int .i64 o1) := by
 refine calls_of (args := [.pointer (some ⟨b1, 0, none⟩)]) Try.func51 rfl (m0 + 0) ?_
 intro t ht htL
 refine ⟨_, rfl, ?_⟩
 refine CP.refr 9 [(0, .pointer (some ⟨b1, 0, none⟩))] (by kernel_rfl) (by kernel_rfl) ?_
 intro ds
 have tot : Step (fun l => NoM l ∨ t ≤ l) g0 g0 := Step.refl _ _
 unfold F.octet_Reader_Err at hs
 refine CP.seqR ?_
 refine WP.stl 1 ?_
 refine WP.dn ?_
 refine NX.then_n ?_
 refine CP.seq ?_
 refine CP.seqR ?_
 refine WP.stl 2 ?_
 refine WP.dn ?_
 refine NX.then_n ?_
 refine CP.cond_f (by kernel_rfl) ?_
 refine CP.skip ?_
 refine NX.then_n ?_
 refine CP.seqR ?_
 refine WP.stl 3 ?_
 refine WP.loadB (v := .int .i64 x1) hB1 (by kernel_rfl) (by kernel_rfl) ?_
 refine WP.stl 1 ?_
 refine WP.dn ?_
 refine NX.then_n ?_
 refine CP.ret ?_
 replace hs := Option.some.inj hs
 obtain rfl := hs
 exact NX.fin (v := .int .i64 x1) (Res.still (by kernel_rfl)) tot htL rfl
def F.state_Decode_2_2 (l1 : List Int) (x1 : Int) (d1 : Arr Int 8) (x2 : Int) (l2 : List Int) (l3 : List (List Int)) : Option (Bool × (List Int) × Int × (Arr Int 8) × Int × (List Int) × (List (List Int))) := ((F.octet_Reader_Bytes l1 x1 8).bind fun (l4, d2, x3) => (some (((l4.length : Int) == 8), d2, x3, (copyA d1 l4), x2, l2, l3)))
theorem P.state_Decode_2_2 (g0 : GW) (m0 : Nat) (m1 : Nat) (m2 : Nat) (m3 : Nat) (m4 : Nat) (l1 : List Int) (x1 : Int) (d1 : Arr Int 8) (x2 : Int) (l2 : List Int) (l3 : List (List Int)) (a1 : Option Addr) (n1 : Nat) (c1 : Nat) (a2 : Option Addr) (n2 : Nat) (c2 : Nat) (a3 : Option Addr) (n3 : Nat) (c3 : Nat) (b1 : Nat) (b2 : Nat) (b3 : Nat) (hR1 : RdS (Kd.int .u8) g0 5 a1 n1 c1 l1) (hR2 : OwnS (Kd.int .u8) g0 m3 5 a2 n2 c2 l2) (hR3 : OwnS (Kd.slice 5 (Kd.int .u8)) g0 m4 24 a3 n3 c3 l3) (hB1 : Box g0 m1 b2 126 [[.slice a1 n1 c1], [.int .i64 x1]] [1, 1]) (hB2 : Box g0 m0 b1 101 [[.pointer (some ⟨b2, 0, none⟩)]] [1]) (hB3 : Box g0 m2 b3 61 [encA .u8 d1, [.int .i64 x2], [.slice a2 n2 c2], [.slice a3 n3 c3]] [8, 1, 1, 1]) (hm1_0 : m1 ≠ m0) (hm2_0 : m2 ≠ m0) (hm2_1 : m2 ≠ m1) (hm3_0 : m3 ≠ m0) (hm3_1 : m3 ≠ m1) (hm3_2 : m3 ≠ m2) (hm4_0 : m4 ≠ m0) (hm4_1 : m4 ≠ m1) (hm4_2 : m4 ≠ m2) (hm4_3 : m4 ≠ m3) (hm0 : m0 ≠ 0) (hm1 : m1 ≠ 0) (hm2 : m2 ≠ 0) (hm3 : m3 ≠ 0) (hm4 : m4 ≠ 0) (o1 : Bool) (o2 : (List Int)) (o3 : Int) (o4 : (Arr Int 8)) (o5 : Int) (o6 : (List Int)) (o7 : (List (List Int))) (hs : F.state_Decode_2_2 l1 x1 d1 x2 l2 l3 = some (o1, o2, o3, o4, o5, o6, o7)) :
  Calls Try.prog 52 #[.pointer (some ⟨b1, 0, none⟩), .pointer (some ⟨b3, 0, none⟩)] g0.w (Ret (WL [m1, m2, m3, m4]) g0 fun v g => ∃ (a_1 : Option Addr) (n_1 : Nat) (c_1 : Nat) (a_4 : Option Addr) (n_4 : Nat) (c_4 : Nat) (a_7 : Option Addr) (n_7 : Nat) (c_7 : Nat), v = .bool o1 ∧ RdS (Kd.int .u8) g 5 a_1 n_1 c_1 o2 ∧ Box g m1 b2 126 [[.slice a_1 n_1 c_1], [.int .i64 o3]] [1, 1] ∧ OwnS (Kd.int .u8) g m3 5 a_4 n_4 c_4 o6 ∧ OwnS (Kd.slice 5 (Kd.int .u8)) g m4 24 a_7 n_7 c_7 o7 ∧ Box g m2 b3 61 [encA .u8 o4, [.int .i64 o5], [.slice a_4 n_4 c_4], [.slice a_7 n_7 c_7]] [8, 1, 1, 1]) := by
 refine calls_of (args := [.pointer (some ⟨b1, 0, none⟩), .pointer (some ⟨b3, 0, none⟩)]) Try.func52 rfl (m0 + m1 + m2 + m3 + m4 + 0) ?_
 intro t ht htL
 refine ⟨_, rfl, ?_⟩
 refine CP.refr 14 [(0, .pointer (some ⟨b1, 0, none⟩)), (1, .pointer (some ⟨b3, 0, none⟩))] (by kernel_rfl) (by kernel_rfl) ?_
 intro ds
 have tot : Step (fun l => (WL [m1, m2, m3, m4]) l ∨ t ≤ l) g0 g0 := Step.refl _ _
 unfold F.state_Decode_2_2 at hs
 refine CP.seqR ?_
 refine WP.stl 1 ?_
 refine WP.dn ?_
 refine NX.then_n ?_
 refine CP.seqR ?_
 refine WP.loadB (v := .pointer (some ⟨b2, 0, none⟩)) hB2 (by kernel_rfl) (by kernel_rfl) ?_
 replace hs := Option.bind_eq_some_iff.1 hs
 obtain ⟨⟨l4, d2, x3⟩, hk1, hs⟩ := hs
 dsimp only at hs
 have hcal1 := P.octet_Reader_Bytes g0 m1 (t + 1) l1 x1 8 a1 n1 c1 b2 hR1 hB1 (by omega) l4 d2 x3 hk1
 refine WP.callC hcal1 (by kernel_rfl) ?_
 rintro _ g1 st1 ⟨a4, n4, c4, a5, n5, c5, rfl, hR4, hR5, hB4⟩
 replace hB2 := hB2.mono st1 (WL.no1 (by omega))
 replace hB3 := hB3.mono st1 (WL.no1 (by omega))
 replace hR2 := hR2.mono st1 (WL.no1 (by omega)) (WL.no1 (by omega))
 replace hR3 := hR3.mono st1 (WL.no1 (by omega)) (WL.no1 (by omega))
 replace tot := tot.trans (st1.up1 (.inl (by simp [WL])))
 clear hB1
 have hB1 := hB4
 clear hB4
 refine WP.stl 1 ?_
 refine WP.dn ?_
 refine NX.then_n ?_
 refine CP.seqR ?_
 refine WP.stl 2 ?_
 refine WP.sliceN (t := 23) (e := 5) (m := 8) (size := 1) (b := b3) (o := 0) (by kernel_rfl) ?_
 refine WP.stl 1 ?_
 refine WP.copyB (o := 0) (m := 8) (k := .u8) (d := d1) hB3 (by kernel_rfl) (t := 24) (e := 5) (bytes := 1) (a := a4) (c2 := c4) hR4.src hR4.len (by kernel_rfl) (by kernel_rfl) hR4.none0 [encA .u8 (copyA d1 l4), [.int .i64 x2], [.slice a2 n2 c2], [.slice a3 n3 c3]] (by kernel_rfl) ?_
 intro g2 st2 hB5
 replace hR2 := hR2.mono st2 (WL.no1 (by omega)) (WL.no1 (by omega))
 replace hR3 := hR3.mono st2 (WL.no1 (by omega)) (WL.no1 (by omega))
 replace hB1 := hB1.mono st2 (WL.no1 (by omega))
 replace hR5 := hR5.mono st2 (WL.no1 (by omega))
 replace hR4 := hR4.mono st2 (WL.no1 (by omega)) (WL.no1 (by omega))
 replace tot := tot.trans (st2.up1 (.inl (by simp [WL])))
 clear hB3
 have hB3 := hB5
 clear hB5
 refine WP.dn ?_
 refine NX.then_n ?_
 refine CP.seqR ?_
 refine WP.stl 1 ?_
 refine WP.len (a := a4) (cp := c4) hR4.len (by kernel_rfl) ?_
 refine WP.stl 2 ?_
 refine WP.dn ?_
 refine NX.then_n ?_
 refine CP.refr 14 [(2, .bool ((l4.length : Int) == 8))] (by kernel_rfl) (by kernel_rfl) ?_
 clear ds
 intro ds
 refine CP.ret ?_
 replace hs := Option.some.inj hs
 simp only [Prod.mk.injEq] at hs
 obtain ⟨rfl, rfl, rfl, rfl, rfl, rfl, rfl⟩ := hs
 exact NX.fin (v := .bool ((l4.length : Int) == 8)) (Res.still (by kernel_rfl)) tot htL ⟨a5, n5, c5, a2, n2, c2, a3, n3, c3, rfl, hR5, hB1, hR2, hR3, hB3⟩
end Go.Proofs.Ythfmgobnanifnaa
