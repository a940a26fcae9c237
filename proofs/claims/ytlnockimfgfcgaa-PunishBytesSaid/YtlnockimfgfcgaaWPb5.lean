/-
  Walks, written by program: each Go function computes the plain function of its name, in whatever world its arguments' facts hold.
-/
import Derived.Test.YtlnockimfgfcgaaWPb4
namespace Go.Proofs.Ytlnockimfgfcgaa
open Go.RowKit Go.Lab
attribute [local irreducible] WP CP NX wpList Code.wp Calls
set_option maxRecDepth 100000
set_option maxHeartbeats 4000000
set_option linter.unusedVariables false

def N.slices_Equal_byte_byte_0 : List (List Nat) := [[], [], [0, 1], [0, 1, 2], [], [], [4, 5], [4, 5, 6], [0, 1, 2, 3, 4, 5, 6, 7]]
def F.slices_Equal_byte_byte.l1 (l1 : List Int) (l2 : List Int) : Nat → Int → Option (Bool)
 | 0, _ => none
 | k + 1, x1 => (if decide (x1 < (l1.length : Int)) = true then (if (0 : Int) ≤ x1 ∧ x1 < (l1.length : Int) then (if (0 : Int) ≤ x1 ∧ x1 < (l2.length : Int) then (if ((getI l1 x1) != (getI l2 x1)) = true then (some false) else (F.slices_Equal_byte_byte.l1 l1 l2 k (IntKind.i64.wrap (x1 + 1)))) else none) else none) else (some true))
def F.slices_Equal_byte_byte (l1 : List Int) (l2 : List Int) : Option (Bool) := (if ((l1.length : Int) != (l2.length : Int)) = true then (some false) else (F.slices_Equal_byte_byte.l1 l1 l2 fuel 0))
theorem P.slices_Equal_byte_byte (g0 : GW) (l1 : List Int) (l2 : List Int) (a1 : Option Addr) (n1 : Nat) (c1 : Nat) (a2 : Option Addr) (n2 : Nat) (c2 : Nat) (hR1 : RdS (Kd.int .u8) g0 5 a1 n1 c1 l1) (hR2 : RdS (Kd.int .u8) g0 5 a2 n2 c2 l2) (o1 : Bool) (hs : F.slices_Equal_byte_byte l1 l2 = some o1) :
  Calls Try.prog 57 #[.slice a1 n1 c1, .slice a2 n2 c2] g0.w (Ret NoM g0 fun v g => v = .bool o1) := by
 refine calls_of (args := [.slice a1 n1 c1, .slice a2 n2 c2]) Try.func57 rfl (0) ?_
 intro t ht htL
 refine ⟨_, rfl, ?_⟩
 refine CP.refr 26 [(0, .slice a1 n1 c1), (1, .slice a2 n2 c2)] (by kernel_rfl) (by kernel_rfl) ?_
 intro ds
 have tot : Step (fun l => NoM l ∨ t ≤ l) g0 g0 := Step.refl _ _
 unfold F.slices_Equal_byte_byte at hs
 refine CP.seqR ?_
 refine WP.stl 1 ?_
 refine WP.dn ?_
 refine NX.then_n ?_
 refine CP.seq ?_
 refine CP.seqR ?_
 refine WP.stl 1 ?_
 refine WP.len (a := a1) (cp := c1) hR1.len (by kernel_rfl) ?_
 refine WP.stl 1 ?_
 refine WP.len (a := a2) (cp := c2) hR2.len (by kernel_rfl) ?_
 refine WP.stl 1 ?_
 refine WP.dn ?_
 refine NX.then_n ?_
 refine CP.cond (b := ((l1.length : Int) != (l2.length : Int))) (by kernel_rfl) (fun h1 => ?_) (fun h1 => ?_)
 ·replace hs := of_if_t hs h1
  refine CP.seqR ?_
  refine WP.stl 1 ?_
  refine WP.dn ?_
  refine NX.then_n ?_
  refine CP.ret ?_
  refine NX.then_r ?_
  replace hs := Option.some.inj hs
  obtain rfl := hs
  exact NX.fin (v := .bool false) (Res.still (by kernel_rfl)) tot htL rfl
 replace hs := of_if_f hs h1
 refine CP.skip ?_
 refine NX.then_n ?_
 refine CP.seq ?_
 refine CP.seqR ?_
 refine WP.stl 1 ?_
 refine WP.len (a := a1) (cp := c1) hR1.len (by kernel_rfl) ?_
 refine WP.stl 1 ?_
 refine WP.dn ?_
 refine NX.then_n ?_
 refine CP.block ?_
 generalize fuel = k1 at hs
 refine CP.loop (fun k1 tm g => ∃ (x1 : Int), Fr 26 [(0, .slice a1 n1 c1), (1, .slice a2 n2 c2), (12, .int .i64 (l1.length : Int)), (13, .int .i64 x1)] tm ∧ Step (fun l => NoM l ∨ t ≤ l) g0 g ∧ RdS (Kd.int .u8) g 5 a1 n1 c1 l1 ∧ RdS (Kd.int .u8) g 5 a2 n2 c2 l2 ∧ F.slices_Equal_byte_byte.l1 l1 l2 k1 x1 = some o1) k1 ?_ ?_ ?_
 ·exact ⟨0, ⟨by kernel_rfl, by kernel_rfl⟩, tot, hR1, hR2, hs⟩
 ·rintro tm g ⟨x1, hF, tot, hR1, hR2, hs⟩
  exact absurd hs (by simp [F.slices_Equal_byte_byte.l1])
 clear tot hs hR1 hR2
 rintro k1 tm g ⟨x1, hF, tot, hR1, hR2, hs⟩
 clear ds
 obtain ⟨ds, rfl⟩ := hF.open
 clear hF
 unfold F.slices_Equal_byte_byte.l1 at hs
 refine CP.seqR ?_
 refine WP.stl 1 ?_
 refine WP.dn ?_
 refine NX.then_n ?_
 refine CP.seq ?_
 refine CP.cond (b := decide (x1 < (l1.length : Int))) (by kernel_rfl) (fun h6 => ?_) (fun h6 => ?_)
 ·replace hs := of_if_t hs h6
  refine CP.skip ?_
  refine NX.then_n ?_
  refine CP.seq ?_
  refine CP.block ?_
  refine CP.seqR ?_
  refine WP.stl 2 ?_
  refine WP.dn ?_
  refine NX.then_n ?_
  refine CP.seq ?_
  by_cases hc5 : (0 : Int) ≤ x1 ∧ x1 < (l1.length : Int)
  case neg => rw [if_neg hc5] at hs; cases hs
  replace hs := of_if_p hs hc5
  by_cases hc6 : (0 : Int) ≤ x1 ∧ x1 < (l2.length : Int)
  case neg => rw [if_neg hc6] at hs; cases hs
  replace hs := of_if_p hs hc6
  obtain ⟨b5, u5, ha5⟩ := hR1.at hc5
  obtain ⟨b6, u6, ha6⟩ := hR2.at hc6
  refine CP.drawL (by kernel_rfl) [2, 3, 6, 7] N.slices_Equal_byte_byte_0 [⟨none, [], [], fun l g => RdS (Kd.int .u8) g 5 a1 n1 c1 l1⟩, ⟨none, [], [], fun l g => RdS (Kd.int .u8) g 5 a2 n2 c2 l2⟩, ⟨some 0, [], [0], fun l g => l.getD 0 undef = .pointer (some ⟨b5, u5 + x1.toNat * 1, none⟩)⟩, ⟨some 1, [], [1], fun l g => l.getD 0 undef = .int .u8 (getI l1 x1)⟩, ⟨some 2, [], [2], fun l g => l.getD 0 undef = .pointer (some ⟨b6, u6 + x1.toNat * 1, none⟩)⟩, ⟨some 3, [], [3], fun l g => l.getD 0 undef = .int .u8 (getI l2 x1)⟩] [[], [], [], []] [] [0, 1, 4, 5] [8] (by kernel_rfl) (by simp) (by simp) ⟨fun _ _ _ _ st h0 hl hj hR1 => (RdS.mono (e := 5) hR1 st h0), fun _ _ _ _ st h0 hl hj hR2 => (RdS.mono (e := 5) hR2 st h0), fun _ _ _ _ st h0 hl hj e0 => e0, fun _ _ _ _ st h0 hl hj e1 => e1, fun _ _ _ _ st h0 hl hj e2 => e2, fun _ _ _ _ st h0 hl hj e3 => e3, tv⟩ ⟨hR1, hR2, tv, tv, tv, tv, tv⟩ (by kernel_rfl) (fun vs => by kernel_rfl) ?_ ?_ ?_
  ·intro j hj
   have hq : j = 0 := by have h : j < 1 := hj; omega
   rcases hq with rfl
   ·intro vs gq stq hl hf
    obtain ⟨v0, v1, v2, v3, rfl⟩ := len_k4 hl
    have e1 := (show v1 = .int .u8 (getI l1 x1) from hf _ (memI 3 rfl) (by kernel_rfl))
    subst e1
    have e3 := (show v3 = .int .u8 (getI l2 x1) from hf _ (memI 5 rfl) (by kernel_rfl))
    subst e3
    show Option.isSome _ = true
    kernel_rfl
  ·intro j hj
   have hq : j = 0 ∨ j = 1 ∨ j = 2 ∨ j = 3 := by have h : j < 4 := hj; omega
   rcases hq with rfl | rfl | rfl | rfl
   ·intro vs gq stq hl hf
    obtain ⟨v0, v1, v2, v3, rfl⟩ := len_k4 hl
    have hR1 := (show RdS (Kd.int .u8) gq 5 a1 n1 c1 l1 from hf _ (memI 0 rfl) (by kernel_rfl))
    refine WP.indexA (t := 33) (e := 5) (sz := 1) (cap := c1) (k := .i64) (i := x1) hR1.len ha5 (by kernel_rfl) (by kernel_rfl) hc5 ?_
    refine WP.dn (Shown.ok (v := .pointer (some ⟨b5, u5 + x1.toNat * 1, none⟩)) (by kernel_rfl) (Step.refl _ _) ?_)
    exact ⟨tv, tv, rfl, tv, tv, tv, tv⟩
   ·intro vs gq stq hl hf
    obtain ⟨v0, v1, v2, v3, rfl⟩ := len_k4 hl
    have hR1 := (show RdS (Kd.int .u8) gq 5 a1 n1 c1 l1 from hf _ (memI 0 rfl) (by kernel_rfl))
    have e0 := (show v0 = .pointer (some ⟨b5, u5 + x1.toNat * 1, none⟩) from hf _ (memI 2 rfl) (by kernel_rfl))
    subst e0
    obtain ⟨cs5, hcR5, hcV5⟩ := hR1.src.view (getI_some hc5) ha5
    replace hcR5 := Kd.o_int hcR5
    refine WP.loadV [[.int .u8 (getI l1 x1)]] [1] hcV5 hcR5 rfl (f := 0) (ty := 5) (agg := false) (size := 1) (rs := [[.int .u8 (getI l1 x1)]]) (v := .int .u8 (getI l1 x1)) (by kernel_rfl) (by kernel_rfl) (by kernel_rfl) (by kernel_rfl) ?_
    refine WP.dn (Shown.ok (v := .int .u8 (getI l1 x1)) (by kernel_rfl) (Step.refl _ _) ?_)
    exact ⟨tv, tv, tv, rfl, tv, tv, tv⟩
   ·intro vs gq stq hl hf
    obtain ⟨v0, v1, v2, v3, rfl⟩ := len_k4 hl
    have hR2 := (show RdS (Kd.int .u8) gq 5 a2 n2 c2 l2 from hf _ (memI 1 rfl) (by kernel_rfl))
    refine WP.indexA (t := 33) (e := 5) (sz := 1) (cap := c2) (k := .i64) (i := x1) hR2.len ha6 (by kernel_rfl) (by kernel_rfl) hc6 ?_
    refine WP.dn (Shown.ok (v := .pointer (some ⟨b6, u6 + x1.toNat * 1, none⟩)) (by kernel_rfl) (Step.refl _ _) ?_)
    exact ⟨tv, tv, tv, tv, rfl, tv, tv⟩
   ·intro vs gq stq hl hf
    obtain ⟨v0, v1, v2, v3, rfl⟩ := len_k4 hl
    have hR2 := (show RdS (Kd.int .u8) gq 5 a2 n2 c2 l2 from hf _ (memI 1 rfl) (by kernel_rfl))
    have e2 := (show v2 = .pointer (some ⟨b6, u6 + x1.toNat * 1, none⟩) from hf _ (memI 4 rfl) (by kernel_rfl))
    subst e2
    obtain ⟨cs6, hcR6, hcV6⟩ := hR2.src.view (getI_some hc6) ha6
    replace hcR6 := Kd.o_int hcR6
    refine WP.loadV [[.int .u8 (getI l2 x1)]] [1] hcV6 hcR6 rfl (f := 0) (ty := 5) (agg := false) (size := 1) (rs := [[.int .u8 (getI l2 x1)]]) (v := .int .u8 (getI l2 x1)) (by kernel_rfl) (by kernel_rfl) (by kernel_rfl) (by kernel_rfl) ?_
    refine WP.dn (Shown.ok (v := .int .u8 (getI l2 x1)) (by kernel_rfl) (Step.refl _ _) ?_)
    exact ⟨tv, tv, tv, tv, tv, rfl, tv⟩
  intro vs g1 st1 hl hf
  obtain ⟨v0, v1, v2, v3, rfl⟩ := len_k4 hl
  have e1 := (show v1 = .int .u8 (getI l1 x1) from hf _ (memI 3 rfl) (by kernel_rfl))
  subst e1
  have e3 := (show v3 = .int .u8 (getI l2 x1) from hf _ (memI 5 rfl) (by kernel_rfl))
  subst e3
  replace hR1 := hR1.mono st1.toNo (fun x => x)
  replace hR2 := hR2.mono st1.toNo (fun x => x)
  replace tot := tot.trans st1.toNo.pure
  refine NX.then_n ?_
  refine CP.refr 26 [(0, .slice a1 n1 c1), (1, .slice a2 n2 c2), (12, .int .i64 (l1.length : Int)), (13, .int .i64 x1), (24, .bool ((getI l1 x1) != (getI l2 x1)))] (by kernel_rfl) (by kernel_rfl) ?_
  clear ds
  intro ds
  refine CP.cond (b := ((getI l1 x1) != (getI l2 x1))) (by kernel_rfl) (fun h7 => ?_) (fun h7 => ?_)
  ·replace hs := of_if_t hs h7
   refine CP.seqR ?_
   refine WP.stl 1 ?_
   refine WP.dn ?_
   refine NX.then_n ?_
   refine CP.ret ?_
   refine NX.block_r ?_
   refine NX.then_r ?_
   refine NX.then_r ?_
   refine NX.block_r ?_
   refine NX.then_r ?_
   replace hs := Option.some.inj hs
   obtain rfl := hs
   exact NX.fin (v := .bool false) (Res.still (by kernel_rfl)) tot htL rfl
  replace hs := of_if_f hs h7
  refine CP.skip ?_
  refine NX.block_n ?_
  refine NX.then_n ?_
  refine CP.region ?_
  refine WP.stl 2 ?_
  refine WP.dn ?_
  refine NX.post ?_
  exact ⟨(IntKind.i64.wrap (x1 + 1)), ⟨by kernel_rfl, by kernel_rfl⟩, tot, hR1, hR2, hs⟩
 replace hs := of_if_f hs h6
 refine CP.exit ?_
 refine NX.then_e ?_
 refine NX.then_e ?_
 refine NX.block_s ?_
 refine NX.then_n ?_
 refine CP.seqR ?_
 refine WP.stl 1 ?_
 refine WP.dn ?_
 refine NX.then_n ?_
 refine CP.ret ?_
 replace hs := Option.some.inj hs
 obtain rfl := hs
 exact NX.fin (v := .bool true) (Res.still (by kernel_rfl)) tot htL rfl
def F.punish_body_same.c1 (q2 : Bool) : Option (Bool) := (some q2)
def F.punish_body_same (d1 : Arr Int 8) (x1 : Int) (d2 : Arr Int 8) (l1 : List Int) (d3 : Arr Int 8) (x2 : Int) (d4 : Arr Int 8) (l2 : List Int) : Option (Bool) := (if (d1.1 == d3.1) = true then (if (x1 == x2) = true then (if (d2.1 == d4.1) = true then ((F.slices_Equal_byte_byte l1 l2).bind fun q3 => (F.punish_body_same.c1 q3)) else (F.punish_body_same.c1 false)) else (F.punish_body_same.c1 false)) else (F.punish_body_same.c1 false))
theorem P.punish_body_same (g0 : GW) (d1 : Arr Int 8) (x1 : Int) (d2 : Arr Int 8) (l1 : List Int) (d3 : Arr Int 8) (x2 : Int) (d4 : Arr Int 8) (l2 : List Int) (a1 : Option Addr) (n1 : Nat) (c1 : Nat) (a2 : Option Addr) (n2 : Nat) (c2 : Nat) (hR1 : RdS (Kd.int .u8) g0 5 a1 n1 c1 l1) (hR2 : RdS (Kd.int .u8) g0 5 a2 n2 c2 l2) (o1 : Bool) (hs : F.punish_body_same d1 x1 d2 l1 d3 x2 d4 l2 = some o1) :
  Calls Try.prog 56 #[AG [encA .u8 d1, [.int .i64 x1], encA .u8 d2, [.slice a1 n1 c1]], AG [encA .u8 d3, [.int .i64 x2], encA .u8 d4, [.slice a2 n2 c2]]] g0.w (Ret NoM g0 fun v g => v = .bool o1) := by
 refine calls_of (args := [AG [encA .u8 d1, [.int .i64 x1], encA .u8 d2, [.slice a1 n1 c1]], AG [encA .u8 d3, [.int .i64 x2], encA .u8 d4, [.slice a2 n2 c2]]]) Try.func56 rfl (0) ?_
 intro t ht htL
 refine ⟨_, rfl, ?_⟩
 refine CP.refr 31 [(0, AG [encA .u8 d1, [.int .i64 x1], encA .u8 d2, [.slice a1 n1 c1]]), (1, AG [encA .u8 d3, [.int .i64 x2], encA .u8 d4, [.slice a2 n2 c2]])] (by kernel_rfl) (by kernel_rfl) ?_
 intro ds
 have tot : Step (fun l => NoM l ∨ t ≤ l) g0 g0 := Step.refl _ _
 unfold F.punish_body_same at hs
 refine CP.seqR ?_
 refine WP.alloc (T := 91) (t + 1) [encA .u8 d1, [.int .i64 x1], encA .u8 d2, [.slice a1 n1 c1]] [8, 1, 8, 1] (by kernel_rfl) (by simp [len_encA]) ?_
 intro g1 b1 st1 hB1
 replace hR1 := hR1.mono st1 (fun x => x)
 replace hR2 := hR2.mono st1 (fun x => x)
 replace tot := tot.trans st1.pure
 refine WP.alloc (T := 91) (t + 2) [encA .u8 d3, [.int .i64 x2], encA .u8 d4, [.slice a2 n2 c2]] [8, 1, 8, 1] (by kernel_rfl) (by simp [len_encA]) ?_
 intro g2 b2 st2 hB2
 replace hR1 := hR1.mono st2 (fun x => x)
 replace hR2 := hR2.mono st2 (fun x => x)
 replace hB1 := hB1.mono st2 (fun x => x)
 replace tot := tot.trans st2.pure
 refine WP.stl 1 ?_
 refine WP.dn ?_
 refine NX.then_n ?_
 refine CP.cut (fun tm g => ∃ (q2 : Bool), Fr 31 [(4, .bool q2)] tm ∧ Step (fun l => NoM l ∨ t ≤ l) g0 g ∧ (F.punish_body_same.c1 q2) = some o1) ?_ ?_
 ·refine CP.region ?_
  refine WP.stl 1 ?_
  refine WP.loadB (v := AG [encA .u8 d1]) hB1 (by kernel_rfl) (by kernel_rfl) ?_
  refine WP.stl 1 ?_
  refine WP.loadB (v := AG [encA .u8 d3]) hB2 (by kernel_rfl) (by kernel_rfl) ?_
  refine WP.eqV (by kernel_rfl) (by kernel_rfl) (EqV.arr (d := 9998) (t := 37) (e := 5) (m := 8) (k := .u8) (x := d1) (y := d3) (by kernel_rfl) (by kernel_rfl)) ?_
  refine WP.stl 1 ?_
  refine WP.guard 10 (b := (d1.1 == d3.1)) (by kernel_rfl) (fun h4 => ?_) (fun h4 => ?_)
  ·replace hs := of_if_t hs h4
   refine WP.stl 1 ?_
   refine WP.loadB (v := .int .i64 x1) hB1 (by kernel_rfl) (by kernel_rfl) ?_
   refine WP.stl 1 ?_
   refine WP.loadB (v := .int .i64 x2) hB2 (by kernel_rfl) (by kernel_rfl) ?_
   refine WP.stl 3 ?_
   refine WP.guard 17 (b := (x1 == x2)) (by kernel_rfl) (fun h5 => ?_) (fun h5 => ?_)
   ·replace hs := of_if_t hs h5
    refine WP.stl 1 ?_
    refine WP.loadB (v := AG [encA .u8 d2]) hB1 (by kernel_rfl) (by kernel_rfl) ?_
    refine WP.stl 1 ?_
    refine WP.loadB (v := AG [encA .u8 d4]) hB2 (by kernel_rfl) (by kernel_rfl) ?_
    refine WP.eqV (by kernel_rfl) (by kernel_rfl) (EqV.arr (d := 9998) (t := 37) (e := 5) (m := 8) (k := .u8) (x := d2) (y := d4) (by kernel_rfl) (by kernel_rfl)) ?_
    refine WP.stl 2 ?_
    refine WP.guard 24 (b := (d2.1 == d4.1)) (by kernel_rfl) (fun h6 => ?_) (fun h6 => ?_)
    ·replace hs := of_if_t hs h6
     refine WP.stl 1 ?_
     refine WP.loadB (v := .slice a1 n1 c1) hB1 (by kernel_rfl) (by kernel_rfl) ?_
     refine WP.stl 1 ?_
     refine WP.loadB (v := .slice a2 n2 c2) hB2 (by kernel_rfl) (by kernel_rfl) ?_
     replace hs := Option.bind_eq_some_iff.1 hs
     obtain ⟨q3, hk2, hs⟩ := hs
     have hcal2 := P.slices_Equal_byte_byte g2 l1 l2 a1 n1 c1 a2 n2 c2 hR1 hR2 q3 hk2
     refine WP.callC hcal2 (by kernel_rfl) ?_
     rintro _ g4 st4 rfl
     replace hB1 := hB1.mono st4 (fun x => x)
     replace hR1 := hR1.mono st4 (fun x => x)
     replace hB2 := hB2.mono st4 (fun x => x)
     replace hR2 := hR2.mono st4 (fun x => x)
     replace tot := tot.trans st4.pure
     refine WP.stl 2 ?_
     refine WP.dn ?_
     refine NX.post ?_
     exact ⟨q3, ⟨by kernel_rfl, by kernel_rfl⟩, tot, hs⟩
    replace hs := of_if_f hs h6
    refine WP.stl 7 ?_
    refine WP.dn ?_
    refine NX.post ?_
    exact ⟨false, ⟨by kernel_rfl, by kernel_rfl⟩, tot, hs⟩
   replace hs := of_if_f hs h5
   refine WP.stl 14 ?_
   refine WP.dn ?_
   refine NX.post ?_
   exact ⟨false, ⟨by kernel_rfl, by kernel_rfl⟩, tot, hs⟩
  replace hs := of_if_f hs h4
  refine WP.stl 21 ?_
  refine WP.dn ?_
  refine NX.post ?_
  exact ⟨false, ⟨by kernel_rfl, by kernel_rfl⟩, tot, hs⟩
 clear tot hs hB1 hR1 hB2 hR2
 rintro tm g ⟨q2, hF, tot, hs⟩
 clear ds
 obtain ⟨ds, rfl⟩ := hF.open
 clear hF
 unfold F.punish_body_same.c1 at hs
 refine CP.ret ?_
 replace hs := Option.some.inj hs
 obtain rfl := hs
 exact NX.fin (v := .bool q2) (Res.still (by kernel_rfl)) tot htL rfl
def N.punish_Thing_Same_0 : List (List Nat) := [[], [0], [], [0, 1, 2], [], [], [0, 1, 2, 3, 4, 5], [0, 1, 2, 3, 4, 5, 6]]
def F.punish_Thing_Same.c1 (q4 : Bool) : Option (Bool) := (some q4)
def F.punish_Thing_Same (x1 : Int) (d1 : Arr Int 8) (x2 : Int) (l1 : List Int) (d2 : Arr Int 8) (x3 : Int) (d3 : Arr Int 8) (l2 : List Int) (l3 : List Int) (x4 : Int) (d4 : Arr Int 8) (x5 : Int) (l4 : List Int) (d5 : Arr Int 8) (x6 : Int) (d6 : Arr Int 8) (l5 : List Int) (l6 : List Int) : Option (Bool) := ((F.punish_Thing_bodies x1 d1 x2 l1 d2 x3 d3 l2 l3).bind fun (d7, x7, d8, l7, d9, x8, d10, l8) => ((F.punish_Thing_bodies x4 d4 x5 l4 d5 x6 d6 l5 l6).bind fun (d11, x9, d12, l9, d13, x10, d14, l10) => (if (x1 == x4) = true then ((F.punish_body_same d7 x7 d8 l7 d11 x9 d12 l9).bind fun q5 => (if q5 = true then ((F.punish_body_same d9 x8 d10 l8 d13 x10 d14 l10).bind fun q6 => (if q6 = true then ((F.slices_Equal_byte_byte l3 l6).bind fun q7 => (F.punish_Thing_Same.c1 q7)) else (F.punish_Thing_Same.c1 false))) else (F.punish_Thing_Same.c1 false))) else (F.punish_Thing_Same.c1 false))))
theorem P.punish_Thing_Same (g0 : GW) (x1 : Int) (d1 : Arr Int 8) (x2 : Int) (l1 : List Int) (d2 : Arr Int 8) (x3 : Int) (d3 : Arr Int 8) (l2 : List Int) (l3 : List Int) (x4 : Int) (d4 : Arr Int 8) (x5 : Int) (l4 : List Int) (d5 : Arr Int 8) (x6 : Int) (d6 : Arr Int 8) (l5 : List Int) (l6 : List Int) (a1 : Option Addr) (n1 : Nat) (c1 : Nat) (a2 : Option Addr) (n2 : Nat) (c2 : Nat) (a3 : Option Addr) (n3 : Nat) (c3 : Nat) (a4 : Option Addr) (n4 : Nat) (c4 : Nat) (a5 : Option Addr) (n5 : Nat) (c5 : Nat) (a6 : Option Addr) (n6 : Nat) (c6 : Nat) (hR1 : RdS (Kd.int .u8) g0 5 a1 n1 c1 l1) (hR2 : RdS (Kd.int .u8) g0 5 a2 n2 c2 l2) (hR3 : RdS (Kd.int .u8) g0 5 a3 n3 c3 l3) (hR4 : RdS (Kd.int .u8) g0 5 a4 n4 c4 l4) (hR5 : RdS (Kd.int .u8) g0 5 a5 n5 c5 l5) (hR6 : RdS (Kd.int .u8) g0 5 a6 n6 c6 l6) (o1 : Bool) (hs : F.punish_Thing_Same x1 d1 x2 l1 d2 x3 d3 l2 l3 x4 d4 x5 l4 d5 x6 d6 l5 l6 = some o1) :
  Calls Try.prog 20 #[AG [[.int .i64 x1], encA .u8 d1, [.int .i64 x2], [.slice a1 n1 c1], encA .u8 d2, [.int .i64 x3], encA .u8 d3, [.slice a2 n2 c2], [.slice a3 n3 c3]], AG [[.int .i64 x4], encA .u8 d4, [.int .i64 x5], [.slice a4 n4 c4], encA .u8 d5, [.int .i64 x6], encA .u8 d6, [.slice a5 n5 c5], [.slice a6 n6 c6]]] g0.w (Ret NoM g0 fun v g => v = .bool o1) := by
 refine calls_of (args := [AG [[.int .i64 x1], encA .u8 d1, [.int .i64 x2], [.slice a1 n1 c1], encA .u8 d2, [.int .i64 x3], encA .u8 d3, [.slice a2 n2 c2], [.slice a3 n3 c3]], AG [[.int .i64 x4], encA .u8 d4, [.int .i64 x5], [.slice a4 n4 c4], encA .u8 d5, [.int .i64 x6], encA .u8 d6, [.slice a5 n5 c5], [.slice a6 n6 c6]]]) Try.func20 rfl (0) ?_
 intro t ht htL
 refine ⟨_, rfl, ?_⟩
 refine CP.refr 37 [(0, AG [[.int .i64 x1], encA .u8 d1, [.int .i64 x2], [.slice a1 n1 c1], encA .u8 d2, [.int .i64 x3], encA .u8 d3, [.slice a2 n2 c2], [.slice a3 n3 c3]]), (1, AG [[.int .i64 x4], encA .u8 d4, [.int .i64 x5], [.slice a4 n4 c4], encA .u8 d5, [.int .i64 x6], encA .u8 d6, [.slice a5 n5 c5], [.slice a6 n6 c6]])] (by kernel_rfl) (by kernel_rfl) ?_
 intro ds
 have tot : Step (fun l => NoM l ∨ t ≤ l) g0 g0 := Step.refl _ _
 unfold F.punish_Thing_Same at hs
 refine CP.seqR ?_
 refine WP.alloc (T := 43) (t + 1) [[.int .i64 x1], encA .u8 d1, [.int .i64 x2], [.slice a1 n1 c1], encA .u8 d2, [.int .i64 x3], encA .u8 d3, [.slice a2 n2 c2], [.slice a3 n3 c3]] [1, 8, 1, 1, 8, 1, 8, 1, 1] (by kernel_rfl) (by simp [len_encA]) ?_
 intro g1 b1 st1 hB1
 replace hR1 := hR1.mono st1 (fun x => x)
 replace hR2 := hR2.mono st1 (fun x => x)
 replace hR3 := hR3.mono st1 (fun x => x)
 replace hR4 := hR4.mono st1 (fun x => x)
 replace hR5 := hR5.mono st1 (fun x => x)
 replace hR6 := hR6.mono st1 (fun x => x)
 replace tot := tot.trans st1.pure
 refine WP.alloc (T := 43) (t + 2) [[.int .i64 x4], encA .u8 d4, [.int .i64 x5], [.slice a4 n4 c4], encA .u8 d5, [.int .i64 x6], encA .u8 d6, [.slice a5 n5 c5], [.slice a6 n6 c6]] [1, 8, 1, 1, 8, 1, 8, 1, 1] (by kernel_rfl) (by simp [len_encA]) ?_
 intro g2 b2 st2 hB2
 replace hR1 := hR1.mono st2 (fun x => x)
 replace hR2 := hR2.mono st2 (fun x => x)
 replace hR3 := hR3.mono st2 (fun x => x)
 replace hR4 := hR4.mono st2 (fun x => x)
 replace hR5 := hR5.mono st2 (fun x => x)
 replace hR6 := hR6.mono st2 (fun x => x)
 replace hB1 := hB1.mono st2 (fun x => x)
 replace tot := tot.trans st2.pure
 refine WP.stl 1 ?_
 refine WP.dn ?_
 refine NX.then_n ?_
 refine CP.seq ?_
 replace hs := Option.bind_eq_some_iff.1 hs
 obtain ⟨⟨d7, x7, d8, l7, d9, x8, d10, l8⟩, hk1, hs⟩ := hs
 dsimp only at hs
 replace hs := Option.bind_eq_some_iff.1 hs
 obtain ⟨⟨d11, x9, d12, l9, d13, x10, d14, l10⟩, hk2, hs⟩ := hs
 dsimp only at hs
 refine CP.drawL (by kernel_rfl) [0, 1, 2, 3, 4, 5, 6, 7] N.punish_Thing_Same_0 [⟨none, [], [], fun l g => Box g (t + 1) b1 43 [[.int .i64 x1], encA .u8 d1, [.int .i64 x2], [.slice a1 n1 c1], encA .u8 d2, [.int .i64 x3], encA .u8 d3, [.slice a2 n2 c2], [.slice a3 n3 c3]] [1, 8, 1, 1, 8, 1, 8, 1, 1]⟩, ⟨none, [], [], fun l g => RdS (Kd.int .u8) g 5 a1 n1 c1 l1⟩, ⟨none, [], [], fun l g => RdS (Kd.int .u8) g 5 a2 n2 c2 l2⟩, ⟨none, [], [], fun l g => RdS (Kd.int .u8) g 5 a3 n3 c3 l3⟩, ⟨none, [], [], fun l g => Box g (t + 2) b2 43 [[.int .i64 x4], encA .u8 d4, [.int .i64 x5], [.slice a4 n4 c4], encA .u8 d5, [.int .i64 x6], encA .u8 d6, [.slice a5 n5 c5], [.slice a6 n6 c6]] [1, 8, 1, 1, 8, 1, 8, 1, 1]⟩, ⟨none, [], [], fun l g => RdS (Kd.int .u8) g 5 a4 n4 c4 l4⟩, ⟨none, [], [], fun l g => RdS (Kd.int .u8) g 5 a5 n5 c5 l5⟩, ⟨none, [], [], fun l g => RdS (Kd.int .u8) g 5 a6 n6 c6 l6⟩, ⟨some 0, [], [0], fun l g => l.getD 0 undef = AG [[.int .i64 x1], encA .u8 d1, [.int .i64 x2], [.slice a1 n1 c1], encA .u8 d2, [.int .i64 x3], encA .u8 d3, [.slice a2 n2 c2], [.slice a3 n3 c3]]⟩, ⟨some 1, [], [1], fun l g => ∃ (a7 : Option Addr) (c7 : Nat) (a8 : Option Addr) (c8 : Nat), l.getD 0 undef = AG [encA .u8 d7, [.int .i64 x7], encA .u8 d8, [.slice a7 l7.length c7], encA .u8 d9, [.int .i64 x8], encA .u8 d10, [.slice a8 l8.length c8]] ∧ RdS (Kd.int .u8) g 5 a7 l7.length c7 l7 ∧ RdS (Kd.int .u8) g 5 a8 l8.length c8 l8⟩, ⟨some 2, [], [2], fun l g => l.getD 0 undef = AG [[.int .i64 x4], encA .u8 d4, [.int .i64 x5], [.slice a4 n4 c4], encA .u8 d5, [.int .i64 x6], encA .u8 d6, [.slice a5 n5 c5], [.slice a6 n6 c6]]⟩, ⟨some 3, [], [3], fun l g => ∃ (a9 : Option Addr) (c9 : Nat) (a10 : Option Addr) (c10 : Nat), l.getD 0 undef = AG [encA .u8 d11, [.int .i64 x9], encA .u8 d12, [.slice a9 l9.length c9], encA .u8 d13, [.int .i64 x10], encA .u8 d14, [.slice a10 l10.length c10]] ∧ RdS (Kd.int .u8) g 5 a9 l9.length c9 l9 ∧ RdS (Kd.int .u8) g 5 a10 l10.length c10 l10⟩, ⟨some 4, [0], [4], fun l g => ∃ (b3 : Nat), l.getD 0 undef = .pointer (some ⟨b3, 0, none⟩) ∧ Box g (t + 3) b3 115 [encA .u8 (zA 8), [.int .i64 0], encA .u8 (zA 8), [.slice none 0 0], encA .u8 (zA 8), [.int .i64 0], encA .u8 (zA 8), [.slice none 0 0]] [8, 1, 8, 1, 8, 1, 8, 1]⟩, ⟨some 5, [1], [5], fun l g => ∃ (b4 : Nat), l.getD 0 undef = .pointer (some ⟨b4, 0, none⟩) ∧ Box g (t + 4) b4 115 [encA .u8 (zA 8), [.int .i64 0], encA .u8 (zA 8), [.slice none 0 0], encA .u8 (zA 8), [.int .i64 0], encA .u8 (zA 8), [.slice none 0 0]] [8, 1, 8, 1, 8, 1, 8, 1]⟩, ⟨some 6, [0], [4, 1], fun l g => ∃ (b3 : Nat) (a7 : Option Addr) (c7 : Nat) (a8 : Option Addr) (c8 : Nat), l.getD 0 undef = .pointer (some ⟨b3, 0, none⟩) ∧ l.getD 1 undef = AG [encA .u8 d7, [.int .i64 x7], encA .u8 d8, [.slice a7 l7.length c7], encA .u8 d9, [.int .i64 x8], encA .u8 d10, [.slice a8 l8.length c8]] ∧ Box g (t + 3) b3 115 [encA .u8 d7, [.int .i64 x7], encA .u8 d8, [.slice a7 l7.length c7], encA .u8 d9, [.int .i64 x8], encA .u8 d10, [.slice a8 l8.length c8]] [8, 1, 8, 1, 8, 1, 8, 1] ∧ RdS (Kd.int .u8) g 5 a7 l7.length c7 l7 ∧ RdS (Kd.int .u8) g 5 a8 l8.length c8 l8⟩, ⟨some 7, [1], [5, 3], fun l g => ∃ (b4 : Nat) (a9 : Option Addr) (c9 : Nat) (a10 : Option Addr) (c10 : Nat), l.getD 0 undef = .pointer (some ⟨b4, 0, none⟩) ∧ l.getD 1 undef = AG [encA .u8 d11, [.int .i64 x9], encA .u8 d12, [.slice a9 l9.length c9], encA .u8 d13, [.int .i64 x10], encA .u8 d14, [.slice a10 l10.length c10]] ∧ Box g (t + 4) b4 115 [encA .u8 d11, [.int .i64 x9], encA .u8 d12, [.slice a9 l9.length c9], encA .u8 d13, [.int .i64 x10], encA .u8 d14, [.slice a10 l10.length c10]] [8, 1, 8, 1, 8, 1, 8, 1] ∧ RdS (Kd.int .u8) g 5 a9 l9.length c9 l9 ∧ RdS (Kd.int .u8) g 5 a10 l10.length c10 l10⟩] [[], [], [], [], [], [], [0], [1]] [(t + 3), (t + 4)] [] [] (by kernel_rfl) (by simp <;> omega) (by simp <;> omega) ⟨fun _ _ _ _ st h0 hl hj hB1 => (hB1.mono st (fun h => absurd (hl _ h) (by simp <;> omega))), fun _ _ _ _ st h0 hl hj hR1 => (RdS.mono (e := 5) hR1 st h0), fun _ _ _ _ st h0 hl hj hR2 => (RdS.mono (e := 5) hR2 st h0), fun _ _ _ _ st h0 hl hj hR3 => (RdS.mono (e := 5) hR3 st h0), fun _ _ _ _ st h0 hl hj hB2 => (hB2.mono st (fun h => absurd (hl _ h) (by simp <;> omega))), fun _ _ _ _ st h0 hl hj hR4 => (RdS.mono (e := 5) hR4 st h0), fun _ _ _ _ st h0 hl hj hR5 => (RdS.mono (e := 5) hR5 st h0), fun _ _ _ _ st h0 hl hj hR6 => (RdS.mono (e := 5) hR6 st h0), fun _ _ _ _ st h0 hl hj e0 => e0, fun _ _ _ _ st h0 hl hj ⟨a7, c7, a8, c8, e1, hR7, hR8⟩ => ⟨a7, c7, a8, c8, e1, (RdS.mono (e := 5) hR7 st h0), (RdS.mono (e := 5) hR8 st h0)⟩, fun _ _ _ _ st h0 hl hj e2 => e2, fun _ _ _ _ st h0 hl hj ⟨a9, c9, a10, c10, e3, hR9, hR10⟩ => ⟨a9, c9, a10, c10, e3, (RdS.mono (e := 5) hR9 st h0), (RdS.mono (e := 5) hR10 st h0)⟩, fun _ _ _ _ st h0 hl hj ⟨b3, e4, hB3⟩ => ⟨b3, e4, (hB3.mono st (hj 0 (by simp) _ rfl))⟩, fun _ _ _ _ st h0 hl hj ⟨b4, e5, hB4⟩ => ⟨b4, e5, (hB4.mono st (hj 1 (by simp) _ rfl))⟩, fun _ _ _ _ st h0 hl hj ⟨b3, a7, c7, a8, c8, e4, e1, hB3, hR7, hR8⟩ => ⟨b3, a7, c7, a8, c8, e4, e1, (hB3.mono st (hj 0 (by simp) _ rfl)), (RdS.mono (e := 5) hR7 st h0), (RdS.mono (e := 5) hR8 st h0)⟩, fun _ _ _ _ st h0 hl hj ⟨b4, a9, c9, a10, c10, e5, e3, hB4, hR9, hR10⟩ => ⟨b4, a9, c9, a10, c10, e5, e3, (hB4.mono st (hj 1 (by simp) _ rfl)), (RdS.mono (e := 5) hR9 st h0), (RdS.mono (e := 5) hR10 st h0)⟩, tv⟩ ⟨hB1, hR1, hR2, hR3, hB2, hR4, hR5, hR6, tv, tv, tv, tv, tv, tv, tv, tv, tv⟩ (by kernel_rfl) (fun vs => by kernel_rfl) ?_ ?_ ?_
 ·intro j hj; exact absurd hj (by simp)
 ·intro j hj
  have hq : j = 0 ∨ j = 1 ∨ j = 2 ∨ j = 3 ∨ j = 4 ∨ j = 5 ∨ j = 6 ∨ j = 7 := by have h : j < 8 := hj; omega
  rcases hq with rfl | rfl | rfl | rfl | rfl | rfl | rfl | rfl
  ·intro vs gq stq hl hf
   obtain ⟨v0, v1, v2, v3, v4, v5, v6, v7, rfl⟩ := len_k8 hl
   have hB1 := (show Box gq (t + 1) b1 43 [[.int .i64 x1], encA .u8 d1, [.int .i64 x2], [.slice a1 n1 c1], encA .u8 d2, [.int .i64 x3], encA .u8 d3, [.slice a2 n2 c2], [.slice a3 n3 c3]] [1, 8, 1, 1, 8, 1, 8, 1, 1] from hf _ (memI 0 rfl) (by kernel_rfl))
   refine WP.loadB (v := AG [[.int .i64 x1], encA .u8 d1, [.int .i64 x2], [.slice a1 n1 c1], encA .u8 d2, [.int .i64 x3], encA .u8 d3, [.slice a2 n2 c2], [.slice a3 n3 c3]]) hB1 (by kernel_rfl) (by kernel_rfl) ?_
   refine WP.dn (Shown.ok (v := AG [[.int .i64 x1], encA .u8 d1, [.int .i64 x2], [.slice a1 n1 c1], encA .u8 d2, [.int .i64 x3], encA .u8 d3, [.slice a2 n2 c2], [.slice a3 n3 c3]]) (by kernel_rfl) (Step.refl _ _) ?_)
   exact ⟨tv, tv, tv, tv, tv, tv, tv, tv, rfl, tv, tv, tv, tv, tv, tv, tv, tv⟩
  ·intro vs gq stq hl hf
   obtain ⟨v0, v1, v2, v3, v4, v5, v6, v7, rfl⟩ := len_k8 hl
   have hR1 := (show RdS (Kd.int .u8) gq 5 a1 n1 c1 l1 from hf _ (memI 1 rfl) (by kernel_rfl))
   have hR2 := (show RdS (Kd.int .u8) gq 5 a2 n2 c2 l2 from hf _ (memI 2 rfl) (by kernel_rfl))
   have hR3 := (show RdS (Kd.int .u8) gq 5 a3 n3 c3 l3 from hf _ (memI 3 rfl) (by kernel_rfl))
   have e0 := (show v0 = AG [[.int .i64 x1], encA .u8 d1, [.int .i64 x2], [.slice a1 n1 c1], encA .u8 d2, [.int .i64 x3], encA .u8 d3, [.slice a2 n2 c2], [.slice a3 n3 c3]] from hf _ (memI 8 rfl) (by kernel_rfl))
   subst e0
   have hcal1 := P.punish_Thing_bodies gq x1 d1 x2 l1 d2 x3 d3 l2 l3 a1 n1 c1 a2 n2 c2 a3 n3 c3 hR1 hR2 hR3 d7 x7 d8 l7 d9 x8 d10 l8 hk1
   refine WP.callC hcal1 (by kernel_rfl) ?_
   rintro _ g3 st3 ⟨a7, n7, c7, a8, n8, c8, rfl, hR7, hR8⟩
   obtain rfl := hR7.len
   obtain rfl := hR8.len
   refine WP.dn (Shown.o (v := AG [encA .u8 d7, [.int .i64 x7], encA .u8 d8, [.slice a7 l7.length c7], encA .u8 d9, [.int .i64 x8], encA .u8 d10, [.slice a8 l8.length c8]]) st3.pure ?_)
   exact ⟨tv, tv, tv, tv, tv, tv, tv, tv, tv, ⟨a7, c7, a8, c8, rfl, hR7, hR8⟩, tv, tv, tv, tv, tv, tv, tv⟩
  ·intro vs gq stq hl hf
   obtain ⟨v0, v1, v2, v3, v4, v5, v6, v7, rfl⟩ := len_k8 hl
   have hB2 := (show Box gq (t + 2) b2 43 [[.int .i64 x4], encA .u8 d4, [.int .i64 x5], [.slice a4 n4 c4], encA .u8 d5, [.int .i64 x6], encA .u8 d6, [.slice a5 n5 c5], [.slice a6 n6 c6]] [1, 8, 1, 1, 8, 1, 8, 1, 1] from hf _ (memI 4 rfl) (by kernel_rfl))
   refine WP.loadB (v := AG [[.int .i64 x4], encA .u8 d4, [.int .i64 x5], [.slice a4 n4 c4], encA .u8 d5, [.int .i64 x6], encA .u8 d6, [.slice a5 n5 c5], [.slice a6 n6 c6]]) hB2 (by kernel_rfl) (by kernel_rfl) ?_
   refine WP.dn (Shown.ok (v := AG [[.int .i64 x4], encA .u8 d4, [.int .i64 x5], [.slice a4 n4 c4], encA .u8 d5, [.int .i64 x6], encA .u8 d6, [.slice a5 n5 c5], [.slice a6 n6 c6]]) (by kernel_rfl) (Step.refl _ _) ?_)
   exact ⟨tv, tv, tv, tv, tv, tv, tv, tv, tv, tv, rfl, tv, tv, tv, tv, tv, tv⟩
  ·intro vs gq stq hl hf
   obtain ⟨v0, v1, v2, v3, v4, v5, v6, v7, rfl⟩ := len_k8 hl
   have hR4 := (show RdS (Kd.int .u8) gq 5 a4 n4 c4 l4 from hf _ (memI 5 rfl) (by kernel_rfl))
   have hR5 := (show RdS (Kd.int .u8) gq 5 a5 n5 c5 l5 from hf _ (memI 6 rfl) (by kernel_rfl))
   have hR6 := (show RdS (Kd.int .u8) gq 5 a6 n6 c6 l6 from hf _ (memI 7 rfl) (by kernel_rfl))
   have e2 := (show v2 = AG [[.int .i64 x4], encA .u8 d4, [.int .i64 x5], [.slice a4 n4 c4], encA .u8 d5, [.int .i64 x6], encA .u8 d6, [.slice a5 n5 c5], [.slice a6 n6 c6]] from hf _ (memI 10 rfl) (by kernel_rfl))
   subst e2
   have hcal2 := P.punish_Thing_bodies gq x4 d4 x5 l4 d5 x6 d6 l5 l6 a4 n4 c4 a5 n5 c5 a6 n6 c6 hR4 hR5 hR6 d11 x9 d12 l9 d13 x10 d14 l10 hk2
   refine WP.callC hcal2 (by kernel_rfl) ?_
   rintro _ g4 st4 ⟨a9, n9, c9, a10, n10, c10, rfl, hR9, hR10⟩
   obtain rfl := hR9.len
   obtain rfl := hR10.len
   refine WP.dn (Shown.o (v := AG [encA .u8 d11, [.int .i64 x9], encA .u8 d12, [.slice a9 l9.length c9], encA .u8 d13, [.int .i64 x10], encA .u8 d14, [.slice a10 l10.length c10]]) st4.pure ?_)
   exact ⟨tv, tv, tv, tv, tv, tv, tv, tv, tv, tv, tv, ⟨a9, c9, a10, c10, rfl, hR9, hR10⟩, tv, tv, tv, tv, tv⟩
  ·intro vs gq stq hl hf
   obtain ⟨v0, v1, v2, v3, v4, v5, v6, v7, rfl⟩ := len_k8 hl
   refine WP.alloc (T := 115) (t + 3) [encA .u8 (zA 8), [.int .i64 0], encA .u8 (zA 8), [.slice none 0 0], encA .u8 (zA 8), [.int .i64 0], encA .u8 (zA 8), [.slice none 0 0]] [8, 1, 8, 1, 8, 1, 8, 1] (by kernel_rfl) (by simp [len_encA]) ?_
   intro g5 b3 st5 hB3
   refine WP.dn (Shown.o (v := .pointer (some ⟨b3, 0, none⟩)) st5.pure ?_)
   exact ⟨tv, tv, tv, tv, tv, tv, tv, tv, tv, tv, tv, tv, ⟨b3, rfl, hB3⟩, tv, tv, tv, tv⟩
  ·intro vs gq stq hl hf
   obtain ⟨v0, v1, v2, v3, v4, v5, v6, v7, rfl⟩ := len_k8 hl
   refine WP.alloc (T := 115) (t + 4) [encA .u8 (zA 8), [.int .i64 0], encA .u8 (zA 8), [.slice none 0 0], encA .u8 (zA 8), [.int .i64 0], encA .u8 (zA 8), [.slice none 0 0]] [8, 1, 8, 1, 8, 1, 8, 1] (by kernel_rfl) (by simp [len_encA]) ?_
   intro g6 b4 st6 hB4
   refine WP.dn (Shown.o (v := .pointer (some ⟨b4, 0, none⟩)) st6.pure ?_)
   exact ⟨tv, tv, tv, tv, tv, tv, tv, tv, tv, tv, tv, tv, tv, ⟨b4, rfl, hB4⟩, tv, tv, tv⟩
  ·intro vs gq stq hl hf
   obtain ⟨v0, v1, v2, v3, v4, v5, v6, v7, rfl⟩ := len_k8 hl
   obtain ⟨a7, c7, a8, c8, e1, hR7, hR8⟩ := (show ∃ (a7 : Option Addr) (c7 : Nat) (a8 : Option Addr) (c8 : Nat), v1 = AG [encA .u8 d7, [.int .i64 x7], encA .u8 d8, [.slice a7 l7.length c7], encA .u8 d9, [.int .i64 x8], encA .u8 d10, [.slice a8 l8.length c8]] ∧ RdS (Kd.int .u8) gq 5 a7 l7.length c7 l7 ∧ RdS (Kd.int .u8) gq 5 a8 l8.length c8 l8 from hf _ (memI 9 rfl) (by kernel_rfl))
   subst e1
   obtain ⟨b3, e4, hB3⟩ := (show ∃ (b3 : Nat), v4 = .pointer (some ⟨b3, 0, none⟩) ∧ Box gq (t + 3) b3 115 [encA .u8 (zA 8), [.int .i64 0], encA .u8 (zA 8), [.slice none 0 0], encA .u8 (zA 8), [.int .i64 0], encA .u8 (zA 8), [.slice none 0 0]] [8, 1, 8, 1, 8, 1, 8, 1] from hf _ (memI 12 rfl) (by kernel_rfl))
   subst e4
   refine WP.storeB (ty := 115) (off := 0) (v := AG [encA .u8 d7, [.int .i64 x7], encA .u8 d8, [.slice a7 l7.length c7], encA .u8 d9, [.int .i64 x8], encA .u8 d10, [.slice a8 l8.length c8]]) hB3 [encA .u8 d7, [.int .i64 x7], encA .u8 d8, [.slice a7 l7.length c7], encA .u8 d9, [.int .i64 x8], encA .u8 d10, [.slice a8 l8.length c8]] [8, 1, 8, 1, 8, 1, 8, 1] (by kernel_rfl) (by kernel_rfl) (by simp [len_encA]) (by kernel_rfl) [encA .u8 d7, [.int .i64 x7], encA .u8 d8, [.slice a7 l7.length c7], encA .u8 d9, [.int .i64 x8], encA .u8 d10, [.slice a8 l8.length c8]] (by kernel_rfl) (.arr (.one rfl (.arr (.one rfl (.arr (.one rfl (.arr (.one rfl .nil)))))))) ?_
   intro g7 st7 hB5
   refine WP.dn (Shown.o (v := undef) st7 ?_)
   exact ⟨tv, tv, tv, tv, tv, tv, tv, tv, tv, tv, tv, tv, tv, tv, ⟨b3, a7, c7, a8, c8, rfl, rfl, hB5, (hR7.mono st7 (WL.no (by simp <;> omega))), (hR8.mono st7 (WL.no (by simp <;> omega)))⟩, tv, tv⟩
  ·intro vs gq stq hl hf
   obtain ⟨v0, v1, v2, v3, v4, v5, v6, v7, rfl⟩ := len_k8 hl
   obtain ⟨a9, c9, a10, c10, e3, hR9, hR10⟩ := (show ∃ (a9 : Option Addr) (c9 : Nat) (a10 : Option Addr) (c10 : Nat), v3 = AG [encA .u8 d11, [.int .i64 x9], encA .u8 d12, [.slice a9 l9.length c9], encA .u8 d13, [.int .i64 x10], encA .u8 d14, [.slice a10 l10.length c10]] ∧ RdS (Kd.int .u8) gq 5 a9 l9.length c9 l9 ∧ RdS (Kd.int .u8) gq 5 a10 l10.length c10 l10 from hf _ (memI 11 rfl) (by kernel_rfl))
   subst e3
   obtain ⟨b4, e5, hB4⟩ := (show ∃ (b4 : Nat), v5 = .pointer (some ⟨b4, 0, none⟩) ∧ Box gq (t + 4) b4 115 [encA .u8 (zA 8), [.int .i64 0], encA .u8 (zA 8), [.slice none 0 0], encA .u8 (zA 8), [.int .i64 0], encA .u8 (zA 8), [.slice none 0 0]] [8, 1, 8, 1, 8, 1, 8, 1] from hf _ (memI 13 rfl) (by kernel_rfl))
   subst e5
   refine WP.storeB (ty := 115) (off := 0) (v := AG [encA .u8 d11, [.int .i64 x9], encA .u8 d12, [.slice a9 l9.length c9], encA .u8 d13, [.int .i64 x10], encA .u8 d14, [.slice a10 l10.length c10]]) hB4 [encA .u8 d11, [.int .i64 x9], encA .u8 d12, [.slice a9 l9.length c9], encA .u8 d13, [.int .i64 x10], encA .u8 d14, [.slice a10 l10.length c10]] [8, 1, 8, 1, 8, 1, 8, 1] (by kernel_rfl) (by kernel_rfl) (by simp [len_encA]) (by kernel_rfl) [encA .u8 d11, [.int .i64 x9], encA .u8 d12, [.slice a9 l9.length c9], encA .u8 d13, [.int .i64 x10], encA .u8 d14, [.slice a10 l10.length c10]] (by kernel_rfl) (.arr (.one rfl (.arr (.one rfl (.arr (.one rfl (.arr (.one rfl .nil)))))))) ?_
   intro g8 st8 hB6
   refine WP.dn (Shown.o (v := undef) st8 ?_)
   exact ⟨tv, tv, tv, tv, tv, tv, tv, tv, tv, tv, tv, tv, tv, tv, tv, ⟨b4, a9, c9, a10, c10, rfl, rfl, hB6, (hR9.mono st8 (WL.no (by simp <;> omega))), (hR10.mono st8 (WL.no (by simp <;> omega)))⟩, tv⟩
 intro vs g9 st9 hl hf
 obtain ⟨v0, v1, v2, v3, v4, v5, v6, v7, rfl⟩ := len_k8 hl
 obtain ⟨b3, a7, c7, a8, c8, e4, e1, hB3, hR7, hR8⟩ := (show ∃ (b3 : Nat) (a7 : Option Addr) (c7 : Nat) (a8 : Option Addr) (c8 : Nat), v4 = .pointer (some ⟨b3, 0, none⟩) ∧ v1 = AG [encA .u8 d7, [.int .i64 x7], encA .u8 d8, [.slice a7 l7.length c7], encA .u8 d9, [.int .i64 x8], encA .u8 d10, [.slice a8 l8.length c8]] ∧ Box g9 (t + 3) b3 115 [encA .u8 d7, [.int .i64 x7], encA .u8 d8, [.slice a7 l7.length c7], encA .u8 d9, [.int .i64 x8], encA .u8 d10, [.slice a8 l8.length c8]] [8, 1, 8, 1, 8, 1, 8, 1] ∧ RdS (Kd.int .u8) g9 5 a7 l7.length c7 l7 ∧ RdS (Kd.int .u8) g9 5 a8 l8.length c8 l8 from hf _ (memI 14 rfl) (by kernel_rfl))
 subst e4
 subst e1
 obtain ⟨b4, a9, c9, a10, c10, e5, e3, hB4, hR9, hR10⟩ := (show ∃ (b4 : Nat) (a9 : Option Addr) (c9 : Nat) (a10 : Option Addr) (c10 : Nat), v5 = .pointer (some ⟨b4, 0, none⟩) ∧ v3 = AG [encA .u8 d11, [.int .i64 x9], encA .u8 d12, [.slice a9 l9.length c9], encA .u8 d13, [.int .i64 x10], encA .u8 d14, [.slice a10 l10.length c10]] ∧ Box g9 (t + 4) b4 115 [encA .u8 d11, [.int .i64 x9], encA .u8 d12, [.slice a9 l9.length c9], encA .u8 d13, [.int .i64 x10], encA .u8 d14, [.slice a10 l10.length c10]] [8, 1, 8, 1, 8, 1, 8, 1] ∧ RdS (Kd.int .u8) g9 5 a9 l9.length c9 l9 ∧ RdS (Kd.int .u8) g9 5 a10 l10.length c10 l10 from hf _ (memI 15 rfl) (by kernel_rfl))
 subst e5
 subst e3
 replace hB1 := hB1.mono st9 (WL.no2 (by omega) (by omega))
 replace hR1 := hR1.mono st9 (WL.no2 (by omega) (by omega))
 replace hR2 := hR2.mono st9 (WL.no2 (by omega) (by omega))
 replace hR3 := hR3.mono st9 (WL.no2 (by omega) (by omega))
 replace hB2 := hB2.mono st9 (WL.no2 (by omega) (by omega))
 replace hR4 := hR4.mono st9 (WL.no2 (by omega) (by omega))
 replace hR5 := hR5.mono st9 (WL.no2 (by omega) (by omega))
 replace hR6 := hR6.mono st9 (WL.no2 (by omega) (by omega))
 replace tot := tot.trans (st9.up2 (.inr (by omega)) (.inr (by omega)))
 refine NX.then_n ?_
 refine CP.refr 37 [(2, .pointer (some ⟨b1, 0, none⟩)), (3, .pointer (some ⟨b2, 0, none⟩)), (5, .pointer (some ⟨b3, 0, none⟩)), (6, .pointer (some ⟨b4, 0, none⟩))] (by kernel_rfl) (by kernel_rfl) ?_
 clear ds
 intro ds
 refine CP.cut (fun tm g => ∃ (q4 : Bool), Fr 37 [(4, .bool q4)] tm ∧ Step (fun l => NoM l ∨ t ≤ l) g0 g ∧ (F.punish_Thing_Same.c1 q4) = some o1) ?_ ?_
 ·refine CP.region ?_
  refine WP.stl 1 ?_
  refine WP.loadB (v := .int .i64 x1) hB1 (by kernel_rfl) (by kernel_rfl) ?_
  refine WP.stl 1 ?_
  refine WP.loadB (v := .int .i64 x4) hB2 (by kernel_rfl) (by kernel_rfl) ?_
  refine WP.stl 2 ?_
  refine WP.guard 16 (b := (x1 == x4)) (by kernel_rfl) (fun h4 => ?_) (fun h4 => ?_)
  ·replace hs := of_if_t hs h4
   refine WP.stl 1 ?_
   refine WP.loadB (v := AG [encA .u8 d7, [.int .i64 x7], encA .u8 d8, [.slice a7 l7.length c7]]) hB3 (by kernel_rfl) (by kernel_rfl) ?_
   refine WP.stl 1 ?_
   refine WP.loadB (v := AG [encA .u8 d11, [.int .i64 x9], encA .u8 d12, [.slice a9 l9.length c9]]) hB4 (by kernel_rfl) (by kernel_rfl) ?_
   replace hs := Option.bind_eq_some_iff.1 hs
   obtain ⟨q5, hk6, hs⟩ := hs
   have hcal6 := P.punish_body_same g9 d7 x7 d8 l7 d11 x9 d12 l9 a7 l7.length c7 a9 l9.length c9 hR7 hR9 q5 hk6
   refine WP.callC hcal6 (by kernel_rfl) ?_
   rintro _ g13 st13 rfl
   replace hB1 := hB1.mono st13 (fun x => x)
   replace hR1 := hR1.mono st13 (fun x => x)
   replace hR2 := hR2.mono st13 (fun x => x)
   replace hR3 := hR3.mono st13 (fun x => x)
   replace hB2 := hB2.mono st13 (fun x => x)
   replace hR4 := hR4.mono st13 (fun x => x)
   replace hR5 := hR5.mono st13 (fun x => x)
   replace hR6 := hR6.mono st13 (fun x => x)
   replace hB3 := hB3.mono st13 (fun x => x)
   replace hR7 := hR7.mono st13 (fun x => x)
   replace hR8 := hR8.mono st13 (fun x => x)
   replace hB4 := hB4.mono st13 (fun x => x)
   replace hR9 := hR9.mono st13 (fun x => x)
   replace hR10 := hR10.mono st13 (fun x => x)
   replace tot := tot.trans st13.pure
   refine WP.stl 2 ?_
   refine WP.guard 23 (b := q5) (by kernel_rfl) (fun h5 => ?_) (fun h5 => ?_)
   ·replace hs := of_if_t hs h5
    refine WP.stl 1 ?_
    refine WP.loadB (v := AG [encA .u8 d9, [.int .i64 x8], encA .u8 d10, [.slice a8 l8.length c8]]) hB3 (by kernel_rfl) (by kernel_rfl) ?_
    refine WP.stl 1 ?_
    refine WP.loadB (v := AG [encA .u8 d13, [.int .i64 x10], encA .u8 d14, [.slice a10 l10.length c10]]) hB4 (by kernel_rfl) (by kernel_rfl) ?_
    replace hs := Option.bind_eq_some_iff.1 hs
    obtain ⟨q6, hk7, hs⟩ := hs
    have hcal7 := P.punish_body_same g13 d9 x8 d10 l8 d13 x10 d14 l10 a8 l8.length c8 a10 l10.length c10 hR8 hR10 q6 hk7
    refine WP.callC hcal7 (by kernel_rfl) ?_
    rintro _ g14 st14 rfl
    replace hB1 := hB1.mono st14 (fun x => x)
    replace hR1 := hR1.mono st14 (fun x => x)
    replace hR2 := hR2.mono st14 (fun x => x)
    replace hR3 := hR3.mono st14 (fun x => x)
    replace hB2 := hB2.mono st14 (fun x => x)
    replace hR4 := hR4.mono st14 (fun x => x)
    replace hR5 := hR5.mono st14 (fun x => x)
    replace hR6 := hR6.mono st14 (fun x => x)
    replace hB3 := hB3.mono st14 (fun x => x)
    replace hR7 := hR7.mono st14 (fun x => x)
    replace hR8 := hR8.mono st14 (fun x => x)
    replace hB4 := hB4.mono st14 (fun x => x)
    replace hR9 := hR9.mono st14 (fun x => x)
    replace hR10 := hR10.mono st14 (fun x => x)
    replace tot := tot.trans st14.pure
    refine WP.stl 2 ?_
    refine WP.guard 30 (b := q6) (by kernel_rfl) (fun h6 => ?_) (fun h6 => ?_)
    ·replace hs := of_if_t hs h6
     refine WP.stl 1 ?_
     refine WP.loadB (v := .slice a3 n3 c3) hB1 (by kernel_rfl) (by kernel_rfl) ?_
     refine WP.stl 1 ?_
     refine WP.loadB (v := .slice a6 n6 c6) hB2 (by kernel_rfl) (by kernel_rfl) ?_
     replace hs := Option.bind_eq_some_iff.1 hs
     obtain ⟨q7, hk8, hs⟩ := hs
     have hcal8 := P.slices_Equal_byte_byte g14 l3 l6 a3 n3 c3 a6 n6 c6 hR3 hR6 q7 hk8
     refine WP.callC hcal8 (by kernel_rfl) ?_
     rintro _ g15 st15 rfl
     replace hB1 := hB1.mono st15 (fun x => x)
     replace hR1 := hR1.mono st15 (fun x => x)
     replace hR2 := hR2.mono st15 (fun x => x)
     replace hR3 := hR3.mono st15 (fun x => x)
     replace hB2 := hB2.mono st15 (fun x => x)
     replace hR4 := hR4.mono st15 (fun x => x)
     replace hR5 := hR5.mono st15 (fun x => x)
     replace hR6 := hR6.mono st15 (fun x => x)
     replace hB3 := hB3.mono st15 (fun x => x)
     replace hR7 := hR7.mono st15 (fun x => x)
     replace hR8 := hR8.mono st15 (fun x => x)
     replace hB4 := hB4.mono st15 (fun x => x)
     replace hR9 := hR9.mono st15 (fun x => x)
     replace hR10 := hR10.mono st15 (fun x => x)
     replace tot := tot.trans st15.pure
     refine WP.stl 2 ?_
     refine WP.dn ?_
     refine NX.post ?_
     exact ⟨q7, ⟨by kernel_rfl, by kernel_rfl⟩, tot, hs⟩
    replace hs := of_if_f hs h6
    refine WP.stl 7 ?_
    refine WP.dn ?_
    refine NX.post ?_
    exact ⟨false, ⟨by kernel_rfl, by kernel_rfl⟩, tot, hs⟩
   replace hs := of_if_f hs h5
   refine WP.stl 14 ?_
   refine WP.dn ?_
   refine NX.post ?_
   exact ⟨false, ⟨by kernel_rfl, by kernel_rfl⟩, tot, hs⟩
  replace hs := of_if_f hs h4
  refine WP.stl 21 ?_
  refine WP.dn ?_
  refine NX.post ?_
  exact ⟨false, ⟨by kernel_rfl, by kernel_rfl⟩, tot, hs⟩
 clear tot hs hB1 hR1 hR2 hR3 hB2 hR4 hR5 hR6 hB3 hR7 hR8 hB4 hR9 hR10
 rintro tm g ⟨q4, hF, tot, hs⟩
 clear ds
 obtain ⟨ds, rfl⟩ := hF.open
 clear hF
 unfold F.punish_Thing_Same.c1 at hs
 refine CP.ret ?_
 replace hs := Option.some.inj hs
 obtain rfl := hs
 exact NX.fin (v := .bool q4) (Res.still (by kernel_rfl)) tot htL rfl
def F.baizelaw34_PunishBytes.c4 (q12 : Bool) : Option (Bool) := (some q12)
def F.baizelaw34_PunishBytes.c3 (l3 : List Int) (x8 : Int) (d6 : Arr Int 8) (x9 : Int) (l9 : List Int) (d7 : Arr Int 8) (x10 : Int) (d8 : Arr Int 8) (l10 : List Int) (l11 : List Int) (x11 : Int) : Option (Bool) := (if (x11 != 0) = true then ((F.punish_Thing_Same x8 d6 x9 l9 d7 x10 d8 l10 l11 0 (zA 8) 0 ([]) (zA 8) 0 (zA 8) ([]) ([])).bind fun q11 => (some q11)) else ((F.punish_Thing_Encode x8 d6 x9 l9 d7 x10 d8 l10 l11).bind fun (l22, x24) => (if (x24 == 0) = true then (F.baizelaw34_PunishBytes.c4 ((bytesStr l22).toList == (bytesStr l3).toList)) else (F.baizelaw34_PunishBytes.c4 false))))
def F.baizelaw34_PunishBytes.c5 (l3 : List Int) (x8 : Int) (d6 : Arr Int 8) (x9 : Int) (l9 : List Int) (d7 : Arr Int 8) (x10 : Int) (d8 : Arr Int 8) (l10 : List Int) (l11 : List Int) (x11 : Int) (q14 : Bool) : Option (Bool) := (if q14 = true then (some false) else (F.baizelaw34_PunishBytes.c3 l3 x8 d6 x9 l9 d7 x10 d8 l10 l11 x11))
def N.baizelaw34_PunishBytes_0 : List (List Nat) := [[], [0], [0, 1], [0, 1, 2], [0, 1, 2], [0, 1, 2, 4], [0, 1, 2, 3, 4, 5], [0, 1, 2, 3, 4, 5, 6], [0, 1, 2, 3, 4, 5, 6, 7]]
def F.baizelaw34_PunishBytes.c2 (x1 : Int) (d1 : Arr Int 8) (x2 : Int) (d2 : Arr Int 8) (l1 : List Int) (l2 : List Int) (q1 : Bool) (l3 : List Int) (l7 : List Int) (x6 : Int) (x8 : Int) (d6 : Arr Int 8) (x9 : Int) (l9 : List Int) (d7 : Arr Int 8) (x10 : Int) (d8 : Arr Int 8) (l10 : List Int) (l11 : List Int) (x11 : Int) (q8 : Bool) : Option (Bool) := (if q8 = true then (some false) else (if (x6 == 0) = true then ((F.punish_Decode l7).bind fun (x25, d19, x26, l23, d20, x27, d21, l24, l25, x28) => (if (x28 != 0) = true then (F.baizelaw34_PunishBytes.c5 l3 x8 d6 x9 l9 d7 x10 d8 l10 l11 x11 true) else ((F.baizelaw34_Of x1 d1 x2 d2 l1 l2 q1).bind fun (x32, d25, x33, l29, d26, x34, d27, l30, l31) => ((F.punish_Thing_Same x25 d19 x26 l23 d20 x27 d21 l24 l25 x32 d25 x33 l29 d26 x34 d27 l30 l31).bind fun q15 => (F.baizelaw34_PunishBytes.c5 l3 x8 d6 x9 l9 d7 x10 d8 l10 l11 x11 (!q15)))))) else (F.baizelaw34_PunishBytes.c3 l3 x8 d6 x9 l9 d7 x10 d8 l10 l11 x11)))
def N.baizelaw34_PunishBytes_1 : List (List Nat) := [[], [], [0, 1], [0, 1, 2], [0, 1, 2, 3], [0, 1, 2, 3, 4], [0, 1, 2, 3], [0, 1, 2, 3, 6], [0, 1, 2, 3, 4, 5, 6, 7], [0, 1, 2, 3, 4, 5, 6, 7, 8], [0, 1, 2, 3, 4, 5, 6, 7, 8, 9], [0, 1, 2, 3, 4, 5, 6, 7, 8, 9, 10], [0, 1, 2, 3, 4, 5, 6, 7, 8, 9, 10], [0, 1, 2, 3, 4, 5, 6, 7, 8, 9, 10, 11, 12], [0, 1, 2, 3, 4, 5, 6, 7, 8, 9, 10, 11, 12, 13], [0, 1, 2, 3, 4, 5, 6, 7, 8, 9, 10, 11, 12, 13, 14], [0, 1, 2, 3, 4, 5, 6, 7, 8, 9, 10, 11, 12, 13, 14, 15], [0, 1, 2, 3, 4, 5, 6, 7, 8, 9, 10, 11, 12, 13, 14, 15, 16], [0, 1, 2, 3, 4, 5, 6, 7, 8, 9, 10, 11, 12, 13, 14, 15], [0, 1, 2, 3, 4, 5, 6, 7, 8, 9, 10, 11, 12, 13, 14, 15, 16, 17, 18], [0, 1, 2, 3, 4, 5, 6, 7, 8, 9, 10, 11, 12, 13, 14, 15, 16, 17, 18, 19], [0, 1, 2, 3, 4, 5, 6, 7, 8, 9, 10, 11, 12, 13, 14, 15, 16, 17, 18, 19, 20]]
def F.baizelaw34_PunishBytes.c1 (x1 : Int) (d1 : Arr Int 8) (x2 : Int) (d2 : Arr Int 8) (l1 : List Int) (l2 : List Int) (q1 : Bool) (l3 : List Int) (q3 : Bool) : Option (Bool) := (if q3 = true then ((F.baizelaw34_known).bind fun q4 => (some q4)) else ((F.baizelaw34_Of x1 d1 x2 d2 l1 l2 q1).bind fun (x3, d3, x4, l4, d4, x5, d5, l5, l6) => ((F.punish_Thing_Encode x3 d3 x4 l4 d4 x5 d5 l5 l6).bind fun (l7, x6) => ((F.baizeref34_Encode x1 d1 x2 d2 l1 l2 q1).bind fun (l8, x7) => ((F.punish_Decode l3).bind fun (x8, d6, x9, l9, d7, x10, d8, l10, l11, x11) => ((F.baizeref34_Decode l3).bind fun (x12, d9, x13, d10, l12, l13, q5, x14) => (if (x6 != x7) = true then (F.baizelaw34_PunishBytes.c2 x1 d1 x2 d2 l1 l2 q1 l3 l7 x6 x8 d6 x9 l9 d7 x10 d8 l10 l11 x11 true) else (if (!((bytesStr l7).toList == (bytesStr l8).toList)) = true then (F.baizelaw34_PunishBytes.c2 x1 d1 x2 d2 l1 l2 q1 l3 l7 x6 x8 d6 x9 l9 d7 x10 d8 l10 l11 x11 true) else (if (x11 != x14) = true then (F.baizelaw34_PunishBytes.c2 x1 d1 x2 d2 l1 l2 q1 l3 l7 x6 x8 d6 x9 l9 d7 x10 d8 l10 l11 x11 true) else ((F.baizelaw34_To x8 d6 x9 l9 d7 x10 d8 l10 l11).bind fun (x35, d28, x36, d29, l32, l33, q16) => ((F.baizeref34_Same x35 d28 x36 d29 l32 l33 q16 x12 d9 x13 d10 l12 l13 q5).bind fun q17 => (F.baizelaw34_PunishBytes.c2 x1 d1 x2 d2 l1 l2 q1 l3 l7 x6 x8 d6 x9 l9 d7 x10 d8 l10 l11 x11 (!q17)))))))))))))
def F.baizelaw34_PunishBytes (x1 : Int) (d1 : Arr Int 8) (x2 : Int) (d2 : Arr Int 8) (l1 : List Int) (l2 : List Int) (q1 : Bool) (l3 : List Int) : Option (Bool) := ((F.baizelaw34_known).bind fun q18 => (if (!q18) = true then (F.baizelaw34_PunishBytes.c1 x1 d1 x2 d2 l1 l2 q1 l3 true) else (if decide ((IntKind.i64.wrap ((l1.length : Int) + (l2.length : Int))) > 5000) = true then (F.baizelaw34_PunishBytes.c1 x1 d1 x2 d2 l1 l2 q1 l3 true) else (F.baizelaw34_PunishBytes.c1 x1 d1 x2 d2 l1 l2 q1 l3 (decide ((l3.length : Int) > 5000))))))
theorem P.baizelaw34_PunishBytes (g0 : GW) (x1 : Int) (d1 : Arr Int 8) (x2 : Int) (d2 : Arr Int 8) (l1 : List Int) (l2 : List Int) (q1 : Bool) (l3 : List Int) (a1 : Option Addr) (n1 : Nat) (c1 : Nat) (a2 : Option Addr) (n2 : Nat) (c2 : Nat) (a3 : Option Addr) (n3 : Nat) (c3 : Nat) (hR1 : RdS (Kd.int .u8) g0 5 a1 n1 c1 l1) (hR2 : RdS (Kd.int .u8) g0 5 a2 n2 c2 l2) (hR3 : RdS (Kd.int .u8) g0 5 a3 n3 c3 l3) (o1 : Bool) (hs : F.baizelaw34_PunishBytes x1 d1 x2 d2 l1 l2 q1 l3 = some o1) :
  Calls Try.prog 4 #[AG [[.int .i64 x1], encA .u8 d1, [.int .i64 x2], encA .u8 d2, [.slice a1 n1 c1], [.slice a2 n2 c2], [.bool q1]], .slice a3 n3 c3] g0.w (Ret NoM g0 fun v g => v = .bool o1) := by
 refine calls_of (args := [AG [[.int .i64 x1], encA .u8 d1, [.int .i64 x2], encA .u8 d2, [.slice a1 n1 c1], [.slice a2 n2 c2], [.bool q1]], .slice a3 n3 c3]) Try.func4 rfl (0) ?_
 intro t ht htL
 refine ⟨_, rfl, ?_⟩
 refine CP.refr 113 [(0, AG [[.int .i64 x1], encA .u8 d1, [.int .i64 x2], encA .u8 d2, [.slice a1 n1 c1], [.slice a2 n2 c2], [.bool q1]]), (1, .slice a3 n3 c3)] (by kernel_rfl) (by kernel_rfl) ?_
 intro ds
 have tot : Step (fun l => NoM l ∨ t ≤ l) g0 g0 := Step.refl _ _
 unfold F.baizelaw34_PunishBytes at hs
 refine CP.seqR ?_
 refine WP.alloc (T := 35) (t + 1) [[.int .i64 x1], encA .u8 d1, [.int .i64 x2], encA .u8 d2, [.slice a1 n1 c1], [.slice a2 n2 c2], [.bool q1]] [1, 8, 1, 8, 1, 1, 1] (by kernel_rfl) (by simp [len_encA]) ?_
 intro g1 b1 st1 hB1
 replace hR1 := hR1.mono st1 (fun x => x)
 replace hR2 := hR2.mono st1 (fun x => x)
 replace hR3 := hR3.mono st1 (fun x => x)
 replace tot := tot.trans st1.pure
 refine WP.stl 1 ?_
 refine WP.dn ?_
 refine NX.then_n ?_
 refine CP.seq ?_
 refine CP.cut (fun tm g => ∃ (q3 : Bool), Fr 113 [(1, .slice a3 n3 c3), (2, .pointer (some ⟨b1, 0, none⟩)), (33, .bool q3)] tm ∧ Step (fun l => NoM l ∨ t ≤ l) g0 g ∧ RdS (Kd.int .u8) g 5 a3 n3 c3 l3 ∧ Box g (t + 1) b1 35 [[.int .i64 x1], encA .u8 d1, [.int .i64 x2], encA .u8 d2, [.slice a1 n1 c1], [.slice a2 n2 c2], [.bool q1]] [1, 8, 1, 8, 1, 1, 1] ∧ RdS (Kd.int .u8) g 5 a1 n1 c1 l1 ∧ RdS (Kd.int .u8) g 5 a2 n2 c2 l2 ∧ (F.baizelaw34_PunishBytes.c1 x1 d1 x2 d2 l1 l2 q1 l3 q3) = some o1) ?_ ?_
 ·refine CP.region ?_
  replace hs := Option.bind_eq_some_iff.1 hs
  obtain ⟨q18, hk22, hs⟩ := hs
  have hcal22 := P.baizelaw34_known g1 q18 hk22
  refine WP.callC hcal22 (by kernel_rfl) ?_
  rintro _ g41 st41 rfl
  replace hR3 := hR3.mono st41 (fun x => x)
  replace hB1 := hB1.mono st41 (fun x => x)
  replace hR1 := hR1.mono st41 (fun x => x)
  replace hR2 := hR2.mono st41 (fun x => x)
  replace tot := tot.trans st41.pure
  refine WP.stl 2 ?_
  refine WP.guard 19 (b := (!q18)) (by kernel_rfl) (fun h21 => ?_) (fun h21 => ?_)
  ·replace hs := of_if_t hs h21
   refine WP.stl 14 ?_
   refine WP.dn ?_
   refine NX.post ?_
   exact ⟨true, ⟨by kernel_rfl, by kernel_rfl⟩, tot, hR3, hB1, hR1, hR2, hs⟩
  replace hs := of_if_f hs h21
  refine WP.stl 1 ?_
  refine WP.loadB (v := .slice a1 n1 c1) hB1 (by kernel_rfl) (by kernel_rfl) ?_
  refine WP.len (a := a1) (cp := c1) hR1.len (by kernel_rfl) ?_
  refine WP.stl 1 ?_
  refine WP.loadB (v := .slice a2 n2 c2) hB1 (by kernel_rfl) (by kernel_rfl) ?_
  refine WP.len (a := a2) (cp := c2) hR2.len (by kernel_rfl) ?_
  refine WP.stl 4 ?_
  refine WP.guard 29 (b := decide ((IntKind.i64.wrap ((l1.length : Int) + (l2.length : Int))) > 5000)) (by kernel_rfl) (fun h22 => ?_) (fun h22 => ?_)
  ·replace hs := of_if_t hs h22
   refine WP.stl 4 ?_
   refine WP.dn ?_
   refine NX.post ?_
   exact ⟨true, ⟨by kernel_rfl, by kernel_rfl⟩, tot, hR3, hB1, hR1, hR2, hs⟩
  replace hs := of_if_f hs h22
  refine WP.stl 1 ?_
  refine WP.len (a := a3) (cp := c3) hR3.len (by kernel_rfl) ?_
  refine WP.stl 2 ?_
  refine WP.dn ?_
  refine NX.post ?_
  exact ⟨decide ((l3.length : Int) > 5000), ⟨by kernel_rfl, by kernel_rfl⟩, tot, hR3, hB1, hR1, hR2, hs⟩
 clear tot hs hR3 hB1 hR1 hR2
 rintro tm g ⟨q3, hF, tot, hR3, hB1, hR1, hR2, hs⟩
 clear ds
 obtain ⟨ds, rfl⟩ := hF.open
 clear hF
 unfold F.baizelaw34_PunishBytes.c1 at hs
 refine CP.cond (b := q3) (by kernel_rfl) (fun h3 => ?_) (fun h3 => ?_)
 ·replace hs := of_if_t hs h3
  refine CP.seqR ?_
  replace hs := Option.bind_eq_some_iff.1 hs
  obtain ⟨q4, hk2, hs⟩ := hs
  have hcal2 := P.baizelaw34_known g q4 hk2
  refine WP.callC hcal2 (by kernel_rfl) ?_
  rintro _ g3 st3 rfl
  replace hR3 := hR3.mono st3 (fun x => x)
  replace hB1 := hB1.mono st3 (fun x => x)
  replace hR1 := hR1.mono st3 (fun x => x)
  replace hR2 := hR2.mono st3 (fun x => x)
  replace tot := tot.trans st3.pure
  refine WP.stl 1 ?_
  refine WP.dn ?_
  refine NX.then_n ?_
  refine CP.ret ?_
  refine NX.then_r ?_
  replace hs := Option.some.inj hs
  obtain rfl := hs
  exact NX.fin (v := .bool q4) (Res.still (by kernel_rfl)) tot htL rfl
 replace hs := of_if_f hs h3
 refine CP.skip ?_
 refine NX.then_n ?_
 refine CP.seqR ?_
 refine WP.loadB (v := AG [[.int .i64 x1], encA .u8 d1, [.int .i64 x2], encA .u8 d2, [.slice a1 n1 c1], [.slice a2 n2 c2], [.bool q1]]) hB1 (by kernel_rfl) (by kernel_rfl) ?_
 replace hs := Option.bind_eq_some_iff.1 hs
 obtain ⟨⟨x3, d3, x4, l4, d4, x5, d5, l5, l6⟩, hk3, hs⟩ := hs
 dsimp only at hs
 have hcal3 := P.baizelaw34_Of g x1 d1 x2 d2 l1 l2 q1 a1 n1 c1 a2 n2 c2 hR1 hR2 x3 d3 x4 l4 d4 x5 d5 l5 l6 hk3
 refine WP.callC hcal3 (by kernel_rfl) ?_
 rintro _ g4 st4 ⟨a4, n4, c4, a5, n5, c5, a6, n6, c6, rfl, hR4, hR5, hR6⟩
 replace hR3 := hR3.mono st4 (fun x => x)
 replace hB1 := hB1.mono st4 (fun x => x)
 replace hR1 := hR1.mono st4 (fun x => x)
 replace hR2 := hR2.mono st4 (fun x => x)
 replace tot := tot.trans st4.pure
 replace hs := Option.bind_eq_some_iff.1 hs
 obtain ⟨⟨l7, x6⟩, hk4, hs⟩ := hs
 dsimp only at hs
 have hcal4 := P.punish_Thing_Encode g4 (t + 2) x3 d3 x4 l4 d4 x5 d5 l5 l6 a4 n4 c4 a5 n5 c5 a6 n6 c6 hR4 hR5 hR6 l7 x6 hk4
 refine WP.callC hcal4 (by kernel_rfl) ?_
 rintro _ g5 st5 ⟨a7, n7, c7, rfl, hR7⟩
 replace hR3 := hR3.mono st5 (fun x => x)
 replace hB1 := hB1.mono st5 (fun x => x)
 replace hR1 := hR1.mono st5 (fun x => x)
 replace hR2 := hR2.mono st5 (fun x => x)
 replace hR4 := hR4.mono st5 (fun x => x)
 replace hR5 := hR5.mono st5 (fun x => x)
 replace hR6 := hR6.mono st5 (fun x => x)
 replace tot := tot.trans st5.pure
 refine WP.stl 5 ?_
 refine WP.dn ?_
 refine NX.then_n ?_
 refine CP.seqR ?_
 refine WP.loadB (v := AG [[.int .i64 x1], encA .u8 d1, [.int .i64 x2], encA .u8 d2, [.slice a1 n1 c1], [.slice a2 n2 c2], [.bool q1]]) hB1 (by kernel_rfl) (by kernel_rfl) ?_
 replace hs := Option.bind_eq_some_iff.1 hs
 obtain ⟨⟨l8, x7⟩, hk5, hs⟩ := hs
 dsimp only at hs
 have hcal5 := P.baizeref34_Encode g5 (t + 3) x1 d1 x2 d2 l1 l2 q1 a1 n1 c1 a2 n2 c2 hR1 hR2 l8 x7 hk5
 refine WP.callC hcal5 (by kernel_rfl) ?_
 rintro _ g6 st6 ⟨a8, n8, c8, rfl, hR8⟩
 replace hR3 := hR3.mono st6 (fun x => x)
 replace hB1 := hB1.mono st6 (fun x => x)
 replace hR1 := hR1.mono st6 (fun x => x)
 replace hR2 := hR2.mono st6 (fun x => x)
 replace hR7 := hR7.mono st6 (fun x => x) (fun x => x)
 replace tot := tot.trans st6.pure
 refine WP.stl 5 ?_
 refine WP.dn ?_
 refine NX.then_n ?_
 refine CP.refr 113 [(1, .slice a3 n3 c3), (2, .pointer (some ⟨b1, 0, none⟩)), (5, .slice a7 n7 c7), (6, .int .i64 x6), (7, .slice a8 n8 c8), (8, .int .i64 x7)] (by kernel_rfl) (by kernel_rfl) ?_
 clear ds
 intro ds
 refine CP.seqR ?_
 refine WP.stl 1 ?_
 replace hs := Option.bind_eq_some_iff.1 hs
 obtain ⟨⟨x8, d6, x9, l9, d7, x10, d8, l10, l11, x11⟩, hk6, hs⟩ := hs
 dsimp only at hs
 have hcal6 := P.punish_Decode g6 l3 a3 n3 c3 hR3 x8 d6 x9 l9 d7 x10 d8 l10 l11 x11 hk6
 refine WP.callC hcal6 (by kernel_rfl) ?_
 rintro _ g7 st7 ⟨a9, n9, c9, a10, n10, c10, a11, n11, c11, rfl, hR9, hR10, hR11⟩
 replace hR3 := hR3.mono st7 (fun x => x)
 replace hB1 := hB1.mono st7 (fun x => x)
 replace hR1 := hR1.mono st7 (fun x => x)
 replace hR2 := hR2.mono st7 (fun x => x)
 replace hR7 := hR7.mono st7 (fun x => x) (fun x => x)
 replace hR8 := hR8.mono st7 (fun x => x) (fun x => x)
 replace tot := tot.trans st7.pure
 refine WP.stl 3 ?_
 refine WP.alloc (T := 43) (t + 4) [[.int .i64 0], encA .u8 (zA 8), [.int .i64 0], [.slice none 0 0], encA .u8 (zA 8), [.int .i64 0], encA .u8 (zA 8), [.slice none 0 0], [.slice none 0 0]] [1, 8, 1, 1, 8, 1, 8, 1, 1] (by kernel_rfl) (by simp [len_encA]) ?_
 intro g8 b2 st8 hB2
 replace hR3 := hR3.mono st8 (fun x => x)
 replace hB1 := hB1.mono st8 (fun x => x)
 replace hR1 := hR1.mono st8 (fun x => x)
 replace hR2 := hR2.mono st8 (fun x => x)
 replace hR7 := hR7.mono st8 (fun x => x) (fun x => x)
 replace hR8 := hR8.mono st8 (fun x => x) (fun x => x)
 replace hR9 := hR9.mono st8 (fun x => x)
 replace hR10 := hR10.mono st8 (fun x => x)
 replace hR11 := hR11.mono st8 (fun x => x)
 replace tot := tot.trans st8.pure
 refine WP.storeB (ty := 43) (off := 0) (v := AG [[.int .i64 x8], encA .u8 d6, [.int .i64 x9], [.slice a9 n9 c9], encA .u8 d7, [.int .i64 x10], encA .u8 d8, [.slice a10 n10 c10], [.slice a11 n11 c11]]) hB2 [[.int .i64 x8], encA .u8 d6, [.int .i64 x9], [.slice a9 n9 c9], encA .u8 d7, [.int .i64 x10], encA .u8 d8, [.slice a10 n10 c10], [.slice a11 n11 c11]] [1, 8, 1, 1, 8, 1, 8, 1, 1] (by kernel_rfl) (by kernel_rfl) (by simp [len_encA]) (by kernel_rfl) [[.int .i64 x8], encA .u8 d6, [.int .i64 x9], [.slice a9 n9 c9], encA .u8 d7, [.int .i64 x10], encA .u8 d8, [.slice a10 n10 c10], [.slice a11 n11 c11]] (by kernel_rfl) (.one rfl (.arr (.one rfl (.one rfl (.arr (.one rfl (.arr (.one rfl (.one rfl .nil))))))))) ?_
 intro g9 st9 hB3
 replace hR3 := hR3.mono st9 (WL.no1 (by omega))
 replace hB1 := hB1.mono st9 (WL.no1 (by omega))
 replace hR1 := hR1.mono st9 (WL.no1 (by omega))
 replace hR2 := hR2.mono st9 (WL.no1 (by omega))
 replace hR7 := hR7.mono st9 (WL.no1 (by omega)) (WL.no1 (by omega))
 replace hR8 := hR8.mono st9 (WL.no1 (by omega)) (WL.no1 (by omega))
 replace hR9 := hR9.mono st9 (WL.no1 (by omega))
 replace hR10 := hR10.mono st9 (WL.no1 (by omega))
 replace hR11 := hR11.mono st9 (WL.no1 (by omega))
 replace tot := tot.trans (st9.up1 (.inr (by omega)))
 clear hB2
 have hB2 := hB3
 clear hB3
 refine WP.stl 1 ?_
 refine WP.dn ?_
 refine NX.then_n ?_
 refine CP.seqR ?_
 refine WP.stl 1 ?_
 replace hs := Option.bind_eq_some_iff.1 hs
 obtain ⟨⟨x12, d9, x13, d10, l12, l13, q5, x14⟩, hk7, hs⟩ := hs
 dsimp only at hs
 have hcal7 := P.baizeref34_Decode g9 (t + 5) (t + 6) l3 a3 n3 c3 hR3 x12 d9 x13 d10 l12 l13 q5 x14 hk7
 refine WP.callC hcal7 (by kernel_rfl) ?_
 rintro _ g10 st10 ⟨a12, n12, c12, a13, n13, c13, rfl, hR12, hR13⟩
 replace hR3 := hR3.mono st10 (fun x => x)
 replace hB1 := hB1.mono st10 (fun x => x)
 replace hR1 := hR1.mono st10 (fun x => x)
 replace hR2 := hR2.mono st10 (fun x => x)
 replace hR7 := hR7.mono st10 (fun x => x) (fun x => x)
 replace hR8 := hR8.mono st10 (fun x => x) (fun x => x)
 replace hB2 := hB2.mono st10 (fun x => x)
 replace hR9 := hR9.mono st10 (fun x => x)
 replace hR10 := hR10.mono st10 (fun x => x)
 replace hR11 := hR11.mono st10 (fun x => x)
 replace tot := tot.trans st10.pure
 refine WP.stl 3 ?_
 refine WP.alloc (T := 35) (t + 7) [[.int .i64 0], encA .u8 (zA 8), [.int .i64 0], encA .u8 (zA 8), [.slice none 0 0], [.slice none 0 0], [.bool false]] [1, 8, 1, 8, 1, 1, 1] (by kernel_rfl) (by simp [len_encA]) ?_
 intro g11 b3 st11 hB4
 replace hR3 := hR3.mono st11 (fun x => x)
 replace hB1 := hB1.mono st11 (fun x => x)
 replace hR1 := hR1.mono st11 (fun x => x)
 replace hR2 := hR2.mono st11 (fun x => x)
 replace hR7 := hR7.mono st11 (fun x => x) (fun x => x)
 replace hR8 := hR8.mono st11 (fun x => x) (fun x => x)
 replace hB2 := hB2.mono st11 (fun x => x)
 replace hR9 := hR9.mono st11 (fun x => x)
 replace hR10 := hR10.mono st11 (fun x => x)
 replace hR11 := hR11.mono st11 (fun x => x)
 replace hR12 := hR12.mono st11 (fun x => x) (fun x => x)
 replace hR13 := hR13.mono st11 (fun x => x) (fun x => x)
 replace tot := tot.trans st11.pure
 refine WP.storeB (ty := 35) (off := 0) (v := AG [[.int .i64 x12], encA .u8 d9, [.int .i64 x13], encA .u8 d10, [.slice a12 n12 c12], [.slice a13 n13 c13], [.bool q5]]) hB4 [[.int .i64 x12], encA .u8 d9, [.int .i64 x13], encA .u8 d10, [.slice a12 n12 c12], [.slice a13 n13 c13], [.bool q5]] [1, 8, 1, 8, 1, 1, 1] (by kernel_rfl) (by kernel_rfl) (by simp [len_encA]) (by kernel_rfl) [[.int .i64 x12], encA .u8 d9, [.int .i64 x13], encA .u8 d10, [.slice a12 n12 c12], [.slice a13 n13 c13], [.bool q5]] (by kernel_rfl) (.one rfl (.arr (.one rfl (.arr (.one rfl (.one rfl (.one rfl .nil))))))) ?_
 intro g12 st12 hB5
 replace hR3 := hR3.mono st12 (WL.no1 (by omega))
 replace hB1 := hB1.mono st12 (WL.no1 (by omega))
 replace hR1 := hR1.mono st12 (WL.no1 (by omega))
 replace hR2 := hR2.mono st12 (WL.no1 (by omega))
 replace hR7 := hR7.mono st12 (WL.no1 (by omega)) (WL.no1 (by omega))
 replace hR8 := hR8.mono st12 (WL.no1 (by omega)) (WL.no1 (by omega))
 replace hB2 := hB2.mono st12 (WL.no1 (by omega))
 replace hR9 := hR9.mono st12 (WL.no1 (by omega))
 replace hR10 := hR10.mono st12 (WL.no1 (by omega))
 replace hR11 := hR11.mono st12 (WL.no1 (by omega))
 replace hR12 := hR12.mono st12 (WL.no1 (by omega)) (WL.no1 (by omega))
 replace hR13 := hR13.mono st12 (WL.no1 (by omega)) (WL.no1 (by omega))
 replace tot := tot.trans (st12.up1 (.inr (by omega)))
 clear hB4
 have hB4 := hB5
 clear hB5
 refine WP.stl 1 ?_
 refine WP.dn ?_
 refine NX.then_n ?_
 refine CP.refr 113 [(1, .slice a3 n3 c3), (2, .pointer (some ⟨b1, 0, none⟩)), (5, .slice a7 n7 c7), (6, .int .i64 x6), (7, .slice a8 n8 c8), (8, .int .i64 x7), (9, .pointer (some ⟨b2, 0, none⟩)), (10, .int .i64 x11), (11, .pointer (some ⟨b3, 0, none⟩)), (12, .int .i64 x14)] (by kernel_rfl) (by kernel_rfl) ?_
 clear ds
 intro ds
 refine CP.seq ?_
 refine CP.cut (fun tm g => ∃ (q8 : Bool), Fr 113 [(1, .slice a3 n3 c3), (2, .pointer (some ⟨b1, 0, none⟩)), (5, .slice a7 n7 c7), (6, .int .i64 x6), (9, .pointer (some ⟨b2, 0, none⟩)), (10, .int .i64 x11), (77, .bool q8)] tm ∧ Step (fun l => NoM l ∨ t ≤ l) g0 g ∧ RdS (Kd.int .u8) g 5 a3 n3 c3 l3 ∧ Box g (t + 1) b1 35 [[.int .i64 x1], encA .u8 d1, [.int .i64 x2], encA .u8 d2, [.slice a1 n1 c1], [.slice a2 n2 c2], [.bool q1]] [1, 8, 1, 8, 1, 1, 1] ∧ RdS (Kd.int .u8) g 5 a1 n1 c1 l1 ∧ RdS (Kd.int .u8) g 5 a2 n2 c2 l2 ∧ OwnS (Kd.int .u8) g (t + 2) 5 a7 n7 c7 l7 ∧ Box g (t + 4) b2 43 [[.int .i64 x8], encA .u8 d6, [.int .i64 x9], [.slice a9 n9 c9], encA .u8 d7, [.int .i64 x10], encA .u8 d8, [.slice a10 n10 c10], [.slice a11 n11 c11]] [1, 8, 1, 1, 8, 1, 8, 1, 1] ∧ RdS (Kd.int .u8) g 5 a9 n9 c9 l9 ∧ RdS (Kd.int .u8) g 5 a10 n10 c10 l10 ∧ RdS (Kd.int .u8) g 5 a11 n11 c11 l11 ∧ (F.baizelaw34_PunishBytes.c2 x1 d1 x2 d2 l1 l2 q1 l3 l7 x6 x8 d6 x9 l9 d7 x10 d8 l10 l11 x11 q8) = some o1) ?_ ?_
 ·refine bool_split (b := (x6 != x7)) (fun h18 => ?_) (fun h18 => ?_)
  ·replace hs := of_if_t hs h18
   refine CP.drawL (by kernel_rfl) [3] N.baizelaw34_PunishBytes_1 [⟨some 0, [], [0], fun l g => l.getD 0 undef = .bool true⟩] [[]] [] [0, 1, 2] [4, 5, 6, 7, 8, 9, 10, 11, 12, 13, 14, 15, 16, 17, 18, 19, 20, 21] (by kernel_rfl) (by simp) (by simp) ⟨fun _ _ _ _ st h0 hl hj e0 => e0, tv⟩ ⟨tv, tv⟩ (by kernel_rfl) (fun vs => by kernel_rfl) ?_ ?_ ?_
   ·intro j hj
    have hq : j = 0 ∨ j = 1 ∨ j = 2 ∨ j = 3 ∨ j = 4 ∨ j = 5 ∨ j = 6 ∨ j = 7 ∨ j = 8 ∨ j = 9 ∨ j = 10 ∨ j = 11 ∨ j = 12 ∨ j = 13 ∨ j = 14 ∨ j = 15 ∨ j = 16 ∨ j = 17 := by have h : j < 18 := hj; omega
    rcases hq with rfl | rfl | rfl | rfl | rfl | rfl | rfl | rfl | rfl | rfl | rfl | rfl | rfl | rfl | rfl | rfl | rfl | rfl
    ·intro vs gq stq hl hf
     obtain ⟨v0, rfl⟩ := len_k1 hl
     have e0 := (show v0 = .bool true from hf _ (memI 0 rfl) (by kernel_rfl))
     subst e0
     show Option.isSome _ = true
     kernel_rfl
    ·intro vs gq stq hl hf
     obtain ⟨v0, rfl⟩ := len_k1 hl
     have e0 := (show v0 = .bool true from hf _ (memI 0 rfl) (by kernel_rfl))
     subst e0
     show Option.isSome _ = true
     kernel_rfl
    ·intro vs gq stq hl hf
     obtain ⟨v0, rfl⟩ := len_k1 hl
     have e0 := (show v0 = .bool true from hf _ (memI 0 rfl) (by kernel_rfl))
     subst e0
     show Option.isSome _ = true
     kernel_rfl
    ·intro vs gq stq hl hf
     obtain ⟨v0, rfl⟩ := len_k1 hl
     have e0 := (show v0 = .bool true from hf _ (memI 0 rfl) (by kernel_rfl))
     subst e0
     show Option.isSome _ = true
     kernel_rfl
    ·intro vs gq stq hl hf
     obtain ⟨v0, rfl⟩ := len_k1 hl
     have e0 := (show v0 = .bool true from hf _ (memI 0 rfl) (by kernel_rfl))
     subst e0
     show Option.isSome _ = true
     kernel_rfl
    ·intro vs gq stq hl hf
     obtain ⟨v0, rfl⟩ := len_k1 hl
     have e0 := (show v0 = .bool true from hf _ (memI 0 rfl) (by kernel_rfl))
     subst e0
     show Option.isSome _ = true
     kernel_rfl
    ·intro vs gq stq hl hf
     obtain ⟨v0, rfl⟩ := len_k1 hl
     have e0 := (show v0 = .bool true from hf _ (memI 0 rfl) (by kernel_rfl))
     subst e0
     show Option.isSome _ = true
     kernel_rfl
    ·intro vs gq stq hl hf
     obtain ⟨v0, rfl⟩ := len_k1 hl
     have e0 := (show v0 = .bool true from hf _ (memI 0 rfl) (by kernel_rfl))
     subst e0
     show Option.isSome _ = true
     kernel_rfl
    ·intro vs gq stq hl hf
     obtain ⟨v0, rfl⟩ := len_k1 hl
     have e0 := (show v0 = .bool true from hf _ (memI 0 rfl) (by kernel_rfl))
     subst e0
     show Option.isSome _ = true
     kernel_rfl
    ·intro vs gq stq hl hf
     obtain ⟨v0, rfl⟩ := len_k1 hl
     have e0 := (show v0 = .bool true from hf _ (memI 0 rfl) (by kernel_rfl))
     subst e0
     show Option.isSome _ = true
     kernel_rfl
    ·intro vs gq stq hl hf
     obtain ⟨v0, rfl⟩ := len_k1 hl
     have e0 := (show v0 = .bool true from hf _ (memI 0 rfl) (by kernel_rfl))
     subst e0
     show Option.isSome _ = true
     kernel_rfl
    ·intro vs gq stq hl hf
     obtain ⟨v0, rfl⟩ := len_k1 hl
     have e0 := (show v0 = .bool true from hf _ (memI 0 rfl) (by kernel_rfl))
     subst e0
     show Option.isSome _ = true
     kernel_rfl
    ·intro vs gq stq hl hf
     obtain ⟨v0, rfl⟩ := len_k1 hl
     have e0 := (show v0 = .bool true from hf _ (memI 0 rfl) (by kernel_rfl))
     subst e0
     show Option.isSome _ = true
     kernel_rfl
    ·intro vs gq stq hl hf
     obtain ⟨v0, rfl⟩ := len_k1 hl
     have e0 := (show v0 = .bool true from hf _ (memI 0 rfl) (by kernel_rfl))
     subst e0
     show Option.isSome _ = true
     kernel_rfl
    ·intro vs gq stq hl hf
     obtain ⟨v0, rfl⟩ := len_k1 hl
     have e0 := (show v0 = .bool true from hf _ (memI 0 rfl) (by kernel_rfl))
     subst e0
     show Option.isSome _ = true
     kernel_rfl
    ·intro vs gq stq hl hf
     obtain ⟨v0, rfl⟩ := len_k1 hl
     have e0 := (show v0 = .bool true from hf _ (memI 0 rfl) (by kernel_rfl))
     subst e0
     show Option.isSome _ = true
     kernel_rfl
    ·intro vs gq stq hl hf
     obtain ⟨v0, rfl⟩ := len_k1 hl
     have e0 := (show v0 = .bool true from hf _ (memI 0 rfl) (by kernel_rfl))
     subst e0
     show Option.isSome _ = true
     kernel_rfl
    ·intro vs gq stq hl hf
     obtain ⟨v0, rfl⟩ := len_k1 hl
     have e0 := (show v0 = .bool true from hf _ (memI 0 rfl) (by kernel_rfl))
     subst e0
     show Option.isSome _ = true
     kernel_rfl
   ·intro j hj
    have hq : j = 0 := by have h : j < 1 := hj; omega
    rcases hq with rfl
    ·intro vs gq stq hl hf
     obtain ⟨v0, rfl⟩ := len_k1 hl
     refine WP.stl 1 ?_
     refine WP.dn (Shown.ok (v := .bool (x6 != x7)) (by kernel_rfl) (Step.refl _ _) ?_)
     exact ⟨congrArg Value.bool h18, tv⟩
   intro vs g34 st34 hl hf
   obtain ⟨v0, rfl⟩ := len_k1 hl
   have e0 := (show v0 = .bool true from hf _ (memI 0 rfl) (by kernel_rfl))
   subst e0
   replace hR3 := hR3.mono st34.toNo (fun x => x)
   replace hB1 := hB1.mono st34.toNo (fun x => x)
   replace hR1 := hR1.mono st34.toNo (fun x => x)
   replace hR2 := hR2.mono st34.toNo (fun x => x)
   replace hR7 := hR7.mono st34.toNo (fun x => x) (fun x => x)
   replace hB2 := hB2.mono st34.toNo (fun x => x)
   replace hR9 := hR9.mono st34.toNo (fun x => x)
   replace hR10 := hR10.mono st34.toNo (fun x => x)
   replace hR11 := hR11.mono st34.toNo (fun x => x)
   replace tot := tot.trans st34.toNo.pure
   refine NX.post ?_
   exact ⟨true, ⟨by kernel_rfl, by kernel_rfl⟩, tot, hR3, hB1, hR1, hR2, hR7, hB2, hR9, hR10, hR11, hs⟩
  replace hs := of_if_f hs h18
  refine bool_split (b := (!((bytesStr l7).toList == (bytesStr l8).toList))) (fun h19 => ?_) (fun h19 => ?_)
  ·replace hs := of_if_t hs h19
   refine CP.drawL (by kernel_rfl) [3, 5, 7, 10] N.baizelaw34_PunishBytes_1 [⟨none, [], [], fun l g => OwnS (Kd.int .u8) g (t + 2) 5 a7 n7 c7 l7⟩, ⟨none, [], [], fun l g => OwnS (Kd.int .u8) g (t + 3) 5 a8 n8 c8 l8⟩, ⟨some 0, [], [0], fun l g => l.getD 0 undef = .bool false⟩, ⟨some 1, [], [1], fun l g => l.getD 0 undef = .string (bytesStr l7)⟩, ⟨some 2, [], [2], fun l g => l.getD 0 undef = .string (bytesStr l8)⟩, ⟨some 3, [], [3], fun l g => l.getD 0 undef = .bool true⟩] [[], [], [], []] [] [0, 1, 2] [4, 6, 8, 9, 11, 12, 13, 14, 15, 16, 17, 18, 19, 20, 21] (by kernel_rfl) (by simp) (by simp) ⟨fun _ _ _ _ st h0 hl hj hR7 => (hR7.mono st h0 (fun h => absurd (hl _ h) (by simp))), fun _ _ _ _ st h0 hl hj hR8 => (hR8.mono st h0 (fun h => absurd (hl _ h) (by simp))), fun _ _ _ _ st h0 hl hj e0 => e0, fun _ _ _ _ st h0 hl hj e1 => e1, fun _ _ _ _ st h0 hl hj e2 => e2, fun _ _ _ _ st h0 hl hj e3 => e3, tv⟩ ⟨hR7, hR8, tv, tv, tv, tv, tv⟩ (by kernel_rfl) (fun vs => by kernel_rfl) ?_ ?_ ?_
   ·intro j hj
    have hq : j = 0 ∨ j = 1 ∨ j = 2 ∨ j = 3 ∨ j = 4 ∨ j = 5 ∨ j = 6 ∨ j = 7 ∨ j = 8 ∨ j = 9 ∨ j = 10 ∨ j = 11 ∨ j = 12 ∨ j = 13 ∨ j = 14 := by have h : j < 15 := hj; omega
    rcases hq with rfl | rfl | rfl | rfl | rfl | rfl | rfl | rfl | rfl | rfl | rfl | rfl | rfl | rfl | rfl
    ·intro vs gq stq hl hf
     obtain ⟨v0, v1, v2, v3, rfl⟩ := len_k4 hl
     have e0 := (show v0 = .bool false from hf _ (memI 2 rfl) (by kernel_rfl))
     subst e0
     show Option.isSome _ = true
     kernel_rfl
    ·intro vs gq stq hl hf
     obtain ⟨v0, v1, v2, v3, rfl⟩ := len_k4 hl
     have e0 := (show v0 = .bool false from hf _ (memI 2 rfl) (by kernel_rfl))
     subst e0
     show Option.isSome _ = true
     kernel_rfl
    ·intro vs gq stq hl hf
     obtain ⟨v0, v1, v2, v3, rfl⟩ := len_k4 hl
     have e0 := (show v0 = .bool false from hf _ (memI 2 rfl) (by kernel_rfl))
     subst e0
     have e1 := (show v1 = .string (bytesStr l7) from hf _ (memI 3 rfl) (by kernel_rfl))
     subst e1
     have e2 := (show v2 = .string (bytesStr l8) from hf _ (memI 4 rfl) (by kernel_rfl))
     subst e2
     show Option.isSome _ = true
     kernel_rfl
    ·intro vs gq stq hl hf
     obtain ⟨v0, v1, v2, v3, rfl⟩ := len_k4 hl
     have e0 := (show v0 = .bool false from hf _ (memI 2 rfl) (by kernel_rfl))
     subst e0
     have e1 := (show v1 = .string (bytesStr l7) from hf _ (memI 3 rfl) (by kernel_rfl))
     subst e1
     have e2 := (show v2 = .string (bytesStr l8) from hf _ (memI 4 rfl) (by kernel_rfl))
     subst e2
     show Option.isSome _ = true
     kernel_rfl
    ·intro vs gq stq hl hf
     obtain ⟨v0, v1, v2, v3, rfl⟩ := len_k4 hl
     have e3 := (show v3 = .bool true from hf _ (memI 5 rfl) (by kernel_rfl))
     subst e3
     show Option.isSome _ = true
     kernel_rfl
    ·intro vs gq stq hl hf
     obtain ⟨v0, v1, v2, v3, rfl⟩ := len_k4 hl
     have e3 := (show v3 = .bool true from hf _ (memI 5 rfl) (by kernel_rfl))
     subst e3
     show Option.isSome _ = true
     kernel_rfl
    ·intro vs gq stq hl hf
     obtain ⟨v0, v1, v2, v3, rfl⟩ := len_k4 hl
     have e3 := (show v3 = .bool true from hf _ (memI 5 rfl) (by kernel_rfl))
     subst e3
     show Option.isSome _ = true
     kernel_rfl
    ·intro vs gq stq hl hf
     obtain ⟨v0, v1, v2, v3, rfl⟩ := len_k4 hl
     have e3 := (show v3 = .bool true from hf _ (memI 5 rfl) (by kernel_rfl))
     subst e3
     show Option.isSome _ = true
     kernel_rfl
    ·intro vs gq stq hl hf
     obtain ⟨v0, v1, v2, v3, rfl⟩ := len_k4 hl
     have e3 := (show v3 = .bool true from hf _ (memI 5 rfl) (by kernel_rfl))
     subst e3
     show Option.isSome _ = true
     kernel_rfl
    ·intro vs gq stq hl hf
     obtain ⟨v0, v1, v2, v3, rfl⟩ := len_k4 hl
     have e3 := (show v3 = .bool true from hf _ (memI 5 rfl) (by kernel_rfl))
     subst e3
     show Option.isSome _ = true
     kernel_rfl
    ·intro vs gq stq hl hf
     obtain ⟨v0, v1, v2, v3, rfl⟩ := len_k4 hl
     have e3 := (show v3 = .bool true from hf _ (memI 5 rfl) (by kernel_rfl))
     subst e3
     show Option.isSome _ = true
     kernel_rfl
    ·intro vs gq stq hl hf
     obtain ⟨v0, v1, v2, v3, rfl⟩ := len_k4 hl
     have e3 := (show v3 = .bool true from hf _ (memI 5 rfl) (by kernel_rfl))
     subst e3
     show Option.isSome _ = true
     kernel_rfl
    ·intro vs gq stq hl hf
     obtain ⟨v0, v1, v2, v3, rfl⟩ := len_k4 hl
     have e3 := (show v3 = .bool true from hf _ (memI 5 rfl) (by kernel_rfl))
     subst e3
     show Option.isSome _ = true
     kernel_rfl
    ·intro vs gq stq hl hf
     obtain ⟨v0, v1, v2, v3, rfl⟩ := len_k4 hl
     have e3 := (show v3 = .bool true from hf _ (memI 5 rfl) (by kernel_rfl))
     subst e3
     show Option.isSome _ = true
     kernel_rfl
    ·intro vs gq stq hl hf
     obtain ⟨v0, v1, v2, v3, rfl⟩ := len_k4 hl
     have e3 := (show v3 = .bool true from hf _ (memI 5 rfl) (by kernel_rfl))
     subst e3
     show Option.isSome _ = true
     kernel_rfl
   ·intro j hj
    have hq : j = 0 ∨ j = 1 ∨ j = 2 ∨ j = 3 := by have h : j < 4 := hj; omega
    rcases hq with rfl | rfl | rfl | rfl
    ·intro vs gq stq hl hf
     obtain ⟨v0, v1, v2, v3, rfl⟩ := len_k4 hl
     refine WP.stl 1 ?_
     refine WP.dn (Shown.ok (v := .bool (x6 != x7)) (by kernel_rfl) (Step.refl _ _) ?_)
     exact ⟨tv, tv, congrArg Value.bool h18, tv, tv, tv, tv⟩
    ·intro vs gq stq hl hf
     obtain ⟨v0, v1, v2, v3, rfl⟩ := len_k4 hl
     have hR7 := (show OwnS (Kd.int .u8) gq (t + 2) 5 a7 n7 c7 l7 from hf _ (memI 0 rfl) (by kernel_rfl))
     have e0 := (show v0 = .bool false from hf _ (memI 2 rfl) (by kernel_rfl))
     subst e0
     refine WP.toStr (a := a7) (cp := c7) hR7.src hR7.len (by kernel_rfl) ?_
     refine WP.dn (Shown.ok (v := .string (bytesStr l7)) (by kernel_rfl) (Step.refl _ _) ?_)
     exact ⟨tv, tv, tv, rfl, tv, tv, tv⟩
    ·intro vs gq stq hl hf
     obtain ⟨v0, v1, v2, v3, rfl⟩ := len_k4 hl
     have hR8 := (show OwnS (Kd.int .u8) gq (t + 3) 5 a8 n8 c8 l8 from hf _ (memI 1 rfl) (by kernel_rfl))
     have e0 := (show v0 = .bool false from hf _ (memI 2 rfl) (by kernel_rfl))
     subst e0
     refine WP.toStr (a := a8) (cp := c8) hR8.src hR8.len (by kernel_rfl) ?_
     refine WP.dn (Shown.ok (v := .string (bytesStr l8)) (by kernel_rfl) (Step.refl _ _) ?_)
     exact ⟨tv, tv, tv, tv, rfl, tv, tv⟩
    ·intro vs gq stq hl hf
     obtain ⟨v0, v1, v2, v3, rfl⟩ := len_k4 hl
     have e0 := (show v0 = .bool false from hf _ (memI 2 rfl) (by kernel_rfl))
     subst e0
     have e1 := (show v1 = .string (bytesStr l7) from hf _ (memI 3 rfl) (by kernel_rfl))
     subst e1
     have e2 := (show v2 = .string (bytesStr l8) from hf _ (memI 4 rfl) (by kernel_rfl))
     subst e2
     refine WP.stl 1 ?_
     refine WP.dn (Shown.ok (v := .bool (!((bytesStr l7).toList == (bytesStr l8).toList))) (by kernel_rfl) (Step.refl _ _) ?_)
     exact ⟨tv, tv, tv, tv, tv, congrArg Value.bool h19, tv⟩
   intro vs g35 st35 hl hf
   obtain ⟨v0, v1, v2, v3, rfl⟩ := len_k4 hl
   have e3 := (show v3 = .bool true from hf _ (memI 5 rfl) (by kernel_rfl))
   subst e3
   replace hR3 := hR3.mono st35.toNo (fun x => x)
   replace hB1 := hB1.mono st35.toNo (fun x => x)
   replace hR1 := hR1.mono st35.toNo (fun x => x)
   replace hR2 := hR2.mono st35.toNo (fun x => x)
   replace hR7 := hR7.mono st35.toNo (fun x => x) (fun x => x)
   replace hB2 := hB2.mono st35.toNo (fun x => x)
   replace hR9 := hR9.mono st35.toNo (fun x => x)
   replace hR10 := hR10.mono st35.toNo (fun x => x)
   replace hR11 := hR11.mono st35.toNo (fun x => x)
   replace tot := tot.trans st35.toNo.pure
   refine NX.post ?_
   exact ⟨true, ⟨by kernel_rfl, by kernel_rfl⟩, tot, hR3, hB1, hR1, hR2, hR7, hB2, hR9, hR10, hR11, hs⟩
  replace hs := of_if_f hs h19
  refine bool_split (b := (x11 != x14)) (fun h20 => ?_) (fun h20 => ?_)
  ·replace hs := of_if_t hs h20
   refine CP.drawL (by kernel_rfl) [3, 5, 7, 10, 15] N.baizelaw34_PunishBytes_1 [⟨none, [], [], fun l g => OwnS (Kd.int .u8) g (t + 2) 5 a7 n7 c7 l7⟩, ⟨none, [], [], fun l g => OwnS (Kd.int .u8) g (t + 3) 5 a8 n8 c8 l8⟩, ⟨some 0, [], [0], fun l g => l.getD 0 undef = .bool false⟩, ⟨some 1, [], [1], fun l g => l.getD 0 undef = .string (bytesStr l7)⟩, ⟨some 2, [], [2], fun l g => l.getD 0 undef = .string (bytesStr l8)⟩, ⟨some 3, [], [3], fun l g => l.getD 0 undef = .bool false⟩, ⟨some 4, [], [4], fun l g => l.getD 0 undef = .bool true⟩] [[], [], [], [], []] [] [0, 1, 2] [4, 6, 8, 9, 11, 12, 13, 14, 16, 17, 18, 19, 20, 21] (by kernel_rfl) (by simp) (by simp) ⟨fun _ _ _ _ st h0 hl hj hR7 => (hR7.mono st h0 (fun h => absurd (hl _ h) (by simp))), fun _ _ _ _ st h0 hl hj hR8 => (hR8.mono st h0 (fun h => absurd (hl _ h) (by simp))), fun _ _ _ _ st h0 hl hj e0 => e0, fun _ _ _ _ st h0 hl hj e1 => e1, fun _ _ _ _ st h0 hl hj e2 => e2, fun _ _ _ _ st h0 hl hj e3 => e3, fun _ _ _ _ st h0 hl hj e4 => e4, tv⟩ ⟨hR7, hR8, tv, tv, tv, tv, tv, tv⟩ (by kernel_rfl) (fun vs => by kernel_rfl) ?_ ?_ ?_
   ·intro j hj
    have hq : j = 0 ∨ j = 1 ∨ j = 2 ∨ j = 3 ∨ j = 4 ∨ j = 5 ∨ j = 6 ∨ j = 7 ∨ j = 8 ∨ j = 9 ∨ j = 10 ∨ j = 11 ∨ j = 12 ∨ j = 13 := by have h : j < 14 := hj; omega
    rcases hq with rfl | rfl | rfl | rfl | rfl | rfl | rfl | rfl | rfl | rfl | rfl | rfl | rfl | rfl
    ·intro vs gq stq hl hf
     obtain ⟨v0, v1, v2, v3, v4, rfl⟩ := len_k5 hl
     have e0 := (show v0 = .bool false from hf _ (memI 2 rfl) (by kernel_rfl))
     subst e0
     show Option.isSome _ = true
     kernel_rfl
    ·intro vs gq stq hl hf
     obtain ⟨v0, v1, v2, v3, v4, rfl⟩ := len_k5 hl
     have e0 := (show v0 = .bool false from hf _ (memI 2 rfl) (by kernel_rfl))
     subst e0
     show Option.isSome _ = true
     kernel_rfl
    ·intro vs gq stq hl hf
     obtain ⟨v0, v1, v2, v3, v4, rfl⟩ := len_k5 hl
     have e0 := (show v0 = .bool false from hf _ (memI 2 rfl) (by kernel_rfl))
     subst e0
     have e1 := (show v1 = .string (bytesStr l7) from hf _ (memI 3 rfl) (by kernel_rfl))
     subst e1
     have e2 := (show v2 = .string (bytesStr l8) from hf _ (memI 4 rfl) (by kernel_rfl))
     subst e2
     show Option.isSome _ = true
     kernel_rfl
    ·intro vs gq stq hl hf
     obtain ⟨v0, v1, v2, v3, v4, rfl⟩ := len_k5 hl
     have e0 := (show v0 = .bool false from hf _ (memI 2 rfl) (by kernel_rfl))
     subst e0
     have e1 := (show v1 = .string (bytesStr l7) from hf _ (memI 3 rfl) (by kernel_rfl))
     subst e1
     have e2 := (show v2 = .string (bytesStr l8) from hf _ (memI 4 rfl) (by kernel_rfl))
     subst e2
     show Option.isSome _ = true
     kernel_rfl
    ·intro vs gq stq hl hf
     obtain ⟨v0, v1, v2, v3, v4, rfl⟩ := len_k5 hl
     have e3 := (show v3 = .bool false from hf _ (memI 5 rfl) (by kernel_rfl))
     subst e3
     show Option.isSome _ = true
     kernel_rfl
    ·intro vs gq stq hl hf
     obtain ⟨v0, v1, v2, v3, v4, rfl⟩ := len_k5 hl
     have e3 := (show v3 = .bool false from hf _ (memI 5 rfl) (by kernel_rfl))
     subst e3
     show Option.isSome _ = true
     kernel_rfl
    ·intro vs gq stq hl hf
     obtain ⟨v0, v1, v2, v3, v4, rfl⟩ := len_k5 hl
     have e3 := (show v3 = .bool false from hf _ (memI 5 rfl) (by kernel_rfl))
     subst e3
     show Option.isSome _ = true
     kernel_rfl
    ·intro vs gq stq hl hf
     obtain ⟨v0, v1, v2, v3, v4, rfl⟩ := len_k5 hl
     have e3 := (show v3 = .bool false from hf _ (memI 5 rfl) (by kernel_rfl))
     subst e3
     show Option.isSome _ = true
     kernel_rfl
    ·intro vs gq stq hl hf
     obtain ⟨v0, v1, v2, v3, v4, rfl⟩ := len_k5 hl
     have e4 := (show v4 = .bool true from hf _ (memI 6 rfl) (by kernel_rfl))
     subst e4
     show Option.isSome _ = true
     kernel_rfl
    ·intro vs gq stq hl hf
     obtain ⟨v0, v1, v2, v3, v4, rfl⟩ := len_k5 hl
     have e4 := (show v4 = .bool true from hf _ (memI 6 rfl) (by kernel_rfl))
     subst e4
     show Option.isSome _ = true
     kernel_rfl
    ·intro vs gq stq hl hf
     obtain ⟨v0, v1, v2, v3, v4, rfl⟩ := len_k5 hl
     have e4 := (show v4 = .bool true from hf _ (memI 6 rfl) (by kernel_rfl))
     subst e4
     show Option.isSome _ = true
     kernel_rfl
    ·intro vs gq stq hl hf
     obtain ⟨v0, v1, v2, v3, v4, rfl⟩ := len_k5 hl
     have e4 := (show v4 = .bool true from hf _ (memI 6 rfl) (by kernel_rfl))
     subst e4
     show Option.isSome _ = true
     kernel_rfl
    ·intro vs gq stq hl hf
     obtain ⟨v0, v1, v2, v3, v4, rfl⟩ := len_k5 hl
     have e4 := (show v4 = .bool true from hf _ (memI 6 rfl) (by kernel_rfl))
     subst e4
     show Option.isSome _ = true
     kernel_rfl
    ·intro vs gq stq hl hf
     obtain ⟨v0, v1, v2, v3, v4, rfl⟩ := len_k5 hl
     have e4 := (show v4 = .bool true from hf _ (memI 6 rfl) (by kernel_rfl))
     subst e4
     show Option.isSome _ = true
     kernel_rfl
   ·intro j hj
    have hq : j = 0 ∨ j = 1 ∨ j = 2 ∨ j = 3 ∨ j = 4 := by have h : j < 5 := hj; omega
    rcases hq with rfl | rfl | rfl | rfl | rfl
    ·intro vs gq stq hl hf
     obtain ⟨v0, v1, v2, v3, v4, rfl⟩ := len_k5 hl
     refine WP.stl 1 ?_
     refine WP.dn (Shown.ok (v := .bool (x6 != x7)) (by kernel_rfl) (Step.refl _ _) ?_)
     exact ⟨tv, tv, congrArg Value.bool h18, tv, tv, tv, tv, tv⟩
    ·intro vs gq stq hl hf
     obtain ⟨v0, v1, v2, v3, v4, rfl⟩ := len_k5 hl
     have hR7 := (show OwnS (Kd.int .u8) gq (t + 2) 5 a7 n7 c7 l7 from hf _ (memI 0 rfl) (by kernel_rfl))
     have e0 := (show v0 = .bool false from hf _ (memI 2 rfl) (by kernel_rfl))
     subst e0
     refine WP.toStr (a := a7) (cp := c7) hR7.src hR7.len (by kernel_rfl) ?_
     refine WP.dn (Shown.ok (v := .string (bytesStr l7)) (by kernel_rfl) (Step.refl _ _) ?_)
     exact ⟨tv, tv, tv, rfl, tv, tv, tv, tv⟩
    ·intro vs gq stq hl hf
     obtain ⟨v0, v1, v2, v3, v4, rfl⟩ := len_k5 hl
     have hR8 := (show OwnS (Kd.int .u8) gq (t + 3) 5 a8 n8 c8 l8 from hf _ (memI 1 rfl) (by kernel_rfl))
     have e0 := (show v0 = .bool false from hf _ (memI 2 rfl) (by kernel_rfl))
     subst e0
     refine WP.toStr (a := a8) (cp := c8) hR8.src hR8.len (by kernel_rfl) ?_
     refine WP.dn (Shown.ok (v := .string (bytesStr l8)) (by kernel_rfl) (Step.refl _ _) ?_)
     exact ⟨tv, tv, tv, tv, rfl, tv, tv, tv⟩
    ·intro vs gq stq hl hf
     obtain ⟨v0, v1, v2, v3, v4, rfl⟩ := len_k5 hl
     have e0 := (show v0 = .bool false from hf _ (memI 2 rfl) (by kernel_rfl))
     subst e0
     have e1 := (show v1 = .string (bytesStr l7) from hf _ (memI 3 rfl) (by kernel_rfl))
     subst e1
     have e2 := (show v2 = .string (bytesStr l8) from hf _ (memI 4 rfl) (by kernel_rfl))
     subst e2
     refine WP.stl 1 ?_
     refine WP.dn (Shown.ok (v := .bool (!((bytesStr l7).toList == (bytesStr l8).toList))) (by kernel_rfl) (Step.refl _ _) ?_)
     exact ⟨tv, tv, tv, tv, tv, congrArg Value.bool h19, tv, tv⟩
    ·intro vs gq stq hl hf
     obtain ⟨v0, v1, v2, v3, v4, rfl⟩ := len_k5 hl
     have e3 := (show v3 = .bool false from hf _ (memI 5 rfl) (by kernel_rfl))
     subst e3
     refine WP.stl 1 ?_
     refine WP.dn (Shown.ok (v := .bool (x11 != x14)) (by kernel_rfl) (Step.refl _ _) ?_)
     exact ⟨tv, tv, tv, tv, tv, tv, congrArg Value.bool h20, tv⟩
   intro vs g36 st36 hl hf
   obtain ⟨v0, v1, v2, v3, v4, rfl⟩ := len_k5 hl
   have e4 := (show v4 = .bool true from hf _ (memI 6 rfl) (by kernel_rfl))
   subst e4
   replace hR3 := hR3.mono st36.toNo (fun x => x)
   replace hB1 := hB1.mono st36.toNo (fun x => x)
   replace hR1 := hR1.mono st36.toNo (fun x => x)
   replace hR2 := hR2.mono st36.toNo (fun x => x)
   replace hR7 := hR7.mono st36.toNo (fun x => x) (fun x => x)
   replace hB2 := hB2.mono st36.toNo (fun x => x)
   replace hR9 := hR9.mono st36.toNo (fun x => x)
   replace hR10 := hR10.mono st36.toNo (fun x => x)
   replace hR11 := hR11.mono st36.toNo (fun x => x)
   replace tot := tot.trans st36.toNo.pure
   refine NX.post ?_
   exact ⟨true, ⟨by kernel_rfl, by kernel_rfl⟩, tot, hR3, hB1, hR1, hR2, hR7, hB2, hR9, hR10, hR11, hs⟩
  replace hs := of_if_f hs h20
  replace hs := Option.bind_eq_some_iff.1 hs
  obtain ⟨⟨x35, d28, x36, d29, l32, l33, q16⟩, hk20, hs⟩ := hs
  dsimp only at hs
  replace hs := Option.bind_eq_some_iff.1 hs
  obtain ⟨q17, hk21, hs⟩ := hs
  refine CP.drawL (by kernel_rfl) [3, 5, 7, 10, 15, 16, 17, 18, 19] N.baizelaw34_PunishBytes_1 [⟨none, [], [], fun l g => OwnS (Kd.int .u8) g (t + 2) 5 a7 n7 c7 l7⟩, ⟨none, [], [], fun l g => OwnS (Kd.int .u8) g (t + 3) 5 a8 n8 c8 l8⟩, ⟨none, [], [], fun l g => Box g (t + 4) b2 43 [[.int .i64 x8], encA .u8 d6, [.int .i64 x9], [.slice a9 n9 c9], encA .u8 d7, [.int .i64 x10], encA .u8 d8, [.slice a10 n10 c10], [.slice a11 n11 c11]] [1, 8, 1, 1, 8, 1, 8, 1, 1]⟩, ⟨none, [], [], fun l g => RdS (Kd.int .u8) g 5 a9 n9 c9 l9⟩, ⟨none, [], [], fun l g => RdS (Kd.int .u8) g 5 a10 n10 c10 l10⟩, ⟨none, [], [], fun l g => RdS (Kd.int .u8) g 5 a11 n11 c11 l11⟩, ⟨none, [], [], fun l g => Box g (t + 7) b3 35 [[.int .i64 x12], encA .u8 d9, [.int .i64 x13], encA .u8 d10, [.slice a12 n12 c12], [.slice a13 n13 c13], [.bool q5]] [1, 8, 1, 8, 1, 1, 1]⟩, ⟨none, [0], [], fun l g => OwnS (Kd.int .u8) g (t + 5) 5 a12 n12 c12 l12⟩, ⟨none, [1], [], fun l g => OwnS (Kd.int .u8) g (t + 6) 5 a13 n13 c13 l13⟩, ⟨some 0, [], [0], fun l g => l.getD 0 undef = .bool false⟩, ⟨some 1, [], [1], fun l g => l.getD 0 undef = .string (bytesStr l7)⟩, ⟨some 2, [], [2], fun l g => l.getD 0 undef = .string (bytesStr l8)⟩, ⟨some 3, [], [3], fun l g => l.getD 0 undef = .bool false⟩, ⟨some 4, [], [4], fun l g => l.getD 0 undef = .bool false⟩, ⟨some 5, [], [5], fun l g => l.getD 0 undef = AG [[.int .i64 x8], encA .u8 d6, [.int .i64 x9], [.slice a9 n9 c9], encA .u8 d7, [.int .i64 x10], encA .u8 d8, [.slice a10 n10 c10], [.slice a11 n11 c11]]⟩, ⟨some 6, [], [6], fun l g => ∃ (a32 : Option Addr) (c32 : Nat) (a33 : Option Addr) (c33 : Nat), l.getD 0 undef = AG [[.int .i64 x35], encA .u8 d28, [.int .i64 x36], encA .u8 d29, [.slice a32 l32.length c32], [.slice a33 l33.length c33], [.bool q16]] ∧ RdS (Kd.int .u8) g 5 a32 l32.length c32 l32 ∧ RdS (Kd.int .u8) g 5 a33 l33.length c33 l33⟩, ⟨some 7, [], [7], fun l g => l.getD 0 undef = AG [[.int .i64 x12], encA .u8 d9, [.int .i64 x13], encA .u8 d10, [.slice a12 n12 c12], [.slice a13 n13 c13], [.bool q5]]⟩, ⟨some 8, [], [8], fun l g => l.getD 0 undef = .bool q17⟩, ⟨some 8, [0], [], fun l g => OwnS (Kd.int .u8) g (t + 5) 5 a12 n12 c12 l12⟩, ⟨some 8, [1], [], fun l g => OwnS (Kd.int .u8) g (t + 6) 5 a13 n13 c13 l13⟩] [[], [], [], [], [], [], [], [], [0, 1]] [(t + 5), (t + 6)] [0, 1, 2] [4, 6, 8, 9, 11, 12, 13, 14, 20, 21] (by kernel_rfl) (by simp <;> omega) (by simp <;> omega) ⟨fun _ _ _ _ st h0 hl hj hR7 => (hR7.mono st h0 (fun h => absurd (hl _ h) (by simp <;> omega))), fun _ _ _ _ st h0 hl hj hR8 => (hR8.mono st h0 (fun h => absurd (hl _ h) (by simp <;> omega))), fun _ _ _ _ st h0 hl hj hB2 => (hB2.mono st (fun h => absurd (hl _ h) (by simp <;> omega))), fun _ _ _ _ st h0 hl hj hR9 => (RdS.mono (e := 5) hR9 st h0), fun _ _ _ _ st h0 hl hj hR10 => (RdS.mono (e := 5) hR10 st h0), fun _ _ _ _ st h0 hl hj hR11 => (RdS.mono (e := 5) hR11 st h0), fun _ _ _ _ st h0 hl hj hB4 => (hB4.mono st (fun h => absurd (hl _ h) (by simp <;> omega))), fun _ _ _ _ st h0 hl hj hR12 => (hR12.mono st h0 (hj 0 (by simp) _ rfl)), fun _ _ _ _ st h0 hl hj hR13 => (hR13.mono st h0 (hj 1 (by simp) _ rfl)), fun _ _ _ _ st h0 hl hj e0 => e0, fun _ _ _ _ st h0 hl hj e1 => e1, fun _ _ _ _ st h0 hl hj e2 => e2, fun _ _ _ _ st h0 hl hj e3 => e3, fun _ _ _ _ st h0 hl hj e4 => e4, fun _ _ _ _ st h0 hl hj e5 => e5, fun _ _ _ _ st h0 hl hj ⟨a32, c32, a33, c33, e6, hR32, hR33⟩ => ⟨a32, c32, a33, c33, e6, (RdS.mono (e := 5) hR32 st h0), (RdS.mono (e := 5) hR33 st h0)⟩, fun _ _ _ _ st h0 hl hj e7 => e7, fun _ _ _ _ st h0 hl hj e8 => e8, fun _ _ _ _ st h0 hl hj hR12 => (hR12.mono st h0 (hj 0 (by simp) _ rfl)), fun _ _ _ _ st h0 hl hj hR13 => (hR13.mono st h0 (hj 1 (by simp) _ rfl)), tv⟩ ⟨hR7, hR8, hB2, hR9, hR10, hR11, hB4, hR12, hR13, tv, tv, tv, tv, tv, tv, tv, tv, tv, tv, tv, tv⟩ (by kernel_rfl) (fun vs => by kernel_rfl) ?_ ?_ ?_
  ·intro j hj
   have hq : j = 0 ∨ j = 1 ∨ j = 2 ∨ j = 3 ∨ j = 4 ∨ j = 5 ∨ j = 6 ∨ j = 7 ∨ j = 8 ∨ j = 9 := by have h : j < 10 := hj; omega
   rcases hq with rfl | rfl | rfl | rfl | rfl | rfl | rfl | rfl | rfl | rfl
   ·intro vs gq stq hl hf
    obtain ⟨v0, v1, v2, v3, v4, v5, v6, v7, v8, rfl⟩ := len_k9 hl
    have e0 := (show v0 = .bool false from hf _ (memI 9 rfl) (by kernel_rfl))
    subst e0
    show Option.isSome _ = true
    kernel_rfl
   ·intro vs gq stq hl hf
    obtain ⟨v0, v1, v2, v3, v4, v5, v6, v7, v8, rfl⟩ := len_k9 hl
    have e0 := (show v0 = .bool false from hf _ (memI 9 rfl) (by kernel_rfl))
    subst e0
    show Option.isSome _ = true
    kernel_rfl
   ·intro vs gq stq hl hf
    obtain ⟨v0, v1, v2, v3, v4, v5, v6, v7, v8, rfl⟩ := len_k9 hl
    have e0 := (show v0 = .bool false from hf _ (memI 9 rfl) (by kernel_rfl))
    subst e0
    have e1 := (show v1 = .string (bytesStr l7) from hf _ (memI 10 rfl) (by kernel_rfl))
    subst e1
    have e2 := (show v2 = .string (bytesStr l8) from hf _ (memI 11 rfl) (by kernel_rfl))
    subst e2
    show Option.isSome _ = true
    kernel_rfl
   ·intro vs gq stq hl hf
    obtain ⟨v0, v1, v2, v3, v4, v5, v6, v7, v8, rfl⟩ := len_k9 hl
    have e0 := (show v0 = .bool false from hf _ (memI 9 rfl) (by kernel_rfl))
    subst e0
    have e1 := (show v1 = .string (bytesStr l7) from hf _ (memI 10 rfl) (by kernel_rfl))
    subst e1
    have e2 := (show v2 = .string (bytesStr l8) from hf _ (memI 11 rfl) (by kernel_rfl))
    subst e2
    show Option.isSome _ = true
    kernel_rfl
   ·intro vs gq stq hl hf
    obtain ⟨v0, v1, v2, v3, v4, v5, v6, v7, v8, rfl⟩ := len_k9 hl
    have e3 := (show v3 = .bool false from hf _ (memI 12 rfl) (by kernel_rfl))
    subst e3
    show Option.isSome _ = true
    kernel_rfl
   ·intro vs gq stq hl hf
    obtain ⟨v0, v1, v2, v3, v4, v5, v6, v7, v8, rfl⟩ := len_k9 hl
    have e3 := (show v3 = .bool false from hf _ (memI 12 rfl) (by kernel_rfl))
    subst e3
    show Option.isSome _ = true
    kernel_rfl
   ·intro vs gq stq hl hf
    obtain ⟨v0, v1, v2, v3, v4, v5, v6, v7, v8, rfl⟩ := len_k9 hl
    have e3 := (show v3 = .bool false from hf _ (memI 12 rfl) (by kernel_rfl))
    subst e3
    show Option.isSome _ = true
    kernel_rfl
   ·intro vs gq stq hl hf
    obtain ⟨v0, v1, v2, v3, v4, v5, v6, v7, v8, rfl⟩ := len_k9 hl
    have e3 := (show v3 = .bool false from hf _ (memI 12 rfl) (by kernel_rfl))
    subst e3
    show Option.isSome _ = true
    kernel_rfl
   ·intro vs gq stq hl hf
    obtain ⟨v0, v1, v2, v3, v4, v5, v6, v7, v8, rfl⟩ := len_k9 hl
    have e4 := (show v4 = .bool false from hf _ (memI 13 rfl) (by kernel_rfl))
    subst e4
    have e8 := (show v8 = .bool q17 from hf _ (memI 17 rfl) (by kernel_rfl))
    subst e8
    show Option.isSome _ = true
    kernel_rfl
   ·intro vs gq stq hl hf
    obtain ⟨v0, v1, v2, v3, v4, v5, v6, v7, v8, rfl⟩ := len_k9 hl
    have e4 := (show v4 = .bool false from hf _ (memI 13 rfl) (by kernel_rfl))
    subst e4
    have e8 := (show v8 = .bool q17 from hf _ (memI 17 rfl) (by kernel_rfl))
    subst e8
    show Option.isSome _ = true
    kernel_rfl
  ·intro j hj
   have hq : j = 0 ∨ j = 1 ∨ j = 2 ∨ j = 3 ∨ j = 4 ∨ j = 5 ∨ j = 6 ∨ j = 7 ∨ j = 8 := by have h : j < 9 := hj; omega
   rcases hq with rfl | rfl | rfl | rfl | rfl | rfl | rfl | rfl | rfl
   ·intro vs gq stq hl hf
    obtain ⟨v0, v1, v2, v3, v4, v5, v6, v7, v8, rfl⟩ := len_k9 hl
    refine WP.stl 1 ?_
    refine WP.dn (Shown.ok (v := .bool (x6 != x7)) (by kernel_rfl) (Step.refl _ _) ?_)
    exact ⟨tv, tv, tv, tv, tv, tv, tv, tv, tv, congrArg Value.bool h18, tv, tv, tv, tv, tv, tv, tv, tv, tv, tv, tv⟩
   ·intro vs gq stq hl hf
    obtain ⟨v0, v1, v2, v3, v4, v5, v6, v7, v8, rfl⟩ := len_k9 hl
    have hR7 := (show OwnS (Kd.int .u8) gq (t + 2) 5 a7 n7 c7 l7 from hf _ (memI 0 rfl) (by kernel_rfl))
    have e0 := (show v0 = .bool false from hf _ (memI 9 rfl) (by kernel_rfl))
    subst e0
    refine WP.toStr (a := a7) (cp := c7) hR7.src hR7.len (by kernel_rfl) ?_
    refine WP.dn (Shown.ok (v := .string (bytesStr l7)) (by kernel_rfl) (Step.refl _ _) ?_)
    exact ⟨tv, tv, tv, tv, tv, tv, tv, tv, tv, tv, rfl, tv, tv, tv, tv, tv, tv, tv, tv, tv, tv⟩
   ·intro vs gq stq hl hf
    obtain ⟨v0, v1, v2, v3, v4, v5, v6, v7, v8, rfl⟩ := len_k9 hl
    have hR8 := (show OwnS (Kd.int .u8) gq (t + 3) 5 a8 n8 c8 l8 from hf _ (memI 1 rfl) (by kernel_rfl))
    have e0 := (show v0 = .bool false from hf _ (memI 9 rfl) (by kernel_rfl))
    subst e0
    refine WP.toStr (a := a8) (cp := c8) hR8.src hR8.len (by kernel_rfl) ?_
    refine WP.dn (Shown.ok (v := .string (bytesStr l8)) (by kernel_rfl) (Step.refl _ _) ?_)
    exact ⟨tv, tv, tv, tv, tv, tv, tv, tv, tv, tv, tv, rfl, tv, tv, tv, tv, tv, tv, tv, tv, tv⟩
   ·intro vs gq stq hl hf
    obtain ⟨v0, v1, v2, v3, v4, v5, v6, v7, v8, rfl⟩ := len_k9 hl
    have e0 := (show v0 = .bool false from hf _ (memI 9 rfl) (by kernel_rfl))
    subst e0
    have e1 := (show v1 = .string (bytesStr l7) from hf _ (memI 10 rfl) (by kernel_rfl))
    subst e1
    have e2 := (show v2 = .string (bytesStr l8) from hf _ (memI 11 rfl) (by kernel_rfl))
    subst e2
    refine WP.stl 1 ?_
    refine WP.dn (Shown.ok (v := .bool (!((bytesStr l7).toList == (bytesStr l8).toList))) (by kernel_rfl) (Step.refl _ _) ?_)
    exact ⟨tv, tv, tv, tv, tv, tv, tv, tv, tv, tv, tv, tv, congrArg Value.bool h19, tv, tv, tv, tv, tv, tv, tv, tv⟩
   ·intro vs gq stq hl hf
    obtain ⟨v0, v1, v2, v3, v4, v5, v6, v7, v8, rfl⟩ := len_k9 hl
    have e3 := (show v3 = .bool false from hf _ (memI 12 rfl) (by kernel_rfl))
    subst e3
    refine WP.stl 1 ?_
    refine WP.dn (Shown.ok (v := .bool (x11 != x14)) (by kernel_rfl) (Step.refl _ _) ?_)
    exact ⟨tv, tv, tv, tv, tv, tv, tv, tv, tv, tv, tv, tv, tv, congrArg Value.bool h20, tv, tv, tv, tv, tv, tv, tv⟩
   ·intro vs gq stq hl hf
    obtain ⟨v0, v1, v2, v3, v4, v5, v6, v7, v8, rfl⟩ := len_k9 hl
    have hB2 := (show Box gq (t + 4) b2 43 [[.int .i64 x8], encA .u8 d6, [.int .i64 x9], [.slice a9 n9 c9], encA .u8 d7, [.int .i64 x10], encA .u8 d8, [.slice a10 n10 c10], [.slice a11 n11 c11]] [1, 8, 1, 1, 8, 1, 8, 1, 1] from hf _ (memI 2 rfl) (by kernel_rfl))
    have e4 := (show v4 = .bool false from hf _ (memI 13 rfl) (by kernel_rfl))
    subst e4
    refine WP.loadB (v := AG [[.int .i64 x8], encA .u8 d6, [.int .i64 x9], [.slice a9 n9 c9], encA .u8 d7, [.int .i64 x10], encA .u8 d8, [.slice a10 n10 c10], [.slice a11 n11 c11]]) hB2 (by kernel_rfl) (by kernel_rfl) ?_
    refine WP.dn (Shown.ok (v := AG [[.int .i64 x8], encA .u8 d6, [.int .i64 x9], [.slice a9 n9 c9], encA .u8 d7, [.int .i64 x10], encA .u8 d8, [.slice a10 n10 c10], [.slice a11 n11 c11]]) (by kernel_rfl) (Step.refl _ _) ?_)
    exact ⟨tv, tv, tv, tv, tv, tv, tv, tv, tv, tv, tv, tv, tv, tv, rfl, tv, tv, tv, tv, tv, tv⟩
   ·intro vs gq stq hl hf
    obtain ⟨v0, v1, v2, v3, v4, v5, v6, v7, v8, rfl⟩ := len_k9 hl
    have hR9 := (show RdS (Kd.int .u8) gq 5 a9 n9 c9 l9 from hf _ (memI 3 rfl) (by kernel_rfl))
    have hR10 := (show RdS (Kd.int .u8) gq 5 a10 n10 c10 l10 from hf _ (memI 4 rfl) (by kernel_rfl))
    have hR11 := (show RdS (Kd.int .u8) gq 5 a11 n11 c11 l11 from hf _ (memI 5 rfl) (by kernel_rfl))
    have e4 := (show v4 = .bool false from hf _ (memI 13 rfl) (by kernel_rfl))
    subst e4
    have e5 := (show v5 = AG [[.int .i64 x8], encA .u8 d6, [.int .i64 x9], [.slice a9 n9 c9], encA .u8 d7, [.int .i64 x10], encA .u8 d8, [.slice a10 n10 c10], [.slice a11 n11 c11]] from hf _ (memI 14 rfl) (by kernel_rfl))
    subst e5
    have hcal20 := P.baizelaw34_To gq x8 d6 x9 l9 d7 x10 d8 l10 l11 a9 n9 c9 a10 n10 c10 a11 n11 c11 hR9 hR10 hR11 x35 d28 x36 d29 l32 l33 q16 hk20
    refine WP.callC hcal20 (by kernel_rfl) ?_
    rintro _ g37 st37 ⟨a32, n32, c32, a33, n33, c33, rfl, hR32, hR33⟩
    obtain rfl := hR32.len
    obtain rfl := hR33.len
    refine WP.dn (Shown.o (v := AG [[.int .i64 x35], encA .u8 d28, [.int .i64 x36], encA .u8 d29, [.slice a32 l32.length c32], [.slice a33 l33.length c33], [.bool q16]]) st37.pure ?_)
    exact ⟨tv, tv, tv, tv, tv, tv, tv, tv, tv, tv, tv, tv, tv, tv, tv, ⟨a32, c32, a33, c33, rfl, hR32, hR33⟩, tv, tv, tv, tv, tv⟩
   ·intro vs gq stq hl hf
    obtain ⟨v0, v1, v2, v3, v4, v5, v6, v7, v8, rfl⟩ := len_k9 hl
    have hB4 := (show Box gq (t + 7) b3 35 [[.int .i64 x12], encA .u8 d9, [.int .i64 x13], encA .u8 d10, [.slice a12 n12 c12], [.slice a13 n13 c13], [.bool q5]] [1, 8, 1, 8, 1, 1, 1] from hf _ (memI 6 rfl) (by kernel_rfl))
    have e4 := (show v4 = .bool false from hf _ (memI 13 rfl) (by kernel_rfl))
    subst e4
    refine WP.loadB (v := AG [[.int .i64 x12], encA .u8 d9, [.int .i64 x13], encA .u8 d10, [.slice a12 n12 c12], [.slice a13 n13 c13], [.bool q5]]) hB4 (by kernel_rfl) (by kernel_rfl) ?_
    refine WP.dn (Shown.ok (v := AG [[.int .i64 x12], encA .u8 d9, [.int .i64 x13], encA .u8 d10, [.slice a12 n12 c12], [.slice a13 n13 c13], [.bool q5]]) (by kernel_rfl) (Step.refl _ _) ?_)
    exact ⟨tv, tv, tv, tv, tv, tv, tv, tv, tv, tv, tv, tv, tv, tv, tv, tv, rfl, tv, tv, tv, tv⟩
   ·intro vs gq stq hl hf
    obtain ⟨v0, v1, v2, v3, v4, v5, v6, v7, v8, rfl⟩ := len_k9 hl
    have hR12 := (show OwnS (Kd.int .u8) gq (t + 5) 5 a12 n12 c12 l12 from hf _ (memI 7 rfl) (by kernel_rfl))
    have hR13 := (show OwnS (Kd.int .u8) gq (t + 6) 5 a13 n13 c13 l13 from hf _ (memI 8 rfl) (by kernel_rfl))
    have e4 := (show v4 = .bool false from hf _ (memI 13 rfl) (by kernel_rfl))
    subst e4
    obtain ⟨a32, c32, a33, c33, e6, hR32, hR33⟩ := (show ∃ (a32 : Option Addr) (c32 : Nat) (a33 : Option Addr) (c33 : Nat), v6 = AG [[.int .i64 x35], encA .u8 d28, [.int .i64 x36], encA .u8 d29, [.slice a32 l32.length c32], [.slice a33 l33.length c33], [.bool q16]] ∧ RdS (Kd.int .u8) gq 5 a32 l32.length c32 l32 ∧ RdS (Kd.int .u8) gq 5 a33 l33.length c33 l33 from hf _ (memI 15 rfl) (by kernel_rfl))
    subst e6
    have e7 := (show v7 = AG [[.int .i64 x12], encA .u8 d9, [.int .i64 x13], encA .u8 d10, [.slice a12 n12 c12], [.slice a13 n13 c13], [.bool q5]] from hf _ (memI 16 rfl) (by kernel_rfl))
    subst e7
    have hS2 : 0 ∉ ([(t + 5), (t + 6)] : List Nat) := by simp <;> omega
    have stl2 := GW.lend_step gq [(t + 5), (t + 6)]
    have hRl3 := hR12.lendTo hS2 (by simp)
    have hRl4 := hR13.lendTo hS2 (by simp)
    refine WP.regw (g' := GW.lend gq [(t + 5), (t + 6)]) rfl ?_
    have hcal21 := P.baizeref34_Same (GW.lend gq [(t + 5), (t + 6)]) x35 d28 x36 d29 l32 l33 q16 x12 d9 x13 d10 l12 l13 q5 a32 l32.length c32 a33 l33.length c33 a12 n12 c12 a13 n13 c13 (hR32.mono stl2 (WL.no (by simp <;> omega))) (hR33.mono stl2 (WL.no (by simp <;> omega))) hRl3 hRl4 q17 hk21
    refine WP.callC hcal21 (by kernel_rfl) ?_
    rintro _ g38 st38 rfl
    have st39 := (GW.back_step st38).lentS
    have hO3 := hR12.backTo hS2 (by simp) st38 (fun x => x)
    have hO4 := hR13.backTo hS2 (by simp) st38 (fun x => x)
    refine WP.regw (g' := GW.back gq g38 [(t + 5), (t + 6)]) rfl ?_
    generalize GW.back gq g38 [(t + 5), (t + 6)] = g39 at *
    refine WP.dn (Shown.o (v := .bool q17) st39 ?_)
    exact ⟨tv, tv, tv, tv, tv, tv, tv, tv, tv, tv, tv, tv, tv, tv, tv, tv, tv, rfl, hO3, hO4, tv⟩
  intro vs g40 st40 hl hf
  obtain ⟨v0, v1, v2, v3, v4, v5, v6, v7, v8, rfl⟩ := len_k9 hl
  have e4 := (show v4 = .bool false from hf _ (memI 13 rfl) (by kernel_rfl))
  subst e4
  have e8 := (show v8 = .bool q17 from hf _ (memI 17 rfl) (by kernel_rfl))
  subst e8
  replace hR3 := hR3.mono st40 (WL.no2 (by omega) (by omega))
  replace hB1 := hB1.mono st40 (WL.no2 (by omega) (by omega))
  replace hR1 := hR1.mono st40 (WL.no2 (by omega) (by omega))
  replace hR2 := hR2.mono st40 (WL.no2 (by omega) (by omega))
  replace hR7 := hR7.mono st40 (WL.no2 (by omega) (by omega)) (WL.no2 (by omega) (by omega))
  replace hB2 := hB2.mono st40 (WL.no2 (by omega) (by omega))
  replace hR9 := hR9.mono st40 (WL.no2 (by omega) (by omega))
  replace hR10 := hR10.mono st40 (WL.no2 (by omega) (by omega))
  replace hR11 := hR11.mono st40 (WL.no2 (by omega) (by omega))
  replace tot := tot.trans (st40.up2 (.inr (by omega)) (.inr (by omega)))
  refine NX.post ?_
  exact ⟨(!q17), ⟨by kernel_rfl, by kernel_rfl⟩, tot, hR3, hB1, hR1, hR2, hR7, hB2, hR9, hR10, hR11, hs⟩
 clear tot hs hR3 hB1 hR1 hR2 hR7 hR8 hB2 hR9 hR10 hR11 hB4 hR12 hR13
 rintro tm g ⟨q8, hF, tot, hR3, hB1, hR1, hR2, hR7, hB2, hR9, hR10, hR11, hs⟩
 clear ds
 obtain ⟨ds, rfl⟩ := hF.open
 clear hF
 unfold F.baizelaw34_PunishBytes.c2 at hs
 refine CP.cond (b := q8) (by kernel_rfl) (fun h7 => ?_) (fun h7 => ?_)
 ·replace hs := of_if_t hs h7
  refine CP.seqR ?_
  refine WP.stl 1 ?_
  refine WP.dn ?_
  refine NX.then_n ?_
  refine CP.ret ?_
  refine NX.then_r ?_
  replace hs := Option.some.inj hs
  obtain rfl := hs
  exact NX.fin (v := .bool false) (Res.still (by kernel_rfl)) tot htL rfl
 replace hs := of_if_f hs h7
 refine CP.skip ?_
 refine NX.then_n ?_
 refine CP.cut (fun tm g => Fr 113 [(1, .slice a3 n3 c3), (9, .pointer (some ⟨b2, 0, none⟩)), (10, .int .i64 x11)] tm ∧ Step (fun l => NoM l ∨ t ≤ l) g0 g ∧ RdS (Kd.int .u8) g 5 a3 n3 c3 l3 ∧ Box g (t + 4) b2 43 [[.int .i64 x8], encA .u8 d6, [.int .i64 x9], [.slice a9 n9 c9], encA .u8 d7, [.int .i64 x10], encA .u8 d8, [.slice a10 n10 c10], [.slice a11 n11 c11]] [1, 8, 1, 1, 8, 1, 8, 1, 1] ∧ RdS (Kd.int .u8) g 5 a9 n9 c9 l9 ∧ RdS (Kd.int .u8) g 5 a10 n10 c10 l10 ∧ RdS (Kd.int .u8) g 5 a11 n11 c11 l11 ∧ (F.baizelaw34_PunishBytes.c3 l3 x8 d6 x9 l9 d7 x10 d8 l10 l11 x11) = some o1) ?_ ?_
 ·refine CP.seqR ?_
  refine WP.stl 2 ?_
  refine WP.dn ?_
  refine NX.then_n ?_
  refine CP.cond (b := (x6 == 0)) (by kernel_rfl) (fun h14 => ?_) (fun h14 => ?_)
  ·replace hs := of_if_t hs h14
   refine CP.seqR ?_
   refine WP.stl 1 ?_
   replace hs := Option.bind_eq_some_iff.1 hs
   obtain ⟨⟨x25, d19, x26, l23, d20, x27, d21, l24, l25, x28⟩, hk15, hs⟩ := hs
   dsimp only at hs
   obtain ⟨g25, hw2, st25, hnew⟩ := hR7.freeze (by omega)
   refine WP.regw hw2 ?_
   replace hR3 := hR3.mono st25 (WL.no1 (by omega))
   replace hB1 := hB1.mono st25 (WL.no1 (by omega))
   replace hR1 := hR1.mono st25 (WL.no1 (by omega))
   replace hR2 := hR2.mono st25 (WL.no1 (by omega))
   replace hB2 := hB2.mono st25 (WL.no1 (by omega))
   replace hR9 := hR9.mono st25 (WL.no1 (by omega))
   replace hR10 := hR10.mono st25 (WL.no1 (by omega))
   replace hR11 := hR11.mono st25 (WL.no1 (by omega))
   replace tot := tot.trans (st25.up1 (.inr (by omega)))
   clear hR7
   have hR7 := hnew
   clear hnew
   have hcal15 := P.punish_Decode g25 l7 a7 n7 c7 hR7 x25 d19 x26 l23 d20 x27 d21 l24 l25 x28 hk15
   refine WP.callC hcal15 (by kernel_rfl) ?_
   rintro _ g24 st24 ⟨a23, n23, c23, a24, n24, c24, a25, n25, c25, rfl, hR23, hR24, hR25⟩
   replace hR3 := hR3.mono st24 (fun x => x)
   replace hB1 := hB1.mono st24 (fun x => x)
   replace hR1 := hR1.mono st24 (fun x => x)
   replace hR2 := hR2.mono st24 (fun x => x)
   replace hR7 := hR7.mono st24 (fun x => x)
   replace hB2 := hB2.mono st24 (fun x => x)
   replace hR9 := hR9.mono st24 (fun x => x)
   replace hR10 := hR10.mono st24 (fun x => x)
   replace hR11 := hR11.mono st24 (fun x => x)
   replace tot := tot.trans st24.pure
   refine WP.stl 3 ?_
   refine WP.alloc (T := 43) (t + 10) [[.int .i64 0], encA .u8 (zA 8), [.int .i64 0], [.slice none 0 0], encA .u8 (zA 8), [.int .i64 0], encA .u8 (zA 8), [.slice none 0 0], [.slice none 0 0]] [1, 8, 1, 1, 8, 1, 8, 1, 1] (by kernel_rfl) (by simp [len_encA]) ?_
   intro g26 b5 st26 hB8
   replace hR3 := hR3.mono st26 (fun x => x)
   replace hB1 := hB1.mono st26 (fun x => x)
   replace hR1 := hR1.mono st26 (fun x => x)
   replace hR2 := hR2.mono st26 (fun x => x)
   replace hR7 := hR7.mono st26 (fun x => x)
   replace hB2 := hB2.mono st26 (fun x => x)
   replace hR9 := hR9.mono st26 (fun x => x)
   replace hR10 := hR10.mono st26 (fun x => x)
   replace hR11 := hR11.mono st26 (fun x => x)
   replace hR23 := hR23.mono st26 (fun x => x)
   replace hR24 := hR24.mono st26 (fun x => x)
   replace hR25 := hR25.mono st26 (fun x => x)
   replace tot := tot.trans st26.pure
   refine WP.storeB (ty := 43) (off := 0) (v := AG [[.int .i64 x25], encA .u8 d19, [.int .i64 x26], [.slice a23 n23 c23], encA .u8 d20, [.int .i64 x27], encA .u8 d21, [.slice a24 n24 c24], [.slice a25 n25 c25]]) hB8 [[.int .i64 x25], encA .u8 d19, [.int .i64 x26], [.slice a23 n23 c23], encA .u8 d20, [.int .i64 x27], encA .u8 d21, [.slice a24 n24 c24], [.slice a25 n25 c25]] [1, 8, 1, 1, 8, 1, 8, 1, 1] (by kernel_rfl) (by kernel_rfl) (by simp [len_encA]) (by kernel_rfl) [[.int .i64 x25], encA .u8 d19, [.int .i64 x26], [.slice a23 n23 c23], encA .u8 d20, [.int .i64 x27], encA .u8 d21, [.slice a24 n24 c24], [.slice a25 n25 c25]] (by kernel_rfl) (.one rfl (.arr (.one rfl (.one rfl (.arr (.one rfl (.arr (.one rfl (.one rfl .nil))))))))) ?_
   intro g27 st27 hB9
   replace hR3 := hR3.mono st27 (WL.no1 (by omega))
   replace hB1 := hB1.mono st27 (WL.no1 (by omega))
   replace hR1 := hR1.mono st27 (WL.no1 (by omega))
   replace hR2 := hR2.mono st27 (WL.no1 (by omega))
   replace hR7 := hR7.mono st27 (WL.no1 (by omega))
   replace hB2 := hB2.mono st27 (WL.no1 (by omega))
   replace hR9 := hR9.mono st27 (WL.no1 (by omega))
   replace hR10 := hR10.mono st27 (WL.no1 (by omega))
   replace hR11 := hR11.mono st27 (WL.no1 (by omega))
   replace hR23 := hR23.mono st27 (WL.no1 (by omega))
   replace hR24 := hR24.mono st27 (WL.no1 (by omega))
   replace hR25 := hR25.mono st27 (WL.no1 (by omega))
   replace tot := tot.trans (st27.up1 (.inr (by omega)))
   clear hB8
   have hB8 := hB9
   clear hB9
   refine WP.stl 1 ?_
   refine WP.dn ?_
   refine NX.then_n ?_
   refine CP.cut (fun tm g => ∃ (q14 : Bool), Fr 113 [(1, .slice a3 n3 c3), (9, .pointer (some ⟨b2, 0, none⟩)), (10, .int .i64 x11), (93, .bool q14)] tm ∧ Step (fun l => NoM l ∨ t ≤ l) g0 g ∧ RdS (Kd.int .u8) g 5 a3 n3 c3 l3 ∧ Box g (t + 4) b2 43 [[.int .i64 x8], encA .u8 d6, [.int .i64 x9], [.slice a9 n9 c9], encA .u8 d7, [.int .i64 x10], encA .u8 d8, [.slice a10 n10 c10], [.slice a11 n11 c11]] [1, 8, 1, 1, 8, 1, 8, 1, 1] ∧ RdS (Kd.int .u8) g 5 a9 n9 c9 l9 ∧ RdS (Kd.int .u8) g 5 a10 n10 c10 l10 ∧ RdS (Kd.int .u8) g 5 a11 n11 c11 l11 ∧ (F.baizelaw34_PunishBytes.c5 l3 x8 d6 x9 l9 d7 x10 d8 l10 l11 x11 q14) = some o1) ?_ ?_
   ·refine bool_split (b := (x28 != 0)) (fun h17 => ?_) (fun h17 => ?_)
    ·replace hs := of_if_t hs h17
     refine CP.drawL (by kernel_rfl) [2] N.baizelaw34_PunishBytes_0 [⟨some 0, [], [0], fun l g => l.getD 0 undef = .bool true⟩] [[]] [] [0, 1] [3, 4, 5, 6, 7, 8] (by kernel_rfl) (by simp) (by simp) ⟨fun _ _ _ _ st h0 hl hj e0 => e0, tv⟩ ⟨tv, tv⟩ (by kernel_rfl) (fun vs => by kernel_rfl) ?_ ?_ ?_
     ·intro j hj
      have hq : j = 0 ∨ j = 1 ∨ j = 2 ∨ j = 3 ∨ j = 4 ∨ j = 5 := by have h : j < 6 := hj; omega
      rcases hq with rfl | rfl | rfl | rfl | rfl | rfl
      ·intro vs gq stq hl hf
       obtain ⟨v0, rfl⟩ := len_k1 hl
       have e0 := (show v0 = .bool true from hf _ (memI 0 rfl) (by kernel_rfl))
       subst e0
       show Option.isSome _ = true
       kernel_rfl
      ·intro vs gq stq hl hf
       obtain ⟨v0, rfl⟩ := len_k1 hl
       have e0 := (show v0 = .bool true from hf _ (memI 0 rfl) (by kernel_rfl))
       subst e0
       show Option.isSome _ = true
       kernel_rfl
      ·intro vs gq stq hl hf
       obtain ⟨v0, rfl⟩ := len_k1 hl
       have e0 := (show v0 = .bool true from hf _ (memI 0 rfl) (by kernel_rfl))
       subst e0
       show Option.isSome _ = true
       kernel_rfl
      ·intro vs gq stq hl hf
       obtain ⟨v0, rfl⟩ := len_k1 hl
       have e0 := (show v0 = .bool true from hf _ (memI 0 rfl) (by kernel_rfl))
       subst e0
       show Option.isSome _ = true
       kernel_rfl
      ·intro vs gq stq hl hf
       obtain ⟨v0, rfl⟩ := len_k1 hl
       have e0 := (show v0 = .bool true from hf _ (memI 0 rfl) (by kernel_rfl))
       subst e0
       show Option.isSome _ = true
       kernel_rfl
      ·intro vs gq stq hl hf
       obtain ⟨v0, rfl⟩ := len_k1 hl
       have e0 := (show v0 = .bool true from hf _ (memI 0 rfl) (by kernel_rfl))
       subst e0
       show Option.isSome _ = true
       kernel_rfl
     ·intro j hj
      have hq : j = 0 := by have h : j < 1 := hj; omega
      rcases hq with rfl
      ·intro vs gq stq hl hf
       obtain ⟨v0, rfl⟩ := len_k1 hl
       refine WP.stl 1 ?_
       refine WP.dn (Shown.ok (v := .bool (x28 != 0)) (by kernel_rfl) (Step.refl _ _) ?_)
       exact ⟨congrArg Value.bool h17, tv⟩
     intro vs g30 st30 hl hf
     obtain ⟨v0, rfl⟩ := len_k1 hl
     have e0 := (show v0 = .bool true from hf _ (memI 0 rfl) (by kernel_rfl))
     subst e0
     replace hR3 := hR3.mono st30.toNo (fun x => x)
     replace hB2 := hB2.mono st30.toNo (fun x => x)
     replace hR9 := hR9.mono st30.toNo (fun x => x)
     replace hR10 := hR10.mono st30.toNo (fun x => x)
     replace hR11 := hR11.mono st30.toNo (fun x => x)
     replace tot := tot.trans st30.toNo.pure
     refine NX.post ?_
     exact ⟨true, ⟨by kernel_rfl, by kernel_rfl⟩, tot, hR3, hB2, hR9, hR10, hR11, hs⟩
    replace hs := of_if_f hs h17
    replace hs := Option.bind_eq_some_iff.1 hs
    obtain ⟨⟨x32, d25, x33, l29, d26, x34, d27, l30, l31⟩, hk18, hs⟩ := hs
    dsimp only at hs
    replace hs := Option.bind_eq_some_iff.1 hs
    obtain ⟨q15, hk19, hs⟩ := hs
    refine CP.drawL (by kernel_rfl) [2, 3, 4, 5, 6] N.baizelaw34_PunishBytes_0 [⟨none, [], [], fun l g => Box g (t + 1) b1 35 [[.int .i64 x1], encA .u8 d1, [.int .i64 x2], encA .u8 d2, [.slice a1 n1 c1], [.slice a2 n2 c2], [.bool q1]] [1, 8, 1, 8, 1, 1, 1]⟩, ⟨none, [], [], fun l g => RdS (Kd.int .u8) g 5 a1 n1 c1 l1⟩, ⟨none, [], [], fun l g => RdS (Kd.int .u8) g 5 a2 n2 c2 l2⟩, ⟨none, [], [], fun l g => Box g (t + 10) b5 43 [[.int .i64 x25], encA .u8 d19, [.int .i64 x26], [.slice a23 n23 c23], encA .u8 d20, [.int .i64 x27], encA .u8 d21, [.slice a24 n24 c24], [.slice a25 n25 c25]] [1, 8, 1, 1, 8, 1, 8, 1, 1]⟩, ⟨none, [], [], fun l g => RdS (Kd.int .u8) g 5 a23 n23 c23 l23⟩, ⟨none, [], [], fun l g => RdS (Kd.int .u8) g 5 a24 n24 c24 l24⟩, ⟨none, [], [], fun l g => RdS (Kd.int .u8) g 5 a25 n25 c25 l25⟩, ⟨some 0, [], [0], fun l g => l.getD 0 undef = .bool false⟩, ⟨some 1, [], [1], fun l g => l.getD 0 undef = AG [[.int .i64 x25], encA .u8 d19, [.int .i64 x26], [.slice a23 n23 c23], encA .u8 d20, [.int .i64 x27], encA .u8 d21, [.slice a24 n24 c24], [.slice a25 n25 c25]]⟩, ⟨some 2, [], [2], fun l g => l.getD 0 undef = AG [[.int .i64 x1], encA .u8 d1, [.int .i64 x2], encA .u8 d2, [.slice a1 n1 c1], [.slice a2 n2 c2], [.bool q1]]⟩, ⟨some 3, [], [3], fun l g => ∃ (a29 : Option Addr) (c29 : Nat) (a30 : Option Addr) (c30 : Nat) (a31 : Option Addr) (c31 : Nat), l.getD 0 undef = AG [[.int .i64 x32], encA .u8 d25, [.int .i64 x33], [.slice a29 l29.length c29], encA .u8 d26, [.int .i64 x34], encA .u8 d27, [.slice a30 l30.length c30], [.slice a31 l31.length c31]] ∧ RdS (Kd.int .u8) g 5 a29 l29.length c29 l29 ∧ RdS (Kd.int .u8) g 5 a30 l30.length c30 l30 ∧ RdS (Kd.int .u8) g 5 a31 l31.length c31 l31⟩, ⟨some 4, [], [4], fun l g => l.getD 0 undef = .bool q15⟩] [[], [], [], [], []] [] [0, 1] [7, 8] (by kernel_rfl) (by simp) (by simp) ⟨fun _ _ _ _ st h0 hl hj hB1 => (hB1.mono st (fun h => absurd (hl _ h) (by simp))), fun _ _ _ _ st h0 hl hj hR1 => (RdS.mono (e := 5) hR1 st h0), fun _ _ _ _ st h0 hl hj hR2 => (RdS.mono (e := 5) hR2 st h0), fun _ _ _ _ st h0 hl hj hB8 => (hB8.mono st (fun h => absurd (hl _ h) (by simp))), fun _ _ _ _ st h0 hl hj hR23 => (RdS.mono (e := 5) hR23 st h0), fun _ _ _ _ st h0 hl hj hR24 => (RdS.mono (e := 5) hR24 st h0), fun _ _ _ _ st h0 hl hj hR25 => (RdS.mono (e := 5) hR25 st h0), fun _ _ _ _ st h0 hl hj e0 => e0, fun _ _ _ _ st h0 hl hj e1 => e1, fun _ _ _ _ st h0 hl hj e2 => e2, fun _ _ _ _ st h0 hl hj ⟨a29, c29, a30, c30, a31, c31, e3, hR29, hR30, hR31⟩ => ⟨a29, c29, a30, c30, a31, c31, e3, (RdS.mono (e := 5) hR29 st h0), (RdS.mono (e := 5) hR30 st h0), (RdS.mono (e := 5) hR31 st h0)⟩, fun _ _ _ _ st h0 hl hj e4 => e4, tv⟩ ⟨hB1, hR1, hR2, hB8, hR23, hR24, hR25, tv, tv, tv, tv, tv, tv⟩ (by kernel_rfl) (fun vs => by kernel_rfl) ?_ ?_ ?_
    ·intro j hj
     have hq : j = 0 ∨ j = 1 := by have h : j < 2 := hj; omega
     rcases hq with rfl | rfl
     ·intro vs gq stq hl hf
      obtain ⟨v0, v1, v2, v3, v4, rfl⟩ := len_k5 hl
      have e0 := (show v0 = .bool false from hf _ (memI 7 rfl) (by kernel_rfl))
      subst e0
      have e4 := (show v4 = .bool q15 from hf _ (memI 11 rfl) (by kernel_rfl))
      subst e4
      show Option.isSome _ = true
      kernel_rfl
     ·intro vs gq stq hl hf
      obtain ⟨v0, v1, v2, v3, v4, rfl⟩ := len_k5 hl
      have e0 := (show v0 = .bool false from hf _ (memI 7 rfl) (by kernel_rfl))
      subst e0
      have e4 := (show v4 = .bool q15 from hf _ (memI 11 rfl) (by kernel_rfl))
      subst e4
      show Option.isSome _ = true
      kernel_rfl
    ·intro j hj
     have hq : j = 0 ∨ j = 1 ∨ j = 2 ∨ j = 3 ∨ j = 4 := by have h : j < 5 := hj; omega
     rcases hq with rfl | rfl | rfl | rfl | rfl
     ·intro vs gq stq hl hf
      obtain ⟨v0, v1, v2, v3, v4, rfl⟩ := len_k5 hl
      refine WP.stl 1 ?_
      refine WP.dn (Shown.ok (v := .bool (x28 != 0)) (by kernel_rfl) (Step.refl _ _) ?_)
      exact ⟨tv, tv, tv, tv, tv, tv, tv, congrArg Value.bool h17, tv, tv, tv, tv, tv⟩
     ·intro vs gq stq hl hf
      obtain ⟨v0, v1, v2, v3, v4, rfl⟩ := len_k5 hl
      have hB8 := (show Box gq (t + 10) b5 43 [[.int .i64 x25], encA .u8 d19, [.int .i64 x26], [.slice a23 n23 c23], encA .u8 d20, [.int .i64 x27], encA .u8 d21, [.slice a24 n24 c24], [.slice a25 n25 c25]] [1, 8, 1, 1, 8, 1, 8, 1, 1] from hf _ (memI 3 rfl) (by kernel_rfl))
      have e0 := (show v0 = .bool false from hf _ (memI 7 rfl) (by kernel_rfl))
      subst e0
      refine WP.loadB (v := AG [[.int .i64 x25], encA .u8 d19, [.int .i64 x26], [.slice a23 n23 c23], encA .u8 d20, [.int .i64 x27], encA .u8 d21, [.slice a24 n24 c24], [.slice a25 n25 c25]]) hB8 (by kernel_rfl) (by kernel_rfl) ?_
      refine WP.dn (Shown.ok (v := AG [[.int .i64 x25], encA .u8 d19, [.int .i64 x26], [.slice a23 n23 c23], encA .u8 d20, [.int .i64 x27], encA .u8 d21, [.slice a24 n24 c24], [.slice a25 n25 c25]]) (by kernel_rfl) (Step.refl _ _) ?_)
      exact ⟨tv, tv, tv, tv, tv, tv, tv, tv, rfl, tv, tv, tv, tv⟩
     ·intro vs gq stq hl hf
      obtain ⟨v0, v1, v2, v3, v4, rfl⟩ := len_k5 hl
      have hB1 := (show Box gq (t + 1) b1 35 [[.int .i64 x1], encA .u8 d1, [.int .i64 x2], encA .u8 d2, [.slice a1 n1 c1], [.slice a2 n2 c2], [.bool q1]] [1, 8, 1, 8, 1, 1, 1] from hf _ (memI 0 rfl) (by kernel_rfl))
      have e0 := (show v0 = .bool false from hf _ (memI 7 rfl) (by kernel_rfl))
      subst e0
      refine WP.loadB (v := AG [[.int .i64 x1], encA .u8 d1, [.int .i64 x2], encA .u8 d2, [.slice a1 n1 c1], [.slice a2 n2 c2], [.bool q1]]) hB1 (by kernel_rfl) (by kernel_rfl) ?_
      refine WP.dn (Shown.ok (v := AG [[.int .i64 x1], encA .u8 d1, [.int .i64 x2], encA .u8 d2, [.slice a1 n1 c1], [.slice a2 n2 c2], [.bool q1]]) (by kernel_rfl) (Step.refl _ _) ?_)
      exact ⟨tv, tv, tv, tv, tv, tv, tv, tv, tv, rfl, tv, tv, tv⟩
     ·intro vs gq stq hl hf
      obtain ⟨v0, v1, v2, v3, v4, rfl⟩ := len_k5 hl
      have hR1 := (show RdS (Kd.int .u8) gq 5 a1 n1 c1 l1 from hf _ (memI 1 rfl) (by kernel_rfl))
      have hR2 := (show RdS (Kd.int .u8) gq 5 a2 n2 c2 l2 from hf _ (memI 2 rfl) (by kernel_rfl))
      have e0 := (show v0 = .bool false from hf _ (memI 7 rfl) (by kernel_rfl))
      subst e0
      have e2 := (show v2 = AG [[.int .i64 x1], encA .u8 d1, [.int .i64 x2], encA .u8 d2, [.slice a1 n1 c1], [.slice a2 n2 c2], [.bool q1]] from hf _ (memI 9 rfl) (by kernel_rfl))
      subst e2
      have hcal18 := P.baizelaw34_Of gq x1 d1 x2 d2 l1 l2 q1 a1 n1 c1 a2 n2 c2 hR1 hR2 x32 d25 x33 l29 d26 x34 d27 l30 l31 hk18
      refine WP.callC hcal18 (by kernel_rfl) ?_
      rintro _ g31 st31 ⟨a29, n29, c29, a30, n30, c30, a31, n31, c31, rfl, hR29, hR30, hR31⟩
      obtain rfl := hR29.len
      obtain rfl := hR30.len
      obtain rfl := hR31.len
      refine WP.dn (Shown.o (v := AG [[.int .i64 x32], encA .u8 d25, [.int .i64 x33], [.slice a29 l29.length c29], encA .u8 d26, [.int .i64 x34], encA .u8 d27, [.slice a30 l30.length c30], [.slice a31 l31.length c31]]) st31.pure ?_)
      exact ⟨tv, tv, tv, tv, tv, tv, tv, tv, tv, tv, ⟨a29, c29, a30, c30, a31, c31, rfl, hR29, hR30, hR31⟩, tv, tv⟩
     ·intro vs gq stq hl hf
      obtain ⟨v0, v1, v2, v3, v4, rfl⟩ := len_k5 hl
      have hR23 := (show RdS (Kd.int .u8) gq 5 a23 n23 c23 l23 from hf _ (memI 4 rfl) (by kernel_rfl))
      have hR24 := (show RdS (Kd.int .u8) gq 5 a24 n24 c24 l24 from hf _ (memI 5 rfl) (by kernel_rfl))
      have hR25 := (show RdS (Kd.int .u8) gq 5 a25 n25 c25 l25 from hf _ (memI 6 rfl) (by kernel_rfl))
      have e0 := (show v0 = .bool false from hf _ (memI 7 rfl) (by kernel_rfl))
      subst e0
      have e1 := (show v1 = AG [[.int .i64 x25], encA .u8 d19, [.int .i64 x26], [.slice a23 n23 c23], encA .u8 d20, [.int .i64 x27], encA .u8 d21, [.slice a24 n24 c24], [.slice a25 n25 c25]] from hf _ (memI 8 rfl) (by kernel_rfl))
      subst e1
      obtain ⟨a29, c29, a30, c30, a31, c31, e3, hR29, hR30, hR31⟩ := (show ∃ (a29 : Option Addr) (c29 : Nat) (a30 : Option Addr) (c30 : Nat) (a31 : Option Addr) (c31 : Nat), v3 = AG [[.int .i64 x32], encA .u8 d25, [.int .i64 x33], [.slice a29 l29.length c29], encA .u8 d26, [.int .i64 x34], encA .u8 d27, [.slice a30 l30.length c30], [.slice a31 l31.length c31]] ∧ RdS (Kd.int .u8) gq 5 a29 l29.length c29 l29 ∧ RdS (Kd.int .u8) gq 5 a30 l30.length c30 l30 ∧ RdS (Kd.int .u8) gq 5 a31 l31.length c31 l31 from hf _ (memI 10 rfl) (by kernel_rfl))
      subst e3
      have hcal19 := P.punish_Thing_Same gq x25 d19 x26 l23 d20 x27 d21 l24 l25 x32 d25 x33 l29 d26 x34 d27 l30 l31 a23 n23 c23 a24 n24 c24 a25 n25 c25 a29 l29.length c29 a30 l30.length c30 a31 l31.length c31 hR23 hR24 hR25 hR29 hR30 hR31 q15 hk19
      refine WP.callC hcal19 (by kernel_rfl) ?_
      rintro _ g32 st32 rfl
      refine WP.dn (Shown.o (v := .bool q15) st32.pure ?_)
      exact ⟨tv, tv, tv, tv, tv, tv, tv, tv, tv, tv, tv, rfl, tv⟩
    intro vs g33 st33 hl hf
    obtain ⟨v0, v1, v2, v3, v4, rfl⟩ := len_k5 hl
    have e0 := (show v0 = .bool false from hf _ (memI 7 rfl) (by kernel_rfl))
    subst e0
    have e4 := (show v4 = .bool q15 from hf _ (memI 11 rfl) (by kernel_rfl))
    subst e4
    replace hR3 := hR3.mono st33.toNo (fun x => x)
    replace hB2 := hB2.mono st33.toNo (fun x => x)
    replace hR9 := hR9.mono st33.toNo (fun x => x)
    replace hR10 := hR10.mono st33.toNo (fun x => x)
    replace hR11 := hR11.mono st33.toNo (fun x => x)
    replace tot := tot.trans st33.toNo.pure
    refine NX.post ?_
    exact ⟨(!q15), ⟨by kernel_rfl, by kernel_rfl⟩, tot, hR3, hB2, hR9, hR10, hR11, hs⟩
   clear tot hs hR3 hB1 hR1 hR2 hB2 hR9 hR10 hR11 hB8 hR23 hR24 hR25
   rintro tm g ⟨q14, hF, tot, hR3, hB2, hR9, hR10, hR11, hs⟩
   clear ds
   obtain ⟨ds, rfl⟩ := hF.open
   clear hF
   unfold F.baizelaw34_PunishBytes.c5 at hs
   refine CP.cond (b := q14) (by kernel_rfl) (fun h16 => ?_) (fun h16 => ?_)
   ·replace hs := of_if_t hs h16
    refine CP.seqR ?_
    refine WP.stl 1 ?_
    refine WP.dn ?_
    refine NX.then_n ?_
    refine CP.ret ?_
    refine NX.then_r ?_
    replace hs := Option.some.inj hs
    obtain rfl := hs
    exact NX.fin (v := .bool false) (Res.still (by kernel_rfl)) tot htL rfl
   replace hs := of_if_f hs h16
   refine CP.skip ?_
   refine NX.post ?_
   exact ⟨⟨by kernel_rfl, by kernel_rfl⟩, tot, hR3, hB2, hR9, hR10, hR11, hs⟩
  replace hs := of_if_f hs h14
  refine CP.skip ?_
  refine NX.post ?_
  exact ⟨⟨by kernel_rfl, by kernel_rfl⟩, tot, hR3, hB2, hR9, hR10, hR11, hs⟩
 clear tot hs hR3 hB1 hR1 hR2 hR7 hB2 hR9 hR10 hR11
 rintro tm g ⟨hF, tot, hR3, hB2, hR9, hR10, hR11, hs⟩
 clear ds
 obtain ⟨ds, rfl⟩ := hF.open
 clear hF
 unfold F.baizelaw34_PunishBytes.c3 at hs
 refine CP.seq ?_
 refine CP.seqR ?_
 refine WP.stl 2 ?_
 refine WP.dn ?_
 refine NX.then_n ?_
 refine CP.cond (b := (x11 != 0)) (by kernel_rfl) (fun h11 => ?_) (fun h11 => ?_)
 ·replace hs := of_if_t hs h11
  refine CP.seqR ?_
  refine WP.loadB (v := AG [[.int .i64 x8], encA .u8 d6, [.int .i64 x9], [.slice a9 n9 c9], encA .u8 d7, [.int .i64 x10], encA .u8 d8, [.slice a10 n10 c10], [.slice a11 n11 c11]]) hB2 (by kernel_rfl) (by kernel_rfl) ?_
  refine WP.buildS (places := #[(0, 1), (1, 10), (11, 18), (29, 1)]) (t := 43) [[.int .i64 0], encA .u8 (zA 8), [.int .i64 0], [.slice none 0 0], encA .u8 (zA 8), [.int .i64 0], encA .u8 (zA 8), [.slice none 0 0], [.slice none 0 0]] [1, 8, 1, 1, 8, 1, 8, 1, 1] (by kernel_rfl) (by kernel_rfl) (by simp [len_encA]) (by kernel_rfl) (.nil) ?_
  replace hs := Option.bind_eq_some_iff.1 hs
  obtain ⟨q11, hk13, hs⟩ := hs
  have hcal13 := P.punish_Thing_Same g x8 d6 x9 l9 d7 x10 d8 l10 l11 0 (zA 8) 0 ([]) (zA 8) 0 (zA 8) ([]) ([]) a9 n9 c9 a10 n10 c10 a11 n11 c11 none 0 0 none 0 0 none 0 0 hR9 hR10 hR11 (RdS.nil _ _ _) (RdS.nil _ _ _) (RdS.nil _ _ _) q11 hk13
  refine WP.callC hcal13 (by kernel_rfl) ?_
  rintro _ g22 st22 rfl
  replace hR3 := hR3.mono st22 (fun x => x)
  replace hB2 := hB2.mono st22 (fun x => x)
  replace hR9 := hR9.mono st22 (fun x => x)
  replace hR10 := hR10.mono st22 (fun x => x)
  replace hR11 := hR11.mono st22 (fun x => x)
  replace tot := tot.trans st22.pure
  refine WP.stl 1 ?_
  refine WP.dn ?_
  refine NX.then_n ?_
  refine CP.ret ?_
  refine NX.then_r ?_
  replace hs := Option.some.inj hs
  obtain rfl := hs
  exact NX.fin (v := .bool q11) (Res.still (by kernel_rfl)) tot htL rfl
 replace hs := of_if_f hs h11
 refine CP.skip ?_
 refine NX.then_n ?_
 refine CP.seqR ?_
 refine WP.loadB (v := AG [[.int .i64 x8], encA .u8 d6, [.int .i64 x9], [.slice a9 n9 c9], encA .u8 d7, [.int .i64 x10], encA .u8 d8, [.slice a10 n10 c10], [.slice a11 n11 c11]]) hB2 (by kernel_rfl) (by kernel_rfl) ?_
 replace hs := Option.bind_eq_some_iff.1 hs
 obtain ⟨⟨l22, x24⟩, hk14, hs⟩ := hs
 dsimp only at hs
 have hcal14 := P.punish_Thing_Encode g (t + 9) x8 d6 x9 l9 d7 x10 d8 l10 l11 a9 n9 c9 a10 n10 c10 a11 n11 c11 hR9 hR10 hR11 l22 x24 hk14
 refine WP.callC hcal14 (by kernel_rfl) ?_
 rintro _ g23 st23 ⟨a22, n22, c22, rfl, hR22⟩
 replace hR3 := hR3.mono st23 (fun x => x)
 replace hB2 := hB2.mono st23 (fun x => x)
 replace hR9 := hR9.mono st23 (fun x => x)
 replace hR10 := hR10.mono st23 (fun x => x)
 replace hR11 := hR11.mono st23 (fun x => x)
 replace tot := tot.trans st23.pure
 refine WP.stl 5 ?_
 refine WP.dn ?_
 refine NX.then_n ?_
 refine CP.cut (fun tm g => ∃ (q12 : Bool), Fr 113 [(4, .bool q12)] tm ∧ Step (fun l => NoM l ∨ t ≤ l) g0 g ∧ (F.baizelaw34_PunishBytes.c4 q12) = some o1) ?_ ?_
 ·refine CP.region ?_
  refine WP.stl 3 ?_
  refine WP.guard 106 (b := (x24 == 0)) (by kernel_rfl) (fun h13 => ?_) (fun h13 => ?_)
  ·replace hs := of_if_t hs h13
   refine WP.stl 1 ?_
   refine WP.toStr (a := a22) (cp := c22) hR22.src hR22.len (by kernel_rfl) ?_
   refine WP.stl 1 ?_
   refine WP.toStr (a := a3) (cp := c3) hR3.src hR3.len (by kernel_rfl) ?_
   refine WP.stl 3 ?_
   refine WP.dn ?_
   refine NX.post ?_
   exact ⟨((bytesStr l22).toList == (bytesStr l3).toList), ⟨by kernel_rfl, by kernel_rfl⟩, tot, hs⟩
  replace hs := of_if_f hs h13
  refine WP.stl 7 ?_
  refine WP.dn ?_
  refine NX.post ?_
  exact ⟨false, ⟨by kernel_rfl, by kernel_rfl⟩, tot, hs⟩
 clear tot hs hR3 hR22
 rintro tm g ⟨q12, hF, tot, hs⟩
 clear ds
 obtain ⟨ds, rfl⟩ := hF.open
 clear hF
 unfold F.baizelaw34_PunishBytes.c4 at hs
 refine CP.ret ?_
 replace hs := Option.some.inj hs
 obtain rfl := hs
 exact NX.fin (v := .bool q12) (Res.still (by kernel_rfl)) tot htL rfl
end Go.Proofs.Ytlnockimfgfcgaa
