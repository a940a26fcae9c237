/-
  Walks, written by program: each Go function computes the plain function of its name, in whatever world its arguments' facts hold.
-/
import Derived.Test.YticlfbpmfejdoaaRows
import Derived.Test.YticlfbpmfejdoaaLabM
namespace Go.Proofs.Yticlfbpmfejdoaa
open Go.RowKit Go.Lab
attribute [local irreducible] WP CP NX wpList Code.wp Calls
set_option maxRecDepth 100000
set_option maxHeartbeats 4000000
set_option linter.unusedVariables false
def str_0 : ByteArray := ⟨#[112, 117, 114, 115, 101]⟩
def str_1 : ByteArray := ⟨#[0, 1, 2, 2, 3, 3, 3, 3, 4, 4, 4, 4, 4, 4, 4, 4, 5, 5, 5, 5, 5, 5, 5, 5, 5, 5, 5, 5, 5, 5, 5, 5, 6, 6, 6, 6, 6, 6, 6, 6, 6, 6, 6, 6, 6, 6, 6, 6, 6, 6, 6, 6, 6, 6, 6, 6, 6, 6, 6, 6, 6, 6, 6, 6, 7, 7, 7, 7, 7, 7, 7, 7, 7, 7, 7, 7, 7, 7, 7, 7, 7, 7, 7, 7, 7, 7, 7, 7, 7, 7, 7, 7, 7, 7, 7, 7, 7, 7, 7, 7, 7, 7, 7, 7, 7, 7, 7, 7, 7, 7, 7, 7, 7, 7, 7, 7, 7, 7, 7, 7, 7, 7, 7, 7, 7, 7, 7, 7, 8, 8, 8, 8, 8, 8, 8, 8, 8, 8, 8, 8, 8, 8, 8, 8, 8, 8, 8, 8, 8, 8, 8, 8, 8, 8, 8, 8, 8, 8, 8, 8, 8, 8, 8, 8, 8, 8, 8, 8, 8, 8, 8, 8, 8, 8, 8, 8, 8, 8, 8, 8, 8, 8, 8, 8, 8, 8, 8, 8, 8, 8, 8, 8, 8, 8, 8, 8, 8, 8, 8, 8, 8, 8, 8, 8, 8, 8, 8, 8, 8, 8, 8, 8, 8, 8, 8, 8, 8, 8, 8, 8, 8, 8, 8, 8, 8, 8, 8, 8, 8, 8, 8, 8, 8, 8, 8, 8, 8, 8, 8, 8, 8, 8, 8, 8, 8, 8, 8, 8, 8, 8, 8, 8, 8, 8, 8, 8]⟩
structure S_baizeref47_Held where
  f1 : (Arr Int 8)
  f2 : Int
  f3 : Int
  f4 : Int
  deriving Inhabited
def k_S_baizeref47_Held : Kd S_baizeref47_Held := Kd.pull (Kd.pair (Kd.arrI 8 .u8) (Kd.pair (Kd.int .i64) (Kd.pair (Kd.int .i64) (Kd.int .i64)))) (fun x => (x.f1, x.f2, x.f3, x.f4))
theorem k_S_baizeref47_Held.opn {g : GW} {cs : List Value} {x : S_baizeref47_Held} (h : k_S_baizeref47_Held.R g cs x) : cs = [encA .u8 x.f1, [.int .i64 x.f2], [.int .i64 x.f3], [.int .i64 x.f4]].flatten := by
  obtain ⟨q0, d0, rfl, h0, q1, d1, rfl, h1, q2, d2, rfl, h2, h3⟩ := h
  replace h0 : q0 = encA .u8 x.f1 := h0
  subst h0
  replace h1 : q1 = [.int .i64 x.f2] := h1
  subst h1
  replace h2 : q2 = [.int .i64 x.f3] := h2
  subst h2
  replace h3 : d2 = [.int .i64 x.f4] := h3
  subst h3
  exact by simp
theorem k_S_baizeref47_Held.mk {g : GW} {s0 s1 s2 s3 : List Value} {f0 : (Arr Int 8)} {f1 : Int} {f2 : Int} {f3 : Int} (h0 : ((Kd.arrI 8 .u8)).R g s0 f0) (h1 : ((Kd.int .i64)).R g s1 f1) (h2 : ((Kd.int .i64)).R g s2 f2) (h3 : ((Kd.int .i64)).R g s3 f3) : k_S_baizeref47_Held.R g [s0, s1, s2, s3].flatten ⟨f0, f1, f2, f3⟩ := by
  refine ⟨_, _, rfl, h0, _, _, rfl, h1, _, _, rfl, h2, (by simpa using h3)⟩
structure S_purse_Held where
  f1 : (Arr Int 8)
  f2 : Int
  f3 : Int
  f4 : Int
  deriving Inhabited
def k_S_purse_Held : Kd S_purse_Held := Kd.pull (Kd.pair (Kd.arrI 8 .u8) (Kd.pair (Kd.int .i64) (Kd.pair (Kd.int .i64) (Kd.int .i64)))) (fun x => (x.f1, x.f2, x.f3, x.f4))
theorem k_S_purse_Held.opn {g : GW} {cs : List Value} {x : S_purse_Held} (h : k_S_purse_Held.R g cs x) : cs = [encA .u8 x.f1, [.int .i64 x.f2], [.int .i64 x.f3], [.int .i64 x.f4]].flatten := by
  obtain ⟨q0, d0, rfl, h0, q1, d1, rfl, h1, q2, d2, rfl, h2, h3⟩ := h
  replace h0 : q0 = encA .u8 x.f1 := h0
  subst h0
  replace h1 : q1 = [.int .i64 x.f2] := h1
  subst h1
  replace h2 : q2 = [.int .i64 x.f3] := h2
  subst h2
  replace h3 : d2 = [.int .i64 x.f4] := h3
  subst h3
  exact by simp
theorem k_S_purse_Held.mk {g : GW} {s0 s1 s2 s3 : List Value} {f0 : (Arr Int 8)} {f1 : Int} {f2 : Int} {f3 : Int} (h0 : ((Kd.arrI 8 .u8)).R g s0 f0) (h1 : ((Kd.int .i64)).R g s1 f1) (h2 : ((Kd.int .i64)).R g s2 f2) (h3 : ((Kd.int .i64)).R g s3 f3) : k_S_purse_Held.R g [s0, s1, s2, s3].flatten ⟨f0, f1, f2, f3⟩ := by
  refine ⟨_, _, rfl, h0, _, _, rfl, h1, _, _, rfl, h2, (by simpa using h3)⟩
structure S_baizeref47_Purse where
  f1 : (Arr Int 8)
  f2 : Int
  f3 : (Arr Int 2)
  f4 : (List S_baizeref47_Held)
  deriving Inhabited
def k_S_baizeref47_Purse : Kd S_baizeref47_Purse := Kd.pull (Kd.pair (Kd.arrI 8 .u8) (Kd.pair (Kd.int .i64) (Kd.pair (Kd.arrI 2 .i64) (Kd.slice 60 k_S_baizeref47_Held)))) (fun x => (x.f1, x.f2, x.f3, x.f4))
theorem k_S_baizeref47_Purse.opn {g : GW} {cs : List Value} {x : S_baizeref47_Purse} (h : k_S_baizeref47_Purse.R g cs x) : ∃ (a3 : Option Addr) (n3 : Nat) (c3 : Nat), cs = [encA .u8 x.f1, [.int .i64 x.f2], encA .i64 x.f3, [.slice a3 n3 c3]].flatten ∧ RdS k_S_baizeref47_Held g 60 a3 n3 c3 x.f4 := by
  obtain ⟨q0, d0, rfl, h0, q1, d1, rfl, h1, q2, d2, rfl, h2, h3⟩ := h
  replace h0 : q0 = encA .u8 x.f1 := h0
  subst h0
  replace h1 : q1 = [.int .i64 x.f2] := h1
  subst h1
  replace h2 : q2 = encA .i64 x.f3 := h2
  subst h2
  obtain ⟨a3, n3, c3, h3, hr3⟩ := h3
  subst h3
  exact ⟨a3, n3, c3, by simp, hr3⟩
theorem k_S_baizeref47_Purse.mk {g : GW} {s0 s1 s2 s3 : List Value} {f0 : (Arr Int 8)} {f1 : Int} {f2 : (Arr Int 2)} {f3 : (List S_baizeref47_Held)} (h0 : ((Kd.arrI 8 .u8)).R g s0 f0) (h1 : ((Kd.int .i64)).R g s1 f1) (h2 : ((Kd.arrI 2 .i64)).R g s2 f2) (h3 : ((Kd.slice 60 k_S_baizeref47_Held)).R g s3 f3) : k_S_baizeref47_Purse.R g [s0, s1, s2, s3].flatten ⟨f0, f1, f2, f3⟩ := by
  refine ⟨_, _, rfl, h0, _, _, rfl, h1, _, _, rfl, h2, (by simpa using h3)⟩
def wf_S_baizeref47_Held (x : S_baizeref47_Held) : Prop := (∀ y ∈ x.f1.1, (Lit.int .u8 y).wf = true) ∧ (Lit.int .i64 x.f2).wf = true ∧ (Lit.int .i64 x.f3).wf = true ∧ (Lit.int .i64 x.f4).wf = true
def wf_S_baizeref47_Purse (x : S_baizeref47_Purse) : Prop := (∀ y ∈ x.f1.1, (Lit.int .u8 y).wf = true) ∧ (Lit.int .i64 x.f2).wf = true ∧ (∀ y ∈ x.f3.1, (Lit.int .i64 y).wf = true) ∧ (x.f4.length ≤ maxLen ∧ ∀ y ∈ x.f4, wf_S_baizeref47_Held y)
def F.baizelaw47_great (d1 : Arr Int 8) (x1 : Int) (d2 : Arr Int 2) (l1 : List S_baizeref47_Held) : Option (Bool) := (some (decide ((l1.length : Int) > 40)))
theorem P.baizelaw47_great (g0 : GW) (d1 : Arr Int 8) (x1 : Int) (d2 : Arr Int 2) (l1 : List S_baizeref47_Held) (a1 : Option Addr) (n1 : Nat) (c1 : Nat) (hR1 : RdS k_S_baizeref47_Held g0 60 a1 n1 c1 l1) (o1 : Bool) (hs : F.baizelaw47_great d1 x1 d2 l1 = some o1) :
  Calls Try.prog 11 #[AG [encA .u8 d1, [.int .i64 x1], encA .i64 d2, [.slice a1 n1 c1]]] g0.w (Ret NoM g0 fun v g => v = .bool o1) := by
 refine calls_of (args := [AG [encA .u8 d1, [.int .i64 x1], encA .i64 d2, [.slice a1 n1 c1]]]) Try.func11 rfl (0) ?_
 intro t ht htL
 refine ⟨_, rfl, ?_⟩
 refine CP.refr 7 [(0, AG [encA .u8 d1, [.int .i64 x1], encA .i64 d2, [.slice a1 n1 c1]])] (by kernel_rfl) (by kernel_rfl) ?_
 intro ds
 have tot : Step (fun l => NoM l ∨ t ≤ l) g0 g0 := Step.refl _ _
 unfold F.baizelaw47_great at hs
 refine CP.seqR ?_
 refine WP.alloc (T := 26) (t + 1) [encA .u8 d1, [.int .i64 x1], encA .i64 d2, [.slice a1 n1 c1]] [8, 1, 2, 1] (by kernel_rfl) (by simp [len_encA]) ?_
 intro g1 b1 st1 hB1
 replace hR1 := hR1.mono st1 (fun x => x)
 replace tot := tot.trans st1.pure
 refine WP.stl 1 ?_
 refine WP.dn ?_
 refine NX.then_n ?_
 refine CP.seqR ?_
 refine WP.stl 1 ?_
 refine WP.loadB (v := .slice a1 n1 c1) hB1 (by kernel_rfl) (by kernel_rfl) ?_
 refine WP.len (a := a1) (cp := c1) hR1.len (by kernel_rfl) ?_
 refine WP.stl 2 ?_
 refine WP.dn ?_
 refine NX.then_n ?_
 refine CP.ret ?_
 replace hs := Option.some.inj hs
 obtain rfl := hs
 exact NX.fin (v := .bool (decide ((l1.length : Int) > 40))) (Res.still (by kernel_rfl)) tot htL rfl
def F.purse_height.c1 (q1 : Bool) : Option (Bool) := (some q1)
def F.purse_height (x1 : Int) : Option (Bool) := (if decide (x1 ≥ 0) = true then (F.purse_height.c1 (decide (x1 ≤ 1099511627776))) else (F.purse_height.c1 false))
theorem P.purse_height (g0 : GW) (x1 : Int) (o1 : Bool) (hs : F.purse_height x1 = some o1) :
  Calls Try.prog 48 #[.int .i64 x1] g0.w (Ret NoM g0 fun v g => v = .bool o1) := by
 refine calls_of (args := [.int .i64 x1]) Try.func48 rfl (0) ?_
 intro t ht htL
 refine ⟨_, rfl, ?_⟩
 refine CP.refr 9 [(0, .int .i64 x1)] (by kernel_rfl) (by kernel_rfl) ?_
 intro ds
 have tot : Step (fun l => NoM l ∨ t ≤ l) g0 g0 := Step.refl _ _
 unfold F.purse_height at hs
 refine CP.seqR ?_
 refine WP.stl 1 ?_
 refine WP.dn ?_
 refine NX.then_n ?_
 refine CP.cut (fun tm g => ∃ (q1 : Bool), Fr 9 [(2, .bool q1)] tm ∧ Step (fun l => NoM l ∨ t ≤ l) g0 g ∧ (F.purse_height.c1 q1) = some o1) ?_ ?_
 ·refine CP.region ?_
  refine WP.stl 3 ?_
  refine WP.guard 5 (b := decide (x1 ≥ 0)) (by kernel_rfl) (fun h2 => ?_) (fun h2 => ?_)
  ·replace hs := of_if_t hs h2
   refine WP.stl 4 ?_
   refine WP.dn ?_
   refine NX.post ?_
   exact ⟨decide (x1 ≤ 1099511627776), ⟨by kernel_rfl, by kernel_rfl⟩, tot, hs⟩
  replace hs := of_if_f hs h2
  refine WP.stl 4 ?_
  refine WP.dn ?_
  refine NX.post ?_
  exact ⟨false, ⟨by kernel_rfl, by kernel_rfl⟩, tot, hs⟩
 clear tot hs
 rintro tm g ⟨q1, hF, tot, hs⟩
 clear ds
 obtain ⟨ds, rfl⟩ := hF.open
 clear hF
 unfold F.purse_height.c1 at hs
 refine CP.ret ?_
 replace hs := Option.some.inj hs
 obtain rfl := hs
 exact NX.fin (v := .bool q1) (Res.still (by kernel_rfl)) tot htL rfl
def F.coin_Right.c1 (q1 : Bool) : Option (Bool) := (some q1)
def F.coin_Right (x1 : Int) : Option (Bool) := (if decide (x1 ≥ 0) = true then (F.coin_Right.c1 (decide (x1 ≤ 1125899906842624))) else (F.coin_Right.c1 false))
theorem P.coin_Right (g0 : GW) (x1 : Int) (o1 : Bool) (hs : F.coin_Right x1 = some o1) :
  Calls Try.prog 49 #[.int .i64 x1] g0.w (Ret NoM g0 fun v g => v = .bool o1) := by
 refine calls_of (args := [.int .i64 x1]) Try.func49 rfl (0) ?_
 intro t ht htL
 refine ⟨_, rfl, ?_⟩
 refine CP.refr 9 [(0, .int .i64 x1)] (by kernel_rfl) (by kernel_rfl) ?_
 intro ds
 have tot : Step (fun l => NoM l ∨ t ≤ l) g0 g0 := Step.refl _ _
 unfold F.coin_Right at hs
 refine CP.seqR ?_
 refine WP.stl 1 ?_
 refine WP.dn ?_
 refine NX.then_n ?_
 refine CP.cut (fun tm g => ∃ (q1 : Bool), Fr 9 [(2, .bool q1)] tm ∧ Step (fun l => NoM l ∨ t ≤ l) g0 g ∧ (F.coin_Right.c1 q1) = some o1) ?_ ?_
 ·refine CP.region ?_
  refine WP.stl 3 ?_
  refine WP.guard 5 (b := decide (x1 ≥ 0)) (by kernel_rfl) (fun h2 => ?_) (fun h2 => ?_)
  ·replace hs := of_if_t hs h2
   refine WP.stl 4 ?_
   refine WP.dn ?_
   refine NX.post ?_
   exact ⟨decide (x1 ≤ 1125899906842624), ⟨by kernel_rfl, by kernel_rfl⟩, tot, hs⟩
  replace hs := of_if_f hs h2
  refine WP.stl 4 ?_
  refine WP.dn ?_
  refine NX.post ?_
  exact ⟨false, ⟨by kernel_rfl, by kernel_rfl⟩, tot, hs⟩
 clear tot hs
 rintro tm g ⟨q1, hF, tot, hs⟩
 clear ds
 obtain ⟨ds, rfl⟩ := hF.open
 clear hF
 unfold F.coin_Right.c1 at hs
 refine CP.ret ?_
 replace hs := Option.some.inj hs
 obtain rfl := hs
 exact NX.fin (v := .bool q1) (Res.still (by kernel_rfl)) tot htL rfl
def F.purse_some.c1 (q2 : Bool) : Option (Bool) := (some q2)
def F.purse_some (x1 : Int) : Option (Bool) := (if (x1 != 0) = true then ((F.coin_Right x1).bind fun q3 => (F.purse_some.c1 q3)) else (F.purse_some.c1 false))
theorem P.purse_some (g0 : GW) (x1 : Int) (o1 : Bool) (hs : F.purse_some x1 = some o1) :
  Calls Try.prog 75 #[.int .i64 x1] g0.w (Ret NoM g0 fun v g => v = .bool o1) := by
 refine calls_of (args := [.int .i64 x1]) Try.func75 rfl (0) ?_
 intro t ht htL
 refine ⟨_, rfl, ?_⟩
 refine CP.refr 9 [(0, .int .i64 x1)] (by kernel_rfl) (by kernel_rfl) ?_
 intro ds
 have tot : Step (fun l => NoM l ∨ t ≤ l) g0 g0 := Step.refl _ _
 unfold F.purse_some at hs
 refine CP.seqR ?_
 refine WP.stl 1 ?_
 refine WP.dn ?_
 refine NX.then_n ?_
 refine CP.cut (fun tm g => ∃ (q2 : Bool), Fr 9 [(2, .bool q2)] tm ∧ Step (fun l => NoM l ∨ t ≤ l) g0 g ∧ (F.purse_some.c1 q2) = some o1) ?_ ?_
 ·refine CP.region ?_
  refine WP.stl 3 ?_
  refine WP.guard 5 (b := (x1 != 0)) (by kernel_rfl) (fun h2 => ?_) (fun h2 => ?_)
  ·replace hs := of_if_t hs h2
   refine WP.stl 1 ?_
   replace hs := Option.bind_eq_some_iff.1 hs
   obtain ⟨q3, hk2, hs⟩ := hs
   have hcal2 := P.coin_Right g0 x1 q3 hk2
   refine WP.callC hcal2 (by kernel_rfl) ?_
   rintro _ g2 st2 rfl
   replace tot := tot.trans st2.pure
   refine WP.stl 2 ?_
   refine WP.dn ?_
   refine NX.post ?_
   exact ⟨q3, ⟨by kernel_rfl, by kernel_rfl⟩, tot, hs⟩
  replace hs := of_if_f hs h2
  refine WP.stl 4 ?_
  refine WP.dn ?_
  refine NX.post ?_
  exact ⟨false, ⟨by kernel_rfl, by kernel_rfl⟩, tot, hs⟩
 clear tot hs
 rintro tm g ⟨q2, hF, tot, hs⟩
 clear ds
 obtain ⟨ds, rfl⟩ := hF.open
 clear hF
 unfold F.purse_some.c1 at hs
 refine CP.ret ?_
 replace hs := Option.some.inj hs
 obtain rfl := hs
 exact NX.fin (v := .bool q2) (Res.still (by kernel_rfl)) tot htL rfl
def F.purse_side.c1 (q1 : Bool) : Option (Bool) := (some q1)
def F.purse_side (x1 : Int) : Option (Bool) := (if decide (x1 ≥ 0) = true then (F.purse_side.c1 (decide (x1 < 2))) else (F.purse_side.c1 false))
theorem P.purse_side (g0 : GW) (x1 : Int) (o1 : Bool) (hs : F.purse_side x1 = some o1) :
  Calls Try.prog 74 #[.int .i64 x1] g0.w (Ret NoM g0 fun v g => v = .bool o1) := by
 refine calls_of (args := [.int .i64 x1]) Try.func74 rfl (0) ?_
 intro t ht htL
 refine ⟨_, rfl, ?_⟩
 refine CP.refr 9 [(0, .int .i64 x1)] (by kernel_rfl) (by kernel_rfl) ?_
 intro ds
 have tot : Step (fun l => NoM l ∨ t ≤ l) g0 g0 := Step.refl _ _
 unfold F.purse_side at hs
 refine CP.seqR ?_
 refine WP.stl 1 ?_
 refine WP.dn ?_
 refine NX.then_n ?_
 refine CP.cut (fun tm g => ∃ (q1 : Bool), Fr 9 [(2, .bool q1)] tm ∧ Step (fun l => NoM l ∨ t ≤ l) g0 g ∧ (F.purse_side.c1 q1) = some o1) ?_ ?_
 ·refine CP.region ?_
  refine WP.stl 3 ?_
  refine WP.guard 5 (b := decide (x1 ≥ 0)) (by kernel_rfl) (fun h2 => ?_) (fun h2 => ?_)
  ·replace hs := of_if_t hs h2
   refine WP.stl 4 ?_
   refine WP.dn ?_
   refine NX.post ?_
   exact ⟨decide (x1 < 2), ⟨by kernel_rfl, by kernel_rfl⟩, tot, hs⟩
  replace hs := of_if_f hs h2
  refine WP.stl 4 ?_
  refine WP.dn ?_
  refine NX.post ?_
  exact ⟨false, ⟨by kernel_rfl, by kernel_rfl⟩, tot, hs⟩
 clear tot hs
 rintro tm g ⟨q1, hF, tot, hs⟩
 clear ds
 obtain ⟨ds, rfl⟩ := hF.open
 clear hF
 unfold F.purse_side.c1 at hs
 refine CP.ret ?_
 replace hs := Option.some.inj hs
 obtain rfl := hs
 exact NX.fin (v := .bool q1) (Res.still (by kernel_rfl)) tot htL rfl
def F.purse_Purse_held.l2 (nx1 : Int → Option (Int)) (l1 : List S_purse_Held) (x4 : Int) : Nat → Int → Option (Int)
 | 0, _ => none
 | k + 1, x8 => (if decide (x8 < ((sliceI l1 0 x4).length : Int)) = true then (if (0 : Int) ≤ x8 ∧ x8 < ((sliceI l1 0 x4).length : Int) then (if (((getI (sliceI l1 0 x4) x8).f1).1 == ((getI l1 x4).f1).1) = true then (some 7) else (F.purse_Purse_held.l2 nx1 l1 x4 k (IntKind.i64.wrap (x8 + 1)))) else none) else (nx1 (IntKind.i64.wrap (x4 + 1))))
def F.purse_Purse_held.c1 (nx1 : Int → Option (Int)) (l1 : List S_purse_Held) (x4 : Int) (q12 : Bool) : Option (Int) := (if q12 = true then (some 2) else (if (0 : Int) ≤ 0 ∧ 0 ≤ x4 ∧ x4 ≤ (l1.length : Int) then (F.purse_Purse_held.l2 nx1 l1 x4 fuel 0) else none))
def F.purse_Purse_held.l1 (l1 : List S_purse_Held) : Nat → Int → Option (Int)
 | 0, _ => none
 | k + 1, x4 => (if decide (x4 < (l1.length : Int)) = true then (if (0 : Int) ≤ x4 ∧ x4 < (l1.length : Int) then ((F.purse_some ((getI l1 x4).f2)).bind fun q13 => (if (!q13) = true then (F.purse_Purse_held.c1 (F.purse_Purse_held.l1 l1 k) l1 x4 true) else ((F.purse_side ((getI l1 x4).f3)).bind fun q14 => (if (!q14) = true then (F.purse_Purse_held.c1 (F.purse_Purse_held.l1 l1 k) l1 x4 true) else ((F.purse_height ((getI l1 x4).f4)).bind fun q15 => (F.purse_Purse_held.c1 (F.purse_Purse_held.l1 l1 k) l1 x4 (!q15))))))) else none) else (some 0))
def F.purse_Purse_held (d1 : Arr Int 8) (x1 : Int) (d2 : Arr Int 2) (l1 : List S_purse_Held) : Option (Int) := (if decide ((l1.length : Int) > 16) = true then (some 8) else (F.purse_Purse_held.l1 l1 fuel 0))
theorem P.purse_Purse_held (g0 : GW) (d1 : Arr Int 8) (x1 : Int) (d2 : Arr Int 2) (l1 : List S_purse_Held) (a1 : Option Addr) (n1 : Nat) (c1 : Nat) (hR1 : RdS k_S_purse_Held g0 56 a1 n1 c1 l1) (o1 : Int) (hs : F.purse_Purse_held d1 x1 d2 l1 = some o1) :
  Calls Try.prog 50 #[AG [encA .u8 d1, [.int .i64 x1], encA .i64 d2, [.slice a1 n1 c1]]] g0.w (Ret NoM g0 fun v g => v = .int .i64 o1) := by
 refine calls_of (args := [AG [encA .u8 d1, [.int .i64 x1], encA .i64 d2, [.slice a1 n1 c1]]]) Try.func50 rfl (0) ?_
 intro t ht htL
 refine ⟨_, rfl, ?_⟩
 refine CP.refr 51 [(0, AG [encA .u8 d1, [.int .i64 x1], encA .i64 d2, [.slice a1 n1 c1]])] (by kernel_rfl) (by kernel_rfl) ?_
 intro ds
 have tot : Step (fun l => NoM l ∨ t ≤ l) g0 g0 := Step.refl _ _
 unfold F.purse_Purse_held at hs
 refine CP.seqR ?_
 refine WP.alloc (T := 32) (t + 1) [encA .u8 d1, [.int .i64 x1], encA .i64 d2, [.slice a1 n1 c1]] [8, 1, 2, 1] (by kernel_rfl) (by simp [len_encA]) ?_
 intro g1 b1 st1 hB1
 replace hR1 := hR1.mono st1 (fun x => x)
 replace tot := tot.trans st1.pure
 refine WP.stl 1 ?_
 refine WP.dn ?_
 refine NX.then_n ?_
 refine CP.seq ?_
 refine CP.seqR ?_
 refine WP.stl 1 ?_
 refine WP.loadB (v := .slice a1 n1 c1) hB1 (by kernel_rfl) (by kernel_rfl) ?_
 refine WP.len (a := a1) (cp := c1) hR1.len (by kernel_rfl) ?_
 refine WP.stl 1 ?_
 refine WP.dn ?_
 refine NX.then_n ?_
 refine CP.cond (b := decide ((l1.length : Int) > 16)) (by kernel_rfl) (fun h1 => ?_) (fun h1 => ?_)
 ·replace hs := of_if_t hs h1
  refine CP.seqR ?_
  refine WP.stl 1 ?_
  refine WP.dn ?_
  refine NX.then_n ?_
  refine CP.ret ?_
  refine NX.then_r ?_
  replace hs := Option.some.inj hs
  obtain rfl := hs
  exact NX.fin (v := .int .i64 8) (Res.still (by kernel_rfl)) tot htL rfl
 replace hs := of_if_f hs h1
 refine CP.skip ?_
 refine NX.then_n ?_
 refine CP.seq ?_
 refine CP.seqR ?_
 refine WP.stl 1 ?_
 refine WP.loadB (v := .slice a1 n1 c1) hB1 (by kernel_rfl) (by kernel_rfl) ?_
 refine WP.len (a := a1) (cp := c1) hR1.len (by kernel_rfl) ?_
 refine WP.stl 1 ?_
 refine WP.dn ?_
 refine NX.then_n ?_
 refine CP.block ?_
 generalize fuel = k1 at hs
 refine CP.loop (fun k1 tm g => ∃ (x4 : Int), Fr 51 [(1, .pointer (some ⟨b1, 0, none⟩)), (12, .slice a1 n1 c1), (13, .int .i64 (l1.length : Int)), (14, .int .i64 x4)] tm ∧ Step (fun l => NoM l ∨ t ≤ l) g0 g ∧ Box g (t + 1) b1 32 [encA .u8 d1, [.int .i64 x1], encA .i64 d2, [.slice a1 n1 c1]] [8, 1, 2, 1] ∧ RdS k_S_purse_Held g 56 a1 n1 c1 l1 ∧ F.purse_Purse_held.l1 l1 k1 x4 = some o1) k1 ?_ ?_ ?_
 ·exact ⟨0, ⟨by kernel_rfl, by kernel_rfl⟩, tot, hB1, hR1, hs⟩
 ·rintro tm g ⟨x4, hF, tot, hB1, hR1, hs⟩
  exact absurd hs (by simp [F.purse_Purse_held.l1])
 clear tot hs hB1 hR1
 rintro k1 tm g ⟨x4, hF, tot, hB1, hR1, hs⟩
 clear ds
 obtain ⟨ds, rfl⟩ := hF.open
 clear hF
 unfold F.purse_Purse_held.l1 at hs
 refine CP.seqR ?_
 refine WP.stl 1 ?_
 refine WP.dn ?_
 refine NX.then_n ?_
 refine CP.seq ?_
 refine CP.cond (b := decide (x4 < (l1.length : Int))) (by kernel_rfl) (fun h18 => ?_) (fun h18 => ?_)
 ·replace hs := of_if_t hs h18
  refine CP.skip ?_
  refine NX.then_n ?_
  refine CP.seq ?_
  refine CP.block ?_
  refine CP.seqR ?_
  refine WP.stl 1 ?_
  by_cases hc9 : (0 : Int) ≤ x4 ∧ x4 < (l1.length : Int)
  case neg => rw [if_neg hc9] at hs; cases hs
  replace hs := of_if_p hs hc9
  obtain ⟨b14, u7, ha7⟩ := hR1.at hc9
  refine WP.indexA (t := 30) (e := 56) (sz := 11) (cap := c1) (k := .i64) (i := x4) hR1.len ha7 (by kernel_rfl) (by kernel_rfl) hc9 ?_
  obtain ⟨cs7, hcR7, hcV7⟩ := hR1.src.view (getI_some hc9) ha7
  replace hcR7 := k_S_purse_Held.opn hcR7
  refine WP.loadV [encA .u8 ((getI l1 x4).f1), [.int .i64 ((getI l1 x4).f2)], [.int .i64 ((getI l1 x4).f3)], [.int .i64 ((getI l1 x4).f4)]] [8, 1, 1, 1] hcV7 hcR7 (by simp [len_encA]) (f := 0) (ty := 56) (agg := true) (size := 11) (rs := [encA .u8 ((getI l1 x4).f1), [.int .i64 ((getI l1 x4).f2)], [.int .i64 ((getI l1 x4).f3)], [.int .i64 ((getI l1 x4).f4)]]) (v := AG [encA .u8 ((getI l1 x4).f1), [.int .i64 ((getI l1 x4).f2)], [.int .i64 ((getI l1 x4).f3)], [.int .i64 ((getI l1 x4).f4)]]) (by kernel_rfl) (by kernel_rfl) (by kernel_rfl) (by kernel_rfl) ?_
  refine WP.alloc (T := 56) (t + 8) [encA .u8 (zA 8), [.int .i64 0], [.int .i64 0], [.int .i64 0]] [8, 1, 1, 1] (by kernel_rfl) (by simp [len_encA]) ?_
  intro g20 b15 st20 hB14
  replace hB1 := hB1.mono st20 (fun x => x)
  replace hR1 := hR1.mono st20 (fun x => x)
  replace tot := tot.trans st20.pure
  refine WP.stl 1 ?_
  refine WP.storeB (ty := 56) (off := 0) (v := AG [encA .u8 ((getI l1 x4).f1), [.int .i64 ((getI l1 x4).f2)], [.int .i64 ((getI l1 x4).f3)], [.int .i64 ((getI l1 x4).f4)]]) hB14 [encA .u8 ((getI l1 x4).f1), [.int .i64 ((getI l1 x4).f2)], [.int .i64 ((getI l1 x4).f3)], [.int .i64 ((getI l1 x4).f4)]] [8, 1, 1, 1] (by kernel_rfl) (by kernel_rfl) (by simp [len_encA]) (by kernel_rfl) [encA .u8 ((getI l1 x4).f1), [.int .i64 ((getI l1 x4).f2)], [.int .i64 ((getI l1 x4).f3)], [.int .i64 ((getI l1 x4).f4)]] (by kernel_rfl) (.arr (.one rfl (.one rfl (.one rfl .nil)))) ?_
  intro g21 st21 hB15
  replace hB1 := hB1.mono st21 (WL.no1 (by omega))
  replace hR1 := hR1.mono st21 (WL.no1 (by omega))
  replace tot := tot.trans (st21.up1 (.inr (by omega)))
  clear hB14
  have hB14 := hB15
  clear hB15
  refine WP.dn ?_
  refine NX.then_n ?_
  refine CP.seq ?_
  refine CP.cut (fun tm g => ∃ (q12 : Bool), Fr 51 [(1, .pointer (some ⟨b1, 0, none⟩)), (3, .int .i64 x4), (4, .pointer (some ⟨b15, 0, none⟩)), (12, .slice a1 n1 c1), (13, .int .i64 (l1.length : Int)), (14, .int .i64 x4), (34, .bool q12)] tm ∧ Step (fun l => NoM l ∨ t ≤ l) g0 g ∧ Box g (t + 1) b1 32 [encA .u8 d1, [.int .i64 x1], encA .i64 d2, [.slice a1 n1 c1]] [8, 1, 2, 1] ∧ RdS k_S_purse_Held g 56 a1 n1 c1 l1 ∧ Box g (t + 8) b15 56 [encA .u8 ((getI l1 x4).f1), [.int .i64 ((getI l1 x4).f2)], [.int .i64 ((getI l1 x4).f3)], [.int .i64 ((getI l1 x4).f4)]] [8, 1, 1, 1] ∧ (F.purse_Purse_held.c1 (F.purse_Purse_held.l1 l1 k1) l1 x4 q12) = some o1) ?_ ?_
  ·refine CP.region ?_
   refine WP.stl 1 ?_
   refine WP.loadB (v := .int .i64 ((getI l1 x4).f2)) hB14 (by kernel_rfl) (by kernel_rfl) ?_
   replace hs := Option.bind_eq_some_iff.1 hs
   obtain ⟨q13, hk10, hs⟩ := hs
   have hcal10 := P.purse_some g21 ((getI l1 x4).f2) q13 hk10
   refine WP.callC hcal10 (by kernel_rfl) ?_
   rintro _ g31 st31 rfl
   replace hB1 := hB1.mono st31 (fun x => x)
   replace hR1 := hR1.mono st31 (fun x => x)
   replace hB14 := hB14.mono st31 (fun x => x)
   replace tot := tot.trans st31.pure
   refine WP.stl 2 ?_
   refine WP.guard 23 (b := (!q13)) (by kernel_rfl) (fun h28 => ?_) (fun h28 => ?_)
   ·replace hs := of_if_t hs h28
    refine WP.stl 11 ?_
    refine WP.dn ?_
    refine NX.post ?_
    exact ⟨true, ⟨by kernel_rfl, by kernel_rfl⟩, tot, hB1, hR1, hB14, hs⟩
   replace hs := of_if_f hs h28
   refine WP.stl 1 ?_
   refine WP.loadB (v := .int .i64 ((getI l1 x4).f3)) hB14 (by kernel_rfl) (by kernel_rfl) ?_
   replace hs := Option.bind_eq_some_iff.1 hs
   obtain ⟨q14, hk11, hs⟩ := hs
   have hcal11 := P.purse_side g31 ((getI l1 x4).f3) q14 hk11
   refine WP.callC hcal11 (by kernel_rfl) ?_
   rintro _ g32 st32 rfl
   replace hB1 := hB1.mono st32 (fun x => x)
   replace hR1 := hR1.mono st32 (fun x => x)
   replace hB14 := hB14.mono st32 (fun x => x)
   replace tot := tot.trans st32.pure
   refine WP.stl 3 ?_
   refine WP.guard 29 (b := (!q14)) (by kernel_rfl) (fun h29 => ?_) (fun h29 => ?_)
   ·replace hs := of_if_t hs h29
    refine WP.stl 5 ?_
    refine WP.dn ?_
    refine NX.post ?_
    exact ⟨true, ⟨by kernel_rfl, by kernel_rfl⟩, tot, hB1, hR1, hB14, hs⟩
   replace hs := of_if_f hs h29
   refine WP.stl 1 ?_
   refine WP.loadB (v := .int .i64 ((getI l1 x4).f4)) hB14 (by kernel_rfl) (by kernel_rfl) ?_
   replace hs := Option.bind_eq_some_iff.1 hs
   obtain ⟨q15, hk12, hs⟩ := hs
   have hcal12 := P.purse_height g32 ((getI l1 x4).f4) q15 hk12
   refine WP.callC hcal12 (by kernel_rfl) ?_
   rintro _ g33 st33 rfl
   replace hB1 := hB1.mono st33 (fun x => x)
   replace hR1 := hR1.mono st33 (fun x => x)
   replace hB14 := hB14.mono st33 (fun x => x)
   replace tot := tot.trans st33.pure
   refine WP.stl 2 ?_
   refine WP.dn ?_
   refine NX.post ?_
   exact ⟨(!q15), ⟨by kernel_rfl, by kernel_rfl⟩, tot, hB1, hR1, hB14, hs⟩
  clear tot hs hB1 hR1 hB14
  rintro tm g ⟨q12, hF, tot, hB1, hR1, hB14, hs⟩
  clear ds
  obtain ⟨ds, rfl⟩ := hF.open
  clear hF
  unfold F.purse_Purse_held.c1 at hs
  refine CP.cond (b := q12) (by kernel_rfl) (fun h21 => ?_) (fun h21 => ?_)
  ·replace hs := of_if_t hs h21
   refine CP.seqR ?_
   refine WP.stl 1 ?_
   refine WP.dn ?_
   refine NX.then_n ?_
   refine CP.ret ?_
   refine NX.then_r ?_
   refine NX.block_r ?_
   refine NX.then_r ?_
   refine NX.then_r ?_
   refine NX.block_r ?_
   refine NX.then_r ?_
   replace hs := Option.some.inj hs
   obtain rfl := hs
   exact NX.fin (v := .int .i64 2) (Res.still (by kernel_rfl)) tot htL rfl
  replace hs := of_if_f hs h21
  refine CP.skip ?_
  refine NX.then_n ?_
  refine CP.seqR ?_
  refine WP.stl 1 ?_
  refine WP.loadB (v := .slice a1 n1 c1) hB1 (by kernel_rfl) (by kernel_rfl) ?_
  refine WP.stl 1 ?_
  by_cases hc10 : (0 : Int) ≤ 0 ∧ 0 ≤ x4 ∧ x4 ≤ (l1.length : Int)
  case neg => rw [if_neg hc10] at hs; cases hs
  replace hs := of_if_p hs hc10
  refine WP.sliceR (lo := none) (hi := some (.int .i64 x4)) hR1 0 x4 (by kernel_rfl) (.inl ⟨rfl, rfl⟩) (.inr ⟨_, rfl⟩) hc10 ?_
  intro a4 c4 hR4
  refine WP.len (a := a4) (cp := c4) hR4.len (by kernel_rfl) ?_
  refine WP.stl 1 ?_
  refine WP.dn ?_
  refine NX.then_n ?_
  refine CP.block ?_
  generalize fuel = k2 at hs
  refine CP.loop (fun k2 tm g => ∃ (x8 : Int), Fr 51 [(1, .pointer (some ⟨b1, 0, none⟩)), (4, .pointer (some ⟨b15, 0, none⟩)), (12, .slice a1 n1 c1), (13, .int .i64 (l1.length : Int)), (14, .int .i64 x4), (38, .slice a4 (x4.toNat - (0 : Int).toNat) c4), (39, .int .i64 ((sliceI l1 0 x4).length : Int)), (40, .int .i64 x8)] tm ∧ Step (fun l => NoM l ∨ t ≤ l) g0 g ∧ Box g (t + 1) b1 32 [encA .u8 d1, [.int .i64 x1], encA .i64 d2, [.slice a1 n1 c1]] [8, 1, 2, 1] ∧ RdS k_S_purse_Held g 56 a1 n1 c1 l1 ∧ Box g (t + 8) b15 56 [encA .u8 ((getI l1 x4).f1), [.int .i64 ((getI l1 x4).f2)], [.int .i64 ((getI l1 x4).f3)], [.int .i64 ((getI l1 x4).f4)]] [8, 1, 1, 1] ∧ RdS k_S_purse_Held g 56 a4 (x4.toNat - (0 : Int).toNat) c4 (sliceI l1 0 x4) ∧ F.purse_Purse_held.l2 (F.purse_Purse_held.l1 l1 k1) l1 x4 k2 x8 = some o1) k2 ?_ ?_ ?_
  ·exact ⟨0, ⟨by kernel_rfl, by kernel_rfl⟩, tot, hB1, hR1, hB14, hR4, hs⟩
  ·rintro tm g ⟨x8, hF, tot, hB1, hR1, hB14, hR4, hs⟩
   exact absurd hs (by simp [F.purse_Purse_held.l2])
  clear tot hs hB1 hR1 hB14 hR4
  rintro k2 tm g ⟨x8, hF, tot, hB1, hR1, hB14, hR4, hs⟩
  clear ds
  obtain ⟨ds, rfl⟩ := hF.open
  clear hF
  unfold F.purse_Purse_held.l2 at hs
  refine CP.seqR ?_
  refine WP.stl 1 ?_
  refine WP.dn ?_
  refine NX.then_n ?_
  refine CP.seq ?_
  refine CP.cond (b := decide (x8 < ((sliceI l1 0 x4).length : Int))) (by kernel_rfl) (fun h26 => ?_) (fun h26 => ?_)
  ·replace hs := of_if_t hs h26
   refine CP.skip ?_
   refine NX.then_n ?_
   refine CP.seq ?_
   refine CP.block ?_
   refine CP.seqR ?_
   by_cases hc13 : (0 : Int) ≤ x8 ∧ x8 < ((sliceI l1 0 x4).length : Int)
   case neg => rw [if_neg hc13] at hs; cases hs
   replace hs := of_if_p hs hc13
   obtain ⟨b20, u10, ha10⟩ := hR4.at hc13
   refine WP.indexA (t := 30) (e := 56) (sz := 11) (cap := c4) (k := .i64) (i := x8) hR4.len ha10 (by kernel_rfl) (by kernel_rfl) hc13 ?_
   obtain ⟨cs10, hcR10, hcV10⟩ := hR4.src.view (getI_some hc13) ha10
   replace hcR10 := k_S_purse_Held.opn hcR10
   refine WP.loadV [encA .u8 ((getI (sliceI l1 0 x4) x8).f1), [.int .i64 ((getI (sliceI l1 0 x4) x8).f2)], [.int .i64 ((getI (sliceI l1 0 x4) x8).f3)], [.int .i64 ((getI (sliceI l1 0 x4) x8).f4)]] [8, 1, 1, 1] hcV10 hcR10 (by simp [len_encA]) (f := 0) (ty := 56) (agg := true) (size := 11) (rs := [encA .u8 ((getI (sliceI l1 0 x4) x8).f1), [.int .i64 ((getI (sliceI l1 0 x4) x8).f2)], [.int .i64 ((getI (sliceI l1 0 x4) x8).f3)], [.int .i64 ((getI (sliceI l1 0 x4) x8).f4)]]) (v := AG [encA .u8 ((getI (sliceI l1 0 x4) x8).f1), [.int .i64 ((getI (sliceI l1 0 x4) x8).f2)], [.int .i64 ((getI (sliceI l1 0 x4) x8).f3)], [.int .i64 ((getI (sliceI l1 0 x4) x8).f4)]]) (by kernel_rfl) (by kernel_rfl) (by kernel_rfl) (by kernel_rfl) ?_
   refine WP.alloc (T := 56) (t + 11) [encA .u8 (zA 8), [.int .i64 0], [.int .i64 0], [.int .i64 0]] [8, 1, 1, 1] (by kernel_rfl) (by simp [len_encA]) ?_
   intro g29 b21 st29 hB20
   replace hB1 := hB1.mono st29 (fun x => x)
   replace hR1 := hR1.mono st29 (fun x => x)
   replace hB14 := hB14.mono st29 (fun x => x)
   replace hR4 := hR4.mono st29 (fun x => x)
   replace tot := tot.trans st29.pure
   refine WP.storeB (ty := 56) (off := 0) (v := AG [encA .u8 ((getI (sliceI l1 0 x4) x8).f1), [.int .i64 ((getI (sliceI l1 0 x4) x8).f2)], [.int .i64 ((getI (sliceI l1 0 x4) x8).f3)], [.int .i64 ((getI (sliceI l1 0 x4) x8).f4)]]) hB20 [encA .u8 ((getI (sliceI l1 0 x4) x8).f1), [.int .i64 ((getI (sliceI l1 0 x4) x8).f2)], [.int .i64 ((getI (sliceI l1 0 x4) x8).f3)], [.int .i64 ((getI (sliceI l1 0 x4) x8).f4)]] [8, 1, 1, 1] (by kernel_rfl) (by kernel_rfl) (by simp [len_encA]) (by kernel_rfl) [encA .u8 ((getI (sliceI l1 0 x4) x8).f1), [.int .i64 ((getI (sliceI l1 0 x4) x8).f2)], [.int .i64 ((getI (sliceI l1 0 x4) x8).f3)], [.int .i64 ((getI (sliceI l1 0 x4) x8).f4)]] (by kernel_rfl) (.arr (.one rfl (.one rfl (.one rfl .nil)))) ?_
   intro g30 st30 hB21
   replace hB1 := hB1.mono st30 (WL.no1 (by omega))
   replace hR1 := hR1.mono st30 (WL.no1 (by omega))
   replace hB14 := hB14.mono st30 (WL.no1 (by omega))
   replace hR4 := hR4.mono st30 (WL.no1 (by omega))
   replace tot := tot.trans (st30.up1 (.inr (by omega)))
   clear hB20
   have hB20 := hB21
   clear hB21
   refine WP.dn ?_
   refine NX.then_n ?_
   refine CP.seqR ?_
   refine WP.stl 1 ?_
   refine WP.loadB (v := AG [encA .u8 ((getI (sliceI l1 0 x4) x8).f1)]) hB20 (by kernel_rfl) (by kernel_rfl) ?_
   refine WP.stl 1 ?_
   refine WP.loadB (v := AG [encA .u8 ((getI l1 x4).f1)]) hB14 (by kernel_rfl) (by kernel_rfl) ?_
   refine WP.eqV (by kernel_rfl) (by kernel_rfl) (EqV.arr (d := 9998) (t := 29) (e := 5) (m := 8) (k := .u8) (x := (getI (sliceI l1 0 x4) x8).f1) (y := (getI l1 x4).f1) (by kernel_rfl) (by kernel_rfl)) ?_
   refine WP.dn ?_
   refine NX.then_n ?_
   refine CP.cond (b := (((getI (sliceI l1 0 x4) x8).f1).1 == ((getI l1 x4).f1).1)) (by kernel_rfl) (fun h27 => ?_) (fun h27 => ?_)
   ·replace hs := of_if_t hs h27
    refine CP.seqR ?_
    refine WP.stl 1 ?_
    refine WP.dn ?_
    refine NX.then_n ?_
    refine CP.ret ?_
    refine NX.block_r ?_
    refine NX.then_r ?_
    refine NX.then_r ?_
    refine NX.block_r ?_
    refine NX.block_r ?_
    refine NX.then_r ?_
    refine NX.then_r ?_
    refine NX.block_r ?_
    refine NX.then_r ?_
    replace hs := Option.some.inj hs
    obtain rfl := hs
    exact NX.fin (v := .int .i64 7) (Res.still (by kernel_rfl)) tot htL rfl
   replace hs := of_if_f hs h27
   refine CP.skip ?_
   refine NX.block_n ?_
   refine NX.then_n ?_
   refine CP.region ?_
   refine WP.stl 2 ?_
   refine WP.dn ?_
   refine NX.post ?_
   exact ⟨(IntKind.i64.wrap (x8 + 1)), ⟨by kernel_rfl, by kernel_rfl⟩, tot, hB1, hR1, hB14, hR4, hs⟩
  replace hs := of_if_f hs h26
  refine CP.exit ?_
  refine NX.then_e ?_
  refine NX.then_e ?_
  refine NX.block_s ?_
  refine NX.block_n ?_
  refine NX.then_n ?_
  refine CP.region ?_
  refine WP.stl 2 ?_
  refine WP.dn ?_
  refine NX.post ?_
  exact ⟨(IntKind.i64.wrap (x4 + 1)), ⟨by kernel_rfl, by kernel_rfl⟩, tot, hB1, hR1, hs⟩
 replace hs := of_if_f hs h18
 refine CP.exit ?_
 refine NX.then_e ?_
 refine NX.then_e ?_
 refine NX.block_s ?_
 refine NX.then_n ?_
 refine CP.seqR ?_
 refine WP.stl 1 ?_
 refine WP.dn ?_
 refine NX.then_n ?_
 refine CP.ret ?_
 replace hs := Option.some.inj hs
 obtain rfl := hs
 exact NX.fin (v := .int .i64 0) (Res.still (by kernel_rfl)) tot htL rfl
def F.purse_Purse_amounts.l1 (l1 : List S_purse_Held) : Nat → (List Int) → Int → Option ((List Int))
 | 0, _, _ => none
 | k + 1, l2, x2 => (if decide (x2 < (l1.length : Int)) = true then (if (0 : Int) ≤ x2 ∧ x2 < (l1.length : Int) then (if l2.length + ([(getI l1 x2).f2]).length ≤ 17592186044416 then (F.purse_Purse_amounts.l1 l1 k (l2 ++ [(getI l1 x2).f2]) (IntKind.i64.wrap (x2 + 1))) else none) else none) else (some l2))
def F.purse_Purse_amounts (d1 : Arr Int 8) (x1 : Int) (d2 : Arr Int 2) (l1 : List S_purse_Held) : Option ((List Int)) := (F.purse_Purse_amounts.l1 l1 fuel d2.1 0)
theorem P.purse_Purse_amounts (g0 : GW) (d1 : Arr Int 8) (x1 : Int) (d2 : Arr Int 2) (l1 : List S_purse_Held) (a1 : Option Addr) (n1 : Nat) (c1 : Nat) (hR1 : RdS k_S_purse_Held g0 56 a1 n1 c1 l1) (o1 : List Int) (hs : F.purse_Purse_amounts d1 x1 d2 l1 = some o1) :
  Calls Try.prog 41 #[AG [encA .u8 d1, [.int .i64 x1], encA .i64 d2, [.slice a1 n1 c1]]] g0.w (Ret NoM g0 fun v g => ∃ (a_1 : Option Addr) (n_1 : Nat) (c_1 : Nat), v = .slice a_1 n_1 c_1 ∧ RdS (Kd.int .i64) g 3 a_1 n_1 c_1 o1) := by
 refine calls_of (args := [AG [encA .u8 d1, [.int .i64 x1], encA .i64 d2, [.slice a1 n1 c1]]]) Try.func41 rfl (0) ?_
 intro t ht htL
 refine ⟨_, rfl, ?_⟩
 refine CP.refr 22 [(0, AG [encA .u8 d1, [.int .i64 x1], encA .i64 d2, [.slice a1 n1 c1]])] (by kernel_rfl) (by kernel_rfl) ?_
 intro ds
 have tot : Step (fun l => NoM l ∨ t ≤ l) g0 g0 := Step.refl _ _
 unfold F.purse_Purse_amounts at hs
 refine CP.seqR ?_
 refine WP.alloc (T := 32) (t + 1) [encA .u8 d1, [.int .i64 x1], encA .i64 d2, [.slice a1 n1 c1]] [8, 1, 2, 1] (by kernel_rfl) (by simp [len_encA]) ?_
 intro g1 b1 st1 hB1
 replace hR1 := hR1.mono st1 (fun x => x)
 replace tot := tot.trans st1.pure
 refine WP.stl 1 ?_
 refine WP.dn ?_
 refine NX.then_n ?_
 refine CP.seqR ?_
 refine WP.stl 1 ?_
 obtain ⟨g2, hw1, st2, hnew⟩ := hB1.relab 0
 refine WP.regw hw1 ?_
 replace hR1 := hR1.mono st2 (WL.no1 (by omega))
 replace tot := tot.trans (st2.up1 (.inr (by omega)))
 clear hB1
 have hB1 := hnew
 clear hnew
 refine WP.sliceZ (o := 9) (m := 2) (k := .i64) (d := d2) (e := 3) (lo := none) (hi := none) hB1 (by kernel_rfl) (0 : Int) (2 : Int) (by kernel_rfl) (.inl ⟨rfl, rfl⟩) (.inl ⟨rfl, rfl⟩) (by decide) ?_
 intro a2 hR2
 rw [sliceI_all (m := 2) (d := d2) (j := (2 : Int)) rfl] at hR2
 refine WP.stl 1 ?_
 refine WP.dn ?_
 refine NX.then_n ?_
 refine CP.seq ?_
 refine CP.seqR ?_
 refine WP.stl 1 ?_
 refine WP.loadB (v := .slice a1 n1 c1) hB1 (by kernel_rfl) (by kernel_rfl) ?_
 refine WP.len (a := a1) (cp := c1) hR1.len (by kernel_rfl) ?_
 refine WP.stl 1 ?_
 refine WP.dn ?_
 refine NX.then_n ?_
 refine CP.block ?_
 generalize fuel = k1 at hs
 refine CP.loop (fun k1 tm g => ∃ (l2 : List Int) (a5 : Option Addr) (n2 : Nat) (c3 : Nat) (x2 : Int), Fr 22 [(3, .slice a5 n2 c3), (9, .slice a1 n1 c1), (10, .int .i64 (l1.length : Int)), (11, .int .i64 x2)] tm ∧ Step (fun l => NoM l ∨ t ≤ l) g0 g ∧ AppS (Kd.int .i64) g (t + 4) 3 a5 n2 c3 l2 ∧ RdS k_S_purse_Held g 56 a1 n1 c1 l1 ∧ F.purse_Purse_amounts.l1 l1 k1 l2 x2 = some o1) k1 ?_ ?_ ?_
 ·exact ⟨d2.1, a2, ((2 : Int).toNat - (0 : Int).toNat), (2 - (0 : Int).toNat), 0, ⟨by kernel_rfl, by kernel_rfl⟩, tot, (RdS.app (t + 4) hR2 rfl), hR1, hs⟩
 ·rintro tm g ⟨l2, a5, n2, c3, x2, hF, tot, hR5, hR1, hs⟩
  exact absurd hs (by simp [F.purse_Purse_amounts.l1])
 clear tot hs hR1 hR2
 rintro k1 tm g ⟨l2, a5, n2, c3, x2, hF, tot, hR5, hR1, hs⟩
 clear ds
 obtain ⟨ds, rfl⟩ := hF.open
 clear hF
 unfold F.purse_Purse_amounts.l1 at hs
 refine CP.seqR ?_
 refine WP.stl 1 ?_
 refine WP.dn ?_
 refine NX.then_n ?_
 refine CP.seq ?_
 refine CP.cond (b := decide (x2 < (l1.length : Int))) (by kernel_rfl) (fun h3 => ?_) (fun h3 => ?_)
 ·replace hs := of_if_t hs h3
  refine CP.skip ?_
  refine NX.then_n ?_
  refine CP.seq ?_
  refine CP.block ?_
  refine CP.seqR ?_
  by_cases hc5 : (0 : Int) ≤ x2 ∧ x2 < (l1.length : Int)
  case neg => rw [if_neg hc5] at hs; cases hs
  replace hs := of_if_p hs hc5
  obtain ⟨b6, u3, ha3⟩ := hR1.at hc5
  refine WP.indexA (t := 30) (e := 56) (sz := 11) (cap := c1) (k := .i64) (i := x2) hR1.len ha3 (by kernel_rfl) (by kernel_rfl) hc5 ?_
  obtain ⟨cs3, hcR3, hcV3⟩ := hR1.src.view (getI_some hc5) ha3
  replace hcR3 := k_S_purse_Held.opn hcR3
  refine WP.loadV [encA .u8 ((getI l1 x2).f1), [.int .i64 ((getI l1 x2).f2)], [.int .i64 ((getI l1 x2).f3)], [.int .i64 ((getI l1 x2).f4)]] [8, 1, 1, 1] hcV3 hcR3 (by simp [len_encA]) (f := 0) (ty := 56) (agg := true) (size := 11) (rs := [encA .u8 ((getI l1 x2).f1), [.int .i64 ((getI l1 x2).f2)], [.int .i64 ((getI l1 x2).f3)], [.int .i64 ((getI l1 x2).f4)]]) (v := AG [encA .u8 ((getI l1 x2).f1), [.int .i64 ((getI l1 x2).f2)], [.int .i64 ((getI l1 x2).f3)], [.int .i64 ((getI l1 x2).f4)]]) (by kernel_rfl) (by kernel_rfl) (by kernel_rfl) (by kernel_rfl) ?_
  refine WP.alloc (T := 56) (t + 7) [encA .u8 (zA 8), [.int .i64 0], [.int .i64 0], [.int .i64 0]] [8, 1, 1, 1] (by kernel_rfl) (by simp [len_encA]) ?_
  intro g11 b7 st11 hB6
  replace hR5 := hR5.mono st11 (fun x => x) (fun x => x)
  replace hR1 := hR1.mono st11 (fun x => x)
  replace tot := tot.trans st11.pure
  refine WP.storeB (ty := 56) (off := 0) (v := AG [encA .u8 ((getI l1 x2).f1), [.int .i64 ((getI l1 x2).f2)], [.int .i64 ((getI l1 x2).f3)], [.int .i64 ((getI l1 x2).f4)]]) hB6 [encA .u8 ((getI l1 x2).f1), [.int .i64 ((getI l1 x2).f2)], [.int .i64 ((getI l1 x2).f3)], [.int .i64 ((getI l1 x2).f4)]] [8, 1, 1, 1] (by kernel_rfl) (by kernel_rfl) (by simp [len_encA]) (by kernel_rfl) [encA .u8 ((getI l1 x2).f1), [.int .i64 ((getI l1 x2).f2)], [.int .i64 ((getI l1 x2).f3)], [.int .i64 ((getI l1 x2).f4)]] (by kernel_rfl) (.arr (.one rfl (.one rfl (.one rfl .nil)))) ?_
  intro g12 st12 hB7
  replace hR5 := hR5.mono st12 (WL.no1 (by omega)) (WL.no1 (by omega))
  replace hR1 := hR1.mono st12 (WL.no1 (by omega))
  replace tot := tot.trans (st12.up1 (.inr (by omega)))
  clear hB6
  have hB6 := hB7
  clear hB7
  refine WP.dn ?_
  refine NX.then_n ?_
  refine CP.region ?_
  refine WP.stl 2 ?_
  refine WP.loadB (v := .int .i64 ((getI l1 x2).f2)) hB6 (by kernel_rfl) (by kernel_rfl) ?_
  refine WP.mkSl (kd := (Kd.int .i64)) (t := 89) (e := 3) (bytes := 8) (t + 8) [.int .i64 ((getI l1 x2).f2)] [(getI l1 x2).f2] (by kernel_rfl) (by kernel_rfl) (Nat.le_of_ble_eq_true rfl) (Nat.le_of_ble_eq_true rfl) (all_cons rfl all_nil) (⟨_, _, rfl, (by exact rfl), rfl⟩) rfl ?_
  intro g13 a9 st13 hR9
  replace hR5 := hR5.mono st13 (fun x => x) (fun x => x)
  replace hR1 := hR1.mono st13 (fun x => x)
  replace hB6 := hB6.mono st13 (fun x => x)
  replace tot := tot.trans st13.pure
  by_cases hc6 : l2.length + ([(getI l1 x2).f2]).length ≤ 17592186044416
  case neg => rw [if_neg hc6] at hs; cases hs
  replace hs := of_if_p hs hc6
  refine WP.appendA (kd := (Kd.int .i64)) (t := 89) (e := 3) (bytes := 8) (a2 := a9) (c2 := 1) hR5 hR9.src hR9.len (Nat.le_of_ble_eq_true rfl) (by kernel_rfl) (by kernel_rfl) (by omega) (by simp only [maxLen]; omega) (by omega) ?_
  intro g14 a10 c6 st14 hR10
  replace hR1 := hR1.mono st14 (WL.no1 (by omega))
  replace hB6 := hB6.mono st14 (WL.no1 (by omega))
  replace hR9 := hR9.mono st14 (WL.no1 (by omega)) (WL.no1 (by omega))
  replace tot := tot.trans (st14.up1 (.inr (by omega)))
  refine WP.stl 1 ?_
  refine WP.dn ?_
  refine NX.block_n ?_
  refine NX.then_n ?_
  refine CP.region ?_
  refine WP.stl 2 ?_
  refine WP.dn ?_
  refine NX.post ?_
  exact ⟨(l2 ++ [(getI l1 x2).f2]), a10, (n2 + 1), c6, (IntKind.i64.wrap (x2 + 1)), ⟨by kernel_rfl, by kernel_rfl⟩, tot, hR10.app, hR1, hs⟩
 replace hs := of_if_f hs h3
 refine CP.exit ?_
 refine NX.then_e ?_
 refine NX.then_e ?_
 refine NX.block_s ?_
 refine NX.then_n ?_
 refine CP.seqR ?_
 refine WP.stl 2 ?_
 refine WP.dn ?_
 refine NX.then_n ?_
 refine CP.ret ?_
 obtain ⟨g15, hw2, st15, hnew⟩ := hR5.freeze (by omega)
 refine NX.regw hw2 ?_
 replace tot := tot.trans (st15.up1 (.inr (by omega)))
 clear hR5
 have hR5 := hnew
 clear hnew
 replace hs := Option.some.inj hs
 obtain rfl := hs
 exact NX.fin (v := .slice a5 n2 c3) (Res.still (by kernel_rfl)) tot htL ⟨a5, n2, c3, rfl, hR5⟩
def F.coin_Add.c1 (x1 : Int) (x2 : Int) (q4 : Bool) : Option (Int × Int) := (if q4 = true then (some (0, 2)) else (some ((IntKind.i64.wrap (x1 + x2)), 0)))
def F.coin_Add (x1 : Int) (x2 : Int) : Option (Int × Int) := ((F.coin_Right x1).bind fun q5 => (if (!q5) = true then (F.coin_Add.c1 x1 x2 true) else ((F.coin_Right x2).bind fun q6 => (if (!q6) = true then (F.coin_Add.c1 x1 x2 true) else ((F.coin_Right (IntKind.i64.wrap (x1 + x2))).bind fun q7 => (F.coin_Add.c1 x1 x2 (!q7)))))))
theorem P.coin_Add (g0 : GW) (x1 : Int) (x2 : Int) (o1 : Int) (o2 : Int) (hs : F.coin_Add x1 x2 = some (o1, o2)) :
  Calls Try.prog 76 #[.int .i64 x1, .int .i64 x2] g0.w (Ret NoM g0 fun v g => v = .tuple #[.int .i64 o1, .int .i64 o2]) := by
 refine calls_of (args := [.int .i64 x1, .int .i64 x2]) Try.func76 rfl (0) ?_
 intro t ht htL
 refine ⟨_, rfl, ?_⟩
 refine CP.refr 24 [(0, .int .i64 x1), (1, .int .i64 x2)] (by kernel_rfl) (by kernel_rfl) ?_
 intro ds
 have tot : Step (fun l => NoM l ∨ t ≤ l) g0 g0 := Step.refl _ _
 unfold F.coin_Add at hs
 refine CP.seqR ?_
 refine WP.stl 2 ?_
 refine WP.dn ?_
 refine NX.then_n ?_
 refine CP.seq ?_
 refine CP.cut (fun tm g => ∃ (q4 : Bool), Fr 24 [(0, .int .i64 x1), (1, .int .i64 x2), (20, .bool q4)] tm ∧ Step (fun l => NoM l ∨ t ≤ l) g0 g ∧ (F.coin_Add.c1 x1 x2 q4) = some (o1, o2)) ?_ ?_
 ·refine CP.region ?_
  refine WP.stl 1 ?_
  replace hs := Option.bind_eq_some_iff.1 hs
  obtain ⟨q5, hk4, hs⟩ := hs
  have hcal4 := P.coin_Right g0 x1 q5 hk4
  refine WP.callC hcal4 (by kernel_rfl) ?_
  rintro _ g4 st4 rfl
  replace tot := tot.trans st4.pure
  refine WP.stl 2 ?_
  refine WP.guard 9 (b := (!q5)) (by kernel_rfl) (fun h4 => ?_) (fun h4 => ?_)
  ·replace hs := of_if_t hs h4
   refine WP.stl 11 ?_
   refine WP.dn ?_
   refine NX.post ?_
   exact ⟨true, ⟨by kernel_rfl, by kernel_rfl⟩, tot, hs⟩
  replace hs := of_if_f hs h4
  refine WP.stl 1 ?_
  replace hs := Option.bind_eq_some_iff.1 hs
  obtain ⟨q6, hk5, hs⟩ := hs
  have hcal5 := P.coin_Right g4 x2 q6 hk5
  refine WP.callC hcal5 (by kernel_rfl) ?_
  rintro _ g5 st5 rfl
  replace tot := tot.trans st5.pure
  refine WP.stl 3 ?_
  refine WP.guard 14 (b := (!q6)) (by kernel_rfl) (fun h5 => ?_) (fun h5 => ?_)
  ·replace hs := of_if_t hs h5
   refine WP.stl 6 ?_
   refine WP.dn ?_
   refine NX.post ?_
   exact ⟨true, ⟨by kernel_rfl, by kernel_rfl⟩, tot, hs⟩
  replace hs := of_if_f hs h5
  refine WP.stl 3 ?_
  replace hs := Option.bind_eq_some_iff.1 hs
  obtain ⟨q7, hk6, hs⟩ := hs
  have hcal6 := P.coin_Right g5 (IntKind.i64.wrap (x1 + x2)) q7 hk6
  refine WP.callC hcal6 (by kernel_rfl) ?_
  rintro _ g6 st6 rfl
  replace tot := tot.trans st6.pure
  refine WP.stl 2 ?_
  refine WP.dn ?_
  refine NX.post ?_
  exact ⟨(!q7), ⟨by kernel_rfl, by kernel_rfl⟩, tot, hs⟩
 clear tot hs
 rintro tm g ⟨q4, hF, tot, hs⟩
 clear ds
 obtain ⟨ds, rfl⟩ := hF.open
 clear hF
 unfold F.coin_Add.c1 at hs
 refine CP.cond (b := q4) (by kernel_rfl) (fun h3 => ?_) (fun h3 => ?_)
 ·replace hs := of_if_t hs h3
  refine CP.seqR ?_
  refine WP.stl 2 ?_
  refine WP.dn ?_
  refine NX.then_n ?_
  refine CP.ret ?_
  refine NX.then_r ?_
  replace hs := Option.some.inj hs
  obtain ⟨rfl, rfl⟩ := Prod.mk.inj hs
  exact NX.fin (v := .tuple #[.int .i64 0, .int .i64 2]) (Res.still (by kernel_rfl)) tot htL rfl
 replace hs := of_if_f hs h3
 refine CP.skip ?_
 refine NX.then_n ?_
 refine CP.seqR ?_
 refine WP.stl 5 ?_
 refine WP.dn ?_
 refine NX.then_n ?_
 refine CP.ret ?_
 replace hs := Option.some.inj hs
 obtain ⟨rfl, rfl⟩ := Prod.mk.inj hs
 exact NX.fin (v := .tuple #[.int .i64 (IntKind.i64.wrap (x1 + x2)), .int .i64 0]) (Res.still (by kernel_rfl)) tot htL rfl
def F.coin_Sum.l1 (l1 : List Int) : Nat → Int → Int → Option (Int × Int)
 | 0, _, _ => none
 | k + 1, x3, x4 => (if decide (x4 < (l1.length : Int)) = true then (if (0 : Int) ≤ x4 ∧ x4 < (l1.length : Int) then ((F.coin_Add x3 (getI l1 x4)).bind fun (x9, x10) => (if (x10 != 0) = true then (some (0, x10)) else (F.coin_Sum.l1 l1 k x9 (IntKind.i64.wrap (x4 + 1))))) else none) else (some (x3, 0)))
def F.coin_Sum (l1 : List Int) : Option (Int × Int) := (F.coin_Sum.l1 l1 fuel 0 0)
theorem P.coin_Sum (g0 : GW) (l1 : List Int) (a1 : Option Addr) (n1 : Nat) (c1 : Nat) (hR1 : RdS (Kd.int .i64) g0 3 a1 n1 c1 l1) (o1 : Int) (o2 : Int) (hs : F.coin_Sum l1 = some (o1, o2)) :
  Calls Try.prog 40 #[.slice a1 n1 c1] g0.w (Ret NoM g0 fun v g => v = .tuple #[.int .i64 o1, .int .i64 o2]) := by
 refine calls_of (args := [.slice a1 n1 c1]) Try.func40 rfl (0) ?_
 intro t ht htL
 refine ⟨_, rfl, ?_⟩
 refine CP.refr 27 [(0, .slice a1 n1 c1)] (by kernel_rfl) (by kernel_rfl) ?_
 intro ds
 have tot : Step (fun l => NoM l ∨ t ≤ l) g0 g0 := Step.refl _ _
 unfold F.coin_Sum at hs
 refine CP.seqR ?_
 refine WP.stl 2 ?_
 refine WP.dn ?_
 refine NX.then_n ?_
 refine CP.seqR ?_
 refine WP.stl 1 ?_
 refine WP.dn ?_
 refine NX.then_n ?_
 refine CP.seq ?_
 refine CP.seqR ?_
 refine WP.stl 1 ?_
 refine WP.len (a := a1) (cp := c1) hR1.len (by kernel_rfl) ?_
 refine WP.stl 1 ?_
 refine WP.dn ?_
 refine NX.then_n ?_
 refine CP.block ?_
 generalize fuel = k1 at hs
 refine CP.loop (fun k1 tm g => ∃ (x3 : Int) (x4 : Int), Fr 27 [(4, .int .i64 x3), (9, .slice a1 n1 c1), (10, .int .i64 (l1.length : Int)), (11, .int .i64 x4)] tm ∧ Step (fun l => NoM l ∨ t ≤ l) g0 g ∧ RdS (Kd.int .i64) g 3 a1 n1 c1 l1 ∧ F.coin_Sum.l1 l1 k1 x3 x4 = some (o1, o2)) k1 ?_ ?_ ?_
 ·exact ⟨0, 0, ⟨by kernel_rfl, by kernel_rfl⟩, tot, hR1, hs⟩
 ·rintro tm g ⟨x3, x4, hF, tot, hR1, hs⟩
  exact absurd hs (by simp [F.coin_Sum.l1])
 clear tot hs hR1
 rintro k1 tm g ⟨x3, x4, hF, tot, hR1, hs⟩
 clear ds
 obtain ⟨ds, rfl⟩ := hF.open
 clear hF
 unfold F.coin_Sum.l1 at hs
 refine CP.seqR ?_
 refine WP.stl 1 ?_
 refine WP.dn ?_
 refine NX.then_n ?_
 refine CP.seq ?_
 refine CP.cond (b := decide (x4 < (l1.length : Int))) (by kernel_rfl) (fun h5 => ?_) (fun h5 => ?_)
 ·replace hs := of_if_t hs h5
  refine CP.skip ?_
  refine NX.then_n ?_
  refine CP.seq ?_
  refine CP.block ?_
  refine CP.seqR ?_
  by_cases hc3 : (0 : Int) ≤ x4 ∧ x4 < (l1.length : Int)
  case neg => rw [if_neg hc3] at hs; cases hs
  replace hs := of_if_p hs hc3
  obtain ⟨b3, u3, ha3⟩ := hR1.at hc3
  refine WP.indexA (t := 89) (e := 3) (sz := 1) (cap := c1) (k := .i64) (i := x4) hR1.len ha3 (by kernel_rfl) (by kernel_rfl) hc3 ?_
  obtain ⟨cs3, hcR3, hcV3⟩ := hR1.src.view (getI_some hc3) ha3
  replace hcR3 := Kd.o_int hcR3
  refine WP.loadV [[.int .i64 (getI l1 x4)]] [1] hcV3 hcR3 rfl (f := 0) (ty := 3) (agg := false) (size := 1) (rs := [[.int .i64 (getI l1 x4)]]) (v := .int .i64 (getI l1 x4)) (by kernel_rfl) (by kernel_rfl) (by kernel_rfl) (by kernel_rfl) ?_
  refine WP.stl 1 ?_
  refine WP.dn ?_
  refine NX.then_n ?_
  refine CP.seqR ?_
  refine WP.stl 2 ?_
  replace hs := Option.bind_eq_some_iff.1 hs
  obtain ⟨⟨x9, x10⟩, hk3, hs⟩ := hs
  dsimp only at hs
  have hcal3 := P.coin_Add g x3 (getI l1 x4) x9 x10 hk3
  refine WP.callC hcal3 (by kernel_rfl) ?_
  rintro _ g3 st3 rfl
  replace hR1 := hR1.mono st3 (fun x => x)
  replace tot := tot.trans st3.pure
  refine WP.stl 5 ?_
  refine WP.dn ?_
  refine NX.then_n ?_
  refine CP.seq ?_
  refine CP.seqR ?_
  refine WP.stl 2 ?_
  refine WP.dn ?_
  refine NX.then_n ?_
  refine CP.refr 27 [(7, .int .i64 x9), (8, .int .i64 x10), (9, .slice a1 n1 c1), (10, .int .i64 (l1.length : Int)), (11, .int .i64 x4), (22, .bool (x10 != 0))] (by kernel_rfl) (by kernel_rfl) ?_
  clear ds
  intro ds
  refine CP.cond (b := (x10 != 0)) (by kernel_rfl) (fun h6 => ?_) (fun h6 => ?_)
  ·replace hs := of_if_t hs h6
   refine CP.seqR ?_
   refine WP.stl 3 ?_
   refine WP.dn ?_
   refine NX.then_n ?_
   refine CP.ret ?_
   refine NX.then_r ?_
   refine NX.block_r ?_
   refine NX.then_r ?_
   refine NX.then_r ?_
   refine NX.block_r ?_
   refine NX.then_r ?_
   replace hs := Option.some.inj hs
   obtain ⟨rfl, rfl⟩ := Prod.mk.inj hs
   exact NX.fin (v := .tuple #[.int .i64 0, .int .i64 x10]) (Res.still (by kernel_rfl)) tot htL rfl
  replace hs := of_if_f hs h6
  refine CP.skip ?_
  refine NX.then_n ?_
  refine CP.region ?_
  refine WP.stl 2 ?_
  refine WP.dn ?_
  refine NX.block_n ?_
  refine NX.then_n ?_
  refine CP.region ?_
  refine WP.stl 2 ?_
  refine WP.dn ?_
  refine NX.post ?_
  exact ⟨x9, (IntKind.i64.wrap (x4 + 1)), ⟨by kernel_rfl, by kernel_rfl⟩, tot, hR1, hs⟩
 replace hs := of_if_f hs h5
 refine CP.exit ?_
 refine NX.then_e ?_
 refine NX.then_e ?_
 refine NX.block_s ?_
 refine NX.then_n ?_
 refine CP.seqR ?_
 refine WP.stl 3 ?_
 refine WP.dn ?_
 refine NX.then_n ?_
 refine CP.ret ?_
 replace hs := Option.some.inj hs
 obtain ⟨rfl, rfl⟩ := Prod.mk.inj hs
 exact NX.fin (v := .tuple #[.int .i64 x3, .int .i64 0]) (Res.still (by kernel_rfl)) tot htL rfl
def F.purse_Purse_Check.c1 (d1 : Arr Int 8) (x1 : Int) (d2 : Arr Int 2) (l1 : List S_purse_Held) (q4 : Bool) : Option (Int) := (if q4 = true then (some 2) else ((F.purse_Purse_held d1 x1 d2 l1).bind fun x2 => (if (x2 != 0) = true then (some x2) else ((F.purse_Purse_amounts d1 x1 d2 l1).bind fun l2 => ((F.coin_Sum l2).bind fun (x3, x4) => (some x4))))))
def F.purse_Purse_Check (d1 : Arr Int 8) (x1 : Int) (d2 : Arr Int 2) (l1 : List S_purse_Held) : Option (Int) := ((F.purse_height x1).bind fun q5 => (if (!q5) = true then (F.purse_Purse_Check.c1 d1 x1 d2 l1 true) else ((F.coin_Right (aget d2 0)).bind fun q6 => (if (!q6) = true then (F.purse_Purse_Check.c1 d1 x1 d2 l1 true) else ((F.coin_Right (aget d2 1)).bind fun q7 => (F.purse_Purse_Check.c1 d1 x1 d2 l1 (!q7)))))))
theorem P.purse_Purse_Check (g0 : GW) (d1 : Arr Int 8) (x1 : Int) (d2 : Arr Int 2) (l1 : List S_purse_Held) (a1 : Option Addr) (n1 : Nat) (c1 : Nat) (hR1 : RdS k_S_purse_Held g0 56 a1 n1 c1 l1) (o1 : Int) (hs : F.purse_Purse_Check d1 x1 d2 l1 = some o1) :
  Calls Try.prog 21 #[AG [encA .u8 d1, [.int .i64 x1], encA .i64 d2, [.slice a1 n1 c1]]] g0.w (Ret NoM g0 fun v g => v = .int .i64 o1) := by
 refine calls_of (args := [AG [encA .u8 d1, [.int .i64 x1], encA .i64 d2, [.slice a1 n1 c1]]]) Try.func21 rfl (0) ?_
 intro t ht htL
 refine ⟨_, rfl, ?_⟩
 refine CP.refr 36 [(0, AG [encA .u8 d1, [.int .i64 x1], encA .i64 d2, [.slice a1 n1 c1]])] (by kernel_rfl) (by kernel_rfl) ?_
 intro ds
 have tot : Step (fun l => NoM l ∨ t ≤ l) g0 g0 := Step.refl _ _
 unfold F.purse_Purse_Check at hs
 refine CP.seqR ?_
 refine WP.alloc (T := 32) (t + 1) [encA .u8 d1, [.int .i64 x1], encA .i64 d2, [.slice a1 n1 c1]] [8, 1, 2, 1] (by kernel_rfl) (by simp [len_encA]) ?_
 intro g1 b1 st1 hB1
 replace hR1 := hR1.mono st1 (fun x => x)
 replace tot := tot.trans st1.pure
 refine WP.stl 1 ?_
 refine WP.dn ?_
 refine NX.then_n ?_
 refine CP.seq ?_
 refine CP.cut (fun tm g => ∃ (q4 : Bool), Fr 36 [(1, .pointer (some ⟨b1, 0, none⟩)), (23, .bool q4)] tm ∧ Step (fun l => NoM l ∨ t ≤ l) g0 g ∧ Box g (t + 1) b1 32 [encA .u8 d1, [.int .i64 x1], encA .i64 d2, [.slice a1 n1 c1]] [8, 1, 2, 1] ∧ RdS k_S_purse_Held g 56 a1 n1 c1 l1 ∧ (F.purse_Purse_Check.c1 d1 x1 d2 l1 q4) = some o1) ?_ ?_
 ·refine CP.region ?_
  refine WP.stl 1 ?_
  refine WP.loadB (v := .int .i64 x1) hB1 (by kernel_rfl) (by kernel_rfl) ?_
  replace hs := Option.bind_eq_some_iff.1 hs
  obtain ⟨q5, hk7, hs⟩ := hs
  have hcal7 := P.purse_height g1 x1 q5 hk7
  refine WP.callC hcal7 (by kernel_rfl) ?_
  rintro _ g8 st8 rfl
  replace hB1 := hB1.mono st8 (fun x => x)
  replace hR1 := hR1.mono st8 (fun x => x)
  replace tot := tot.trans st8.pure
  refine WP.stl 2 ?_
  refine WP.guard 10 (b := (!q5)) (by kernel_rfl) (fun h5 => ?_) (fun h5 => ?_)
  ·replace hs := of_if_t hs h5
   refine WP.stl 13 ?_
   refine WP.dn ?_
   refine NX.post ?_
   exact ⟨true, ⟨by kernel_rfl, by kernel_rfl⟩, tot, hB1, hR1, hs⟩
  replace hs := of_if_f hs h5
  refine WP.stl 2 ?_
  refine WP.loadE (ty := 3) (o := 9) (m := 2) (k := .i64) (d := d2) (i := 0) hB1 (by kernel_rfl) (by decide) (by kernel_rfl) (by kernel_rfl) ?_
  replace hs := Option.bind_eq_some_iff.1 hs
  obtain ⟨q6, hk8, hs⟩ := hs
  have hcal8 := P.coin_Right g8 (aget d2 0) q6 hk8
  refine WP.callC hcal8 (by kernel_rfl) ?_
  rintro _ g9 st9 rfl
  replace hB1 := hB1.mono st9 (fun x => x)
  replace hR1 := hR1.mono st9 (fun x => x)
  replace tot := tot.trans st9.pure
  refine WP.stl 3 ?_
  refine WP.guard 17 (b := (!q6)) (by kernel_rfl) (fun h6 => ?_) (fun h6 => ?_)
  ·replace hs := of_if_t hs h6
   refine WP.stl 6 ?_
   refine WP.dn ?_
   refine NX.post ?_
   exact ⟨true, ⟨by kernel_rfl, by kernel_rfl⟩, tot, hB1, hR1, hs⟩
  replace hs := of_if_f hs h6
  refine WP.stl 2 ?_
  refine WP.loadE (ty := 3) (o := 9) (m := 2) (k := .i64) (d := d2) (i := 1) hB1 (by kernel_rfl) (by decide) (by kernel_rfl) (by kernel_rfl) ?_
  replace hs := Option.bind_eq_some_iff.1 hs
  obtain ⟨q7, hk9, hs⟩ := hs
  have hcal9 := P.coin_Right g9 (aget d2 1) q7 hk9
  refine WP.callC hcal9 (by kernel_rfl) ?_
  rintro _ g10 st10 rfl
  replace hB1 := hB1.mono st10 (fun x => x)
  replace hR1 := hR1.mono st10 (fun x => x)
  replace tot := tot.trans st10.pure
  refine WP.stl 2 ?_
  refine WP.dn ?_
  refine NX.post ?_
  exact ⟨(!q7), ⟨by kernel_rfl, by kernel_rfl⟩, tot, hB1, hR1, hs⟩
 clear tot hs hB1 hR1
 rintro tm g ⟨q4, hF, tot, hB1, hR1, hs⟩
 clear ds
 obtain ⟨ds, rfl⟩ := hF.open
 clear hF
 unfold F.purse_Purse_Check.c1 at hs
 refine CP.cond (b := q4) (by kernel_rfl) (fun h3 => ?_) (fun h3 => ?_)
 ·replace hs := of_if_t hs h3
  refine CP.seqR ?_
  refine WP.stl 1 ?_
  refine WP.dn ?_
  refine NX.then_n ?_
  refine CP.ret ?_
  refine NX.then_r ?_
  replace hs := Option.some.inj hs
  obtain rfl := hs
  exact NX.fin (v := .int .i64 2) (Res.still (by kernel_rfl)) tot htL rfl
 replace hs := of_if_f hs h3
 refine CP.skip ?_
 refine NX.then_n ?_
 refine CP.seq ?_
 refine CP.seqR ?_
 refine WP.loadB (v := AG [encA .u8 d1, [.int .i64 x1], encA .i64 d2, [.slice a1 n1 c1]]) hB1 (by kernel_rfl) (by kernel_rfl) ?_
 replace hs := Option.bind_eq_some_iff.1 hs
 obtain ⟨x2, hk4, hs⟩ := hs
 have hcal4 := P.purse_Purse_held g d1 x1 d2 l1 a1 n1 c1 hR1 x2 hk4
 refine WP.callC hcal4 (by kernel_rfl) ?_
 rintro _ g5 st5 rfl
 replace hB1 := hB1.mono st5 (fun x => x)
 replace hR1 := hR1.mono st5 (fun x => x)
 replace tot := tot.trans st5.pure
 refine WP.stl 1 ?_
 refine WP.dn ?_
 refine NX.then_n ?_
 refine CP.seqR ?_
 refine WP.stl 2 ?_
 refine WP.dn ?_
 refine NX.then_n ?_
 refine CP.cond (b := (x2 != 0)) (by kernel_rfl) (fun h4 => ?_) (fun h4 => ?_)
 ·replace hs := of_if_t hs h4
  refine CP.seqR ?_
  refine WP.stl 2 ?_
  refine WP.dn ?_
  refine NX.then_n ?_
  refine CP.ret ?_
  refine NX.then_r ?_
  replace hs := Option.some.inj hs
  obtain rfl := hs
  exact NX.fin (v := .int .i64 x2) (Res.still (by kernel_rfl)) tot htL rfl
 replace hs := of_if_f hs h4
 refine CP.skip ?_
 refine NX.then_n ?_
 refine CP.seqR ?_
 refine WP.loadB (v := AG [encA .u8 d1, [.int .i64 x1], encA .i64 d2, [.slice a1 n1 c1]]) hB1 (by kernel_rfl) (by kernel_rfl) ?_
 replace hs := Option.bind_eq_some_iff.1 hs
 obtain ⟨l2, hk5, hs⟩ := hs
 have hcal5 := P.purse_Purse_amounts g5 d1 x1 d2 l1 a1 n1 c1 hR1 l2 hk5
 refine WP.callC hcal5 (by kernel_rfl) ?_
 rintro _ g6 st6 ⟨a2, n2, c2, rfl, hR2⟩
 replace hB1 := hB1.mono st6 (fun x => x)
 replace hR1 := hR1.mono st6 (fun x => x)
 replace tot := tot.trans st6.pure
 replace hs := Option.bind_eq_some_iff.1 hs
 obtain ⟨⟨x3, x4⟩, hk6, hs⟩ := hs
 dsimp only at hs
 have hcal6 := P.coin_Sum g6 l2 a2 n2 c2 hR2 x3 x4 hk6
 refine WP.callC hcal6 (by kernel_rfl) ?_
 rintro _ g7 st7 rfl
 replace hB1 := hB1.mono st7 (fun x => x)
 replace hR1 := hR1.mono st7 (fun x => x)
 replace hR2 := hR2.mono st7 (fun x => x)
 replace tot := tot.trans st7.pure
 refine WP.stl 5 ?_
 refine WP.dn ?_
 refine NX.then_n ?_
 refine CP.refr 36 [(5, .int .i64 x4)] (by kernel_rfl) (by kernel_rfl) ?_
 clear ds
 intro ds
 refine CP.seqR ?_
 refine WP.stl 2 ?_
 refine WP.dn ?_
 refine NX.then_n ?_
 refine CP.ret ?_
 replace hs := Option.some.inj hs
 obtain rfl := hs
 exact NX.fin (v := .int .i64 x4) (Res.still (by kernel_rfl)) tot htL rfl
def F.purse_New (d1 : Arr Int 8) (x1 : Int) (x2 : Int) : Option ((Arr Int 8) × Int × (Arr Int 2) × (List S_purse_Held) × Int) := ((F.purse_Purse_Check d1 0 (⟨[x1, x2], rfl⟩ : Arr Int 2) ([])).bind fun x3 => (if (x3 != 0) = true then (some ((zA 8), 0, (zA 2), [], 2)) else (some (d1, 0, (⟨[x1, x2], rfl⟩ : Arr Int 2), [], 0))))
theorem P.purse_New (g0 : GW) (r0 : Nat) (d1 : Arr Int 8) (x1 : Int) (x2 : Int) (o1 : Arr Int 8) (o2 : Int) (o3 : Arr Int 2) (o4 : List S_purse_Held) (o5 : Int) (hs : F.purse_New d1 x1 x2 = some (o1, o2, o3, o4, o5)) :
  Calls Try.prog 29 #[AG [encA .u8 d1], .int .i64 x1, .int .i64 x2] g0.w (Ret NoM g0 fun v g => ∃ (a_1 : Option Addr) (n_1 : Nat) (c_1 : Nat), v = .tuple #[AG [encA .u8 o1, [.int .i64 o2], encA .i64 o3, [.slice a_1 n_1 c_1]], .int .i64 o5] ∧ OwnS k_S_purse_Held g r0 56 a_1 n_1 c_1 o4) := by
 refine calls_of (args := [AG [encA .u8 d1], .int .i64 x1, .int .i64 x2]) Try.func29 rfl (r0 + 0) ?_
 intro t ht htL
 refine ⟨_, rfl, ?_⟩
 refine CP.refr 19 [(0, AG [encA .u8 d1]), (1, .int .i64 x1), (2, .int .i64 x2)] (by kernel_rfl) (by kernel_rfl) ?_
 intro ds
 have tot : Step (fun l => NoM l ∨ t ≤ l) g0 g0 := Step.refl _ _
 unfold F.purse_New at hs
 refine CP.seqR ?_
 refine WP.alloc (T := 29) (t + 1) [encA .u8 d1] [8] (by kernel_rfl) (by simp [len_encA]) ?_
 intro g1 b1 st1 hB1
 replace tot := tot.trans st1.pure
 refine WP.alloc (T := 32) (t + 2) [encA .u8 (zA 8), [.int .i64 0], encA .i64 (zA 2), [.slice none 0 0]] [8, 1, 2, 1] (by kernel_rfl) (by simp [len_encA]) ?_
 intro g2 b2 st2 hB2
 replace hB1 := hB1.mono st2 (fun x => x)
 replace tot := tot.trans st2.pure
 refine WP.stl 1 ?_
 refine WP.dn ?_
 refine NX.then_n ?_
 refine CP.seqR ?_
 refine WP.loadB (v := AG [encA .u8 d1]) hB1 (by kernel_rfl) (by kernel_rfl) ?_
 refine WP.stl 3 ?_
 refine WP.buildS (places := #[(0, 8), (8, 1), (9, 2), (11, 1)]) (t := 32) [encA .u8 (zA 8), [.int .i64 0], encA .i64 (zA 2), [.slice none 0 0]] [8, 1, 2, 1] (by kernel_rfl) (by kernel_rfl) (by simp [len_encA]) (by kernel_rfl) ((.cons (i := 0) (off := 0) (v := AG [encA .u8 d1]) (mid := [encA .u8 d1, [.int .i64 0], encA .i64 (zA 2), [.slice none 0 0]]) [encA .u8 d1] [8] (by kernel_rfl) (by kernel_rfl) (by simp [len_encA]) (by kernel_rfl) (.cons (i := 2) (off := 9) (v := AG [encA .i64 (⟨[x1, x2], rfl⟩ : Arr Int 2)]) (mid := [encA .u8 d1, [.int .i64 0], encA .i64 (⟨[x1, x2], rfl⟩ : Arr Int 2), [.slice none 0 0]]) [encA .i64 (⟨[x1, x2], rfl⟩ : Arr Int 2)] [2] (by kernel_rfl) (by kernel_rfl) (by simp [len_encA]) (by kernel_rfl) .nil))) ?_
 refine WP.alloc (T := 32) (t + 3) [encA .u8 (zA 8), [.int .i64 0], encA .i64 (zA 2), [.slice none 0 0]] [8, 1, 2, 1] (by kernel_rfl) (by simp [len_encA]) ?_
 intro g3 b3 st3 hB3
 replace hB1 := hB1.mono st3 (fun x => x)
 replace hB2 := hB2.mono st3 (fun x => x)
 replace tot := tot.trans st3.pure
 refine WP.storeB (ty := 32) (off := 0) (v := AG [encA .u8 d1, [.int .i64 0], encA .i64 (⟨[x1, x2], rfl⟩ : Arr Int 2), [.slice none 0 0]]) hB3 [encA .u8 d1, [.int .i64 0], encA .i64 (⟨[x1, x2], rfl⟩ : Arr Int 2), [.slice none 0 0]] [8, 1, 2, 1] (by kernel_rfl) (by kernel_rfl) (by simp [len_encA]) (by kernel_rfl) [encA .u8 d1, [.int .i64 0], encA .i64 (⟨[x1, x2], rfl⟩ : Arr Int 2), [.slice none 0 0]] (by kernel_rfl) (.arr (.one rfl (.arr (.one rfl .nil)))) ?_
 intro g4 st4 hB4
 replace hB1 := hB1.mono st4 (WL.no1 (by omega))
 replace hB2 := hB2.mono st4 (WL.no1 (by omega))
 replace tot := tot.trans (st4.up1 (.inr (by omega)))
 clear hB3
 have hB3 := hB4
 clear hB4
 refine WP.dn ?_
 refine NX.then_n ?_
 refine CP.seq ?_
 refine CP.seqR ?_
 refine WP.loadB (v := AG [encA .u8 d1, [.int .i64 0], encA .i64 (⟨[x1, x2], rfl⟩ : Arr Int 2), [.slice none 0 0]]) hB3 (by kernel_rfl) (by kernel_rfl) ?_
 replace hs := Option.bind_eq_some_iff.1 hs
 obtain ⟨x3, hk1, hs⟩ := hs
 have hcal1 := P.purse_Purse_Check g4 d1 0 (⟨[x1, x2], rfl⟩ : Arr Int 2) ([]) none 0 0 (RdS.nil _ _ _) x3 hk1
 refine WP.callC hcal1 (by kernel_rfl) ?_
 rintro _ g5 st5 rfl
 replace hB2 := hB2.mono st5 (fun x => x)
 replace hB3 := hB3.mono st5 (fun x => x)
 replace tot := tot.trans st5.pure
 refine WP.stl 1 ?_
 refine WP.dn ?_
 refine NX.then_n ?_
 refine CP.refr 19 [(6, .pointer (some ⟨b2, 0, none⟩)), (8, .pointer (some ⟨b3, 0, none⟩)), (16, .bool (x3 != 0))] (by kernel_rfl) (by kernel_rfl) ?_
 clear ds
 intro ds
 refine CP.cond (b := (x3 != 0)) (by kernel_rfl) (fun h1 => ?_) (fun h1 => ?_)
 ·replace hs := of_if_t hs h1
  refine CP.seqR ?_
  refine WP.buildS (places := #[(0, 8), (8, 1), (9, 2), (11, 1)]) (t := 32) [encA .u8 (zA 8), [.int .i64 0], encA .i64 (zA 2), [.slice none 0 0]] [8, 1, 2, 1] (by kernel_rfl) (by kernel_rfl) (by simp [len_encA]) (by kernel_rfl) (.nil) ?_
  refine WP.storeB (ty := 32) (off := 0) (v := AG [encA .u8 (zA 8), [.int .i64 0], encA .i64 (zA 2), [.slice none 0 0]]) hB2 [encA .u8 (zA 8), [.int .i64 0], encA .i64 (zA 2), [.slice none 0 0]] [8, 1, 2, 1] (by kernel_rfl) (by kernel_rfl) (by simp [len_encA]) (by kernel_rfl) [encA .u8 (zA 8), [.int .i64 0], encA .i64 (zA 2), [.slice none 0 0]] (by kernel_rfl) (.arr (.one rfl (.arr (.one rfl .nil)))) ?_
  intro g6 st6 hB5
  replace hB3 := hB3.mono st6 (WL.no1 (by omega))
  replace tot := tot.trans (st6.up1 (.inr (by omega)))
  clear hB2
  have hB2 := hB5
  clear hB5
  refine WP.stl 1 ?_
  refine WP.dn ?_
  refine NX.then_n ?_
  refine CP.ret ?_
  refine NX.then_r ?_
  replace hs := Option.some.inj hs
  simp only [Prod.mk.injEq] at hs
  obtain ⟨rfl, rfl, rfl, rfl, rfl⟩ := hs
  exact NX.fin (v := .tuple #[AG [encA .u8 (zA 8), [.int .i64 0], encA .i64 (zA 2), [.slice none 0 0]], .int .i64 2]) (Res.two rfl (RV.box (agg := true) (size := 12) (rs := [encA .u8 (zA 8), [.int .i64 0], encA .i64 (zA 2), [.slice none 0 0]]) hB2 (by kernel_rfl) (by kernel_rfl) (by kernel_rfl) (by kernel_rfl)) (RV.tmp (by kernel_rfl))) tot htL ⟨none, 0, 0, rfl, (OwnS.nil _ _ _ _)⟩
 replace hs := of_if_f hs h1
 refine CP.skip ?_
 refine NX.then_n ?_
 refine CP.seqR ?_
 refine WP.loadB (v := AG [encA .u8 d1, [.int .i64 0], encA .i64 (⟨[x1, x2], rfl⟩ : Arr Int 2), [.slice none 0 0]]) hB3 (by kernel_rfl) (by kernel_rfl) ?_
 refine WP.storeB (ty := 32) (off := 0) (v := AG [encA .u8 d1, [.int .i64 0], encA .i64 (⟨[x1, x2], rfl⟩ : Arr Int 2), [.slice none 0 0]]) hB2 [encA .u8 d1, [.int .i64 0], encA .i64 (⟨[x1, x2], rfl⟩ : Arr Int 2), [.slice none 0 0]] [8, 1, 2, 1] (by kernel_rfl) (by kernel_rfl) (by simp [len_encA]) (by kernel_rfl) [encA .u8 d1, [.int .i64 0], encA .i64 (⟨[x1, x2], rfl⟩ : Arr Int 2), [.slice none 0 0]] (by kernel_rfl) (.arr (.one rfl (.arr (.one rfl .nil)))) ?_
 intro g7 st7 hB6
 replace hB3 := hB3.mono st7 (WL.no1 (by omega))
 replace tot := tot.trans (st7.up1 (.inr (by omega)))
 clear hB2
 have hB2 := hB6
 clear hB6
 refine WP.stl 1 ?_
 refine WP.dn ?_
 refine NX.then_n ?_
 refine CP.ret ?_
 replace hs := Option.some.inj hs
 simp only [Prod.mk.injEq] at hs
 obtain ⟨rfl, rfl, rfl, rfl, rfl⟩ := hs
 exact NX.fin (v := .tuple #[AG [encA .u8 d1, [.int .i64 0], encA .i64 (⟨[x1, x2], rfl⟩ : Arr Int 2), [.slice none 0 0]], .int .i64 0]) (Res.two rfl (RV.box (agg := true) (size := 12) (rs := [encA .u8 d1, [.int .i64 0], encA .i64 (⟨[x1, x2], rfl⟩ : Arr Int 2), [.slice none 0 0]]) hB2 (by kernel_rfl) (by kernel_rfl) (by kernel_rfl) (by kernel_rfl)) (RV.tmp (by kernel_rfl))) tot htL ⟨none, 0, 0, rfl, (OwnS.nil _ _ _ _)⟩
def F.slices_Clone_purse_Held_purse_Held_nil : Option ((List S_purse_Held)) := (some ([]))
theorem P.slices_Clone_purse_Held_purse_Held_nil (g0 : GW) (r0 : Nat) (o1 : List S_purse_Held) (hs : F.slices_Clone_purse_Held_purse_Held_nil = some o1) :
  Calls Try.prog 79 #[.slice none 0 0] g0.w (Ret NoM g0 fun v g => ∃ (a_1 : Option Addr) (n_1 : Nat) (c_1 : Nat), v = .slice a_1 n_1 c_1 ∧ OwnS k_S_purse_Held g r0 56 a_1 n_1 c_1 o1) := by
 refine calls_of (args := [.slice none 0 0]) Try.func79 rfl (r0 + 0) ?_
 intro t ht htL
 refine ⟨_, rfl, ?_⟩
 refine CP.refr 8 [(0, .slice none 0 0)] (by kernel_rfl) (by kernel_rfl) ?_
 intro ds
 have tot : Step (fun l => NoM l ∨ t ≤ l) g0 g0 := Step.refl _ _
 unfold F.slices_Clone_purse_Held_purse_Held_nil at hs
 refine CP.seqR ?_
 refine WP.stl 1 ?_
 refine WP.dn ?_
 refine NX.then_n ?_
 refine CP.seq ?_
 refine CP.seqR ?_
 refine WP.stl 2 ?_
 refine WP.dn ?_
 refine NX.then_n ?_
 refine CP.cond_t (by kernel_rfl) ?_
 refine CP.seqR ?_
 refine WP.stl 1 ?_
 refine WP.dn ?_
 refine NX.then_n ?_
 refine CP.ret ?_
 refine NX.then_r ?_
 replace hs := Option.some.inj hs
 obtain rfl := hs
 exact NX.fin (v := .slice none 0 0) (Res.still (by kernel_rfl)) tot htL ⟨none, 0, 0, rfl, (OwnS.nil _ _ _ _)⟩
def F.slices_Clone_purse_Held_purse_Held_some (l1 : List S_purse_Held) : Option ((List S_purse_Held)) := (if ([] : List S_purse_Held).length + l1.length ≤ 4398046511104 then (some (([] : List S_purse_Held) ++ l1)) else none)
theorem P.slices_Clone_purse_Held_purse_Held_some (g0 : GW) (r0 : Nat) (l1 : List S_purse_Held) (n1 : Nat) (c1 : Nat) (p1 : Addr) (hR1 : RdS k_S_purse_Held g0 56 (some p1) n1 c1 l1) (o1 : List S_purse_Held) (hs : F.slices_Clone_purse_Held_purse_Held_some l1 = some o1) :
  Calls Try.prog 79 #[.slice (some p1) n1 c1] g0.w (Ret NoM g0 fun v g => ∃ (a_1 : Option Addr) (n_1 : Nat) (c_1 : Nat), v = .slice a_1 n_1 c_1 ∧ OwnS k_S_purse_Held g r0 56 a_1 n_1 c_1 o1) := by
 refine calls_of (args := [.slice (some p1) n1 c1]) Try.func79 rfl (r0 + 0) ?_
 intro t ht htL
 refine ⟨_, rfl, ?_⟩
 refine CP.refr 8 [(0, .slice (some p1) n1 c1)] (by kernel_rfl) (by kernel_rfl) ?_
 intro ds
 have tot : Step (fun l => NoM l ∨ t ≤ l) g0 g0 := Step.refl _ _
 unfold F.slices_Clone_purse_Held_purse_Held_some at hs
 refine CP.seqR ?_
 refine WP.stl 1 ?_
 refine WP.dn ?_
 refine NX.then_n ?_
 refine CP.seq ?_
 refine CP.seqR ?_
 refine WP.stl 2 ?_
 refine WP.dn ?_
 refine NX.then_n ?_
 refine CP.cond_f (by kernel_rfl) ?_
 refine CP.skip ?_
 refine NX.then_n ?_
 refine CP.seqR ?_
 refine WP.mkSl (kd := k_S_purse_Held) (t := 30) (e := 56) (bytes := 32) (t + 1) [] ([] : List S_purse_Held) (by kernel_rfl) (by kernel_rfl) (Nat.le_of_ble_eq_true rfl) (Nat.le_of_ble_eq_true rfl) all_nil (rfl) rfl ?_
 intro g1 a1 st1 hR2
 replace hR1 := hR1.mono st1 (fun x => x)
 replace tot := tot.trans st1.pure
 refine WP.stl 1 ?_
 by_cases hc1 : ([] : List S_purse_Held).length + l1.length ≤ 4398046511104
 case neg => rw [if_neg hc1] at hs; cases hs
 replace hs := of_if_p hs hc1
 refine WP.append (kd := k_S_purse_Held) (t := 30) (e := 56) (bytes := 32) (a2 := (some p1)) (c2 := c1) hR2 hR1.src hR1.len (by kernel_rfl) (by kernel_rfl) (by omega) (by simp only [maxLen]; omega) (by omega) ?_
 intro g2 a2 c2 st2 hR3
 replace hR1 := hR1.mono st2 (WL.no1 (by omega))
 replace tot := tot.trans (st2.up1 (.inr (by omega)))
 refine WP.stl 1 ?_
 refine WP.dn ?_
 refine NX.then_n ?_
 refine CP.ret ?_
 obtain ⟨g3, hw1, st3, hnew⟩ := hR3.relab (by omega) r0
 refine NX.regw hw1 ?_
 replace tot := tot.trans (st3.up1 (.inr (by omega)))
 clear hR3
 have hR3 := hnew
 clear hnew
 replace hs := Option.some.inj hs
 obtain rfl := hs
 exact NX.fin (v := .slice a2 (0 + n1) c2) (Res.still (by kernel_rfl)) tot htL ⟨a2, (0 + n1), c2, rfl, hR3⟩
def F.slices_Clone_purse_Held_purse_Held (l1 : List S_purse_Held) : Option ((List S_purse_Held)) := F.slices_Clone_purse_Held_purse_Held_some l1
theorem P.slices_Clone_purse_Held_purse_Held (g0 : GW) (r0 : Nat) (l1 : List S_purse_Held) (a1 : Option Addr) (n1 : Nat) (c1 : Nat) (hR1 : RdS k_S_purse_Held g0 56 a1 n1 c1 l1) (o1 : List S_purse_Held) (hs : F.slices_Clone_purse_Held_purse_Held l1 = some o1) :
  Calls Try.prog 79 #[.slice a1 n1 c1] g0.w (Ret NoM g0 fun v g => ∃ (a_1 : Option Addr) (n_1 : Nat) (c_1 : Nat), v = .slice a_1 n_1 c_1 ∧ OwnS k_S_purse_Held g r0 56 a_1 n_1 c_1 o1) := by
 rcases hR1.nilOr with ⟨rfl, rfl, rfl, rfl⟩ | ⟨b, rfl⟩
 ·exact P.slices_Clone_purse_Held_purse_Held_nil _ _ _ hs
 ·exact P.slices_Clone_purse_Held_purse_Held_some _ _ _ _ _ _ hR1 _ hs
def F.purse_Purse_at.l1 (l1 : List S_purse_Held) (d3 : Arr Int 8) : Nat → Int → Option (Int)
 | 0, _ => none
 | k + 1, x2 => (if decide (x2 < (l1.length : Int)) = true then (if (0 : Int) ≤ x2 ∧ x2 < (l1.length : Int) then (if (!(((getI l1 x2).f1).1 == d3.1)) = true then (F.purse_Purse_at.l1 l1 d3 k (IntKind.i64.wrap (x2 + 1))) else (some x2)) else none) else (some (-1)))
def F.purse_Purse_at (d1 : Arr Int 8) (x1 : Int) (d2 : Arr Int 2) (l1 : List S_purse_Held) (d3 : Arr Int 8) : Option (Int) := (F.purse_Purse_at.l1 l1 d3 fuel 0)
theorem P.purse_Purse_at (g0 : GW) (d1 : Arr Int 8) (x1 : Int) (d2 : Arr Int 2) (l1 : List S_purse_Held) (d3 : Arr Int 8) (a1 : Option Addr) (n1 : Nat) (c1 : Nat) (hR1 : RdS k_S_purse_Held g0 56 a1 n1 c1 l1) (o1 : Int) (hs : F.purse_Purse_at d1 x1 d2 l1 d3 = some o1) :
  Calls Try.prog 53 #[AG [encA .u8 d1, [.int .i64 x1], encA .i64 d2, [.slice a1 n1 c1]], AG [encA .u8 d3]] g0.w (Ret NoM g0 fun v g => v = .int .i64 o1) := by
 refine calls_of (args := [AG [encA .u8 d1, [.int .i64 x1], encA .i64 d2, [.slice a1 n1 c1]], AG [encA .u8 d3]]) Try.func53 rfl (0) ?_
 intro t ht htL
 refine ⟨_, rfl, ?_⟩
 refine CP.refr 21 [(0, AG [encA .u8 d1, [.int .i64 x1], encA .i64 d2, [.slice a1 n1 c1]]), (1, AG [encA .u8 d3])] (by kernel_rfl) (by kernel_rfl) ?_
 intro ds
 have tot : Step (fun l => NoM l ∨ t ≤ l) g0 g0 := Step.refl _ _
 unfold F.purse_Purse_at at hs
 refine CP.seqR ?_
 refine WP.alloc (T := 32) (t + 1) [encA .u8 d1, [.int .i64 x1], encA .i64 d2, [.slice a1 n1 c1]] [8, 1, 2, 1] (by kernel_rfl) (by simp [len_encA]) ?_
 intro g1 b1 st1 hB1
 replace hR1 := hR1.mono st1 (fun x => x)
 replace tot := tot.trans st1.pure
 refine WP.alloc (T := 29) (t + 2) [encA .u8 d3] [8] (by kernel_rfl) (by simp [len_encA]) ?_
 intro g2 b2 st2 hB2
 replace hR1 := hR1.mono st2 (fun x => x)
 replace hB1 := hB1.mono st2 (fun x => x)
 replace tot := tot.trans st2.pure
 refine WP.stl 1 ?_
 refine WP.dn ?_
 refine NX.then_n ?_
 refine CP.scope ?_
 refine CP.seq ?_
 refine CP.label ?_
 refine NX.then_n ?_
 refine CP.seq ?_
 refine CP.seqR ?_
 refine WP.stl 1 ?_
 refine WP.loadB (v := .slice a1 n1 c1) hB1 (by kernel_rfl) (by kernel_rfl) ?_
 refine WP.len (a := a1) (cp := c1) hR1.len (by kernel_rfl) ?_
 refine WP.stl 1 ?_
 refine WP.dn ?_
 refine NX.then_n ?_
 refine CP.block ?_
 generalize fuel = k1 at hs
 refine CP.loop (fun k1 tm g => ∃ (x2 : Int), Fr 21 [(3, .pointer (some ⟨b2, 0, none⟩)), (8, .slice a1 n1 c1), (9, .int .i64 (l1.length : Int)), (10, .int .i64 x2)] tm ∧ Step (fun l => NoM l ∨ t ≤ l) g0 g ∧ Box g (t + 2) b2 29 [encA .u8 d3] [8] ∧ RdS k_S_purse_Held g 56 a1 n1 c1 l1 ∧ F.purse_Purse_at.l1 l1 d3 k1 x2 = some o1) k1 ?_ ?_ ?_
 ·exact ⟨0, ⟨by kernel_rfl, by kernel_rfl⟩, tot, hB2, hR1, hs⟩
 ·rintro tm g ⟨x2, hF, tot, hB2, hR1, hs⟩
  exact absurd hs (by simp [F.purse_Purse_at.l1])
 clear tot hs hB2 hR1
 rintro k1 tm g ⟨x2, hF, tot, hB2, hR1, hs⟩
 clear ds
 obtain ⟨ds, rfl⟩ := hF.open
 clear hF
 unfold F.purse_Purse_at.l1 at hs
 refine CP.seqR ?_
 refine WP.stl 1 ?_
 refine WP.dn ?_
 refine NX.then_n ?_
 refine CP.seq ?_
 refine CP.cond (b := decide (x2 < (l1.length : Int))) (by kernel_rfl) (fun h5 => ?_) (fun h5 => ?_)
 ·replace hs := of_if_t hs h5
  refine CP.skip ?_
  refine NX.then_n ?_
  refine CP.seq ?_
  refine CP.block ?_
  refine CP.seqR ?_
  refine WP.stl 1 ?_
  by_cases hc3 : (0 : Int) ≤ x2 ∧ x2 < (l1.length : Int)
  case neg => rw [if_neg hc3] at hs; cases hs
  replace hs := of_if_p hs hc3
  obtain ⟨b7, u3, ha3⟩ := hR1.at hc3
  refine WP.indexA (t := 30) (e := 56) (sz := 11) (cap := c1) (k := .i64) (i := x2) hR1.len ha3 (by kernel_rfl) (by kernel_rfl) hc3 ?_
  obtain ⟨cs3, hcR3, hcV3⟩ := hR1.src.view (getI_some hc3) ha3
  replace hcR3 := k_S_purse_Held.opn hcR3
  refine WP.loadV [encA .u8 ((getI l1 x2).f1), [.int .i64 ((getI l1 x2).f2)], [.int .i64 ((getI l1 x2).f3)], [.int .i64 ((getI l1 x2).f4)]] [8, 1, 1, 1] hcV3 hcR3 (by simp [len_encA]) (f := 0) (ty := 56) (agg := true) (size := 11) (rs := [encA .u8 ((getI l1 x2).f1), [.int .i64 ((getI l1 x2).f2)], [.int .i64 ((getI l1 x2).f3)], [.int .i64 ((getI l1 x2).f4)]]) (v := AG [encA .u8 ((getI l1 x2).f1), [.int .i64 ((getI l1 x2).f2)], [.int .i64 ((getI l1 x2).f3)], [.int .i64 ((getI l1 x2).f4)]]) (by kernel_rfl) (by kernel_rfl) (by kernel_rfl) (by kernel_rfl) ?_
  refine WP.alloc (T := 56) (t + 5) [encA .u8 (zA 8), [.int .i64 0], [.int .i64 0], [.int .i64 0]] [8, 1, 1, 1] (by kernel_rfl) (by simp [len_encA]) ?_
  intro g7 b8 st7 hB7
  replace hB2 := hB2.mono st7 (fun x => x)
  replace hR1 := hR1.mono st7 (fun x => x)
  replace tot := tot.trans st7.pure
  refine WP.stl 1 ?_
  refine WP.storeB (ty := 56) (off := 0) (v := AG [encA .u8 ((getI l1 x2).f1), [.int .i64 ((getI l1 x2).f2)], [.int .i64 ((getI l1 x2).f3)], [.int .i64 ((getI l1 x2).f4)]]) hB7 [encA .u8 ((getI l1 x2).f1), [.int .i64 ((getI l1 x2).f2)], [.int .i64 ((getI l1 x2).f3)], [.int .i64 ((getI l1 x2).f4)]] [8, 1, 1, 1] (by kernel_rfl) (by kernel_rfl) (by simp [len_encA]) (by kernel_rfl) [encA .u8 ((getI l1 x2).f1), [.int .i64 ((getI l1 x2).f2)], [.int .i64 ((getI l1 x2).f3)], [.int .i64 ((getI l1 x2).f4)]] (by kernel_rfl) (.arr (.one rfl (.one rfl (.one rfl .nil)))) ?_
  intro g8 st8 hB8
  replace hB2 := hB2.mono st8 (WL.no1 (by omega))
  replace hR1 := hR1.mono st8 (WL.no1 (by omega))
  replace tot := tot.trans (st8.up1 (.inr (by omega)))
  clear hB7
  have hB7 := hB8
  clear hB8
  refine WP.dn ?_
  refine NX.then_n ?_
  refine CP.seq ?_
  refine CP.seqR ?_
  refine WP.stl 1 ?_
  refine WP.loadB (v := AG [encA .u8 ((getI l1 x2).f1)]) hB7 (by kernel_rfl) (by kernel_rfl) ?_
  refine WP.loadB (v := AG [encA .u8 d3]) hB2 (by kernel_rfl) (by kernel_rfl) ?_
  refine WP.neV (by kernel_rfl) (by kernel_rfl) (EqV.arr (d := 9998) (t := 29) (e := 5) (m := 8) (k := .u8) (x := (getI l1 x2).f1) (y := d3) (by kernel_rfl) (by kernel_rfl)) ?_
  refine WP.dn ?_
  refine NX.then_n ?_
  refine CP.cond (b := (!(((getI l1 x2).f1).1 == d3.1))) (by kernel_rfl) (fun h6 => ?_) (fun h6 => ?_)
  ·replace hs := of_if_t hs h6
   refine CP.exit ?_
   refine NX.then_e ?_
   refine NX.block_s ?_
   refine NX.then_n ?_
   refine CP.region ?_
   refine WP.stl 2 ?_
   refine WP.dn ?_
   refine NX.post ?_
   exact ⟨(IntKind.i64.wrap (x2 + 1)), ⟨by kernel_rfl, by kernel_rfl⟩, tot, hB2, hR1, hs⟩
  replace hs := of_if_f hs h6
  refine CP.skip ?_
  refine NX.then_n ?_
  refine CP.seqR ?_
  refine WP.stl 2 ?_
  refine WP.dn ?_
  refine NX.then_n ?_
  refine CP.refr 21 [(4, .int .i64 x2)] (by kernel_rfl) (by kernel_rfl) ?_
  clear ds
  intro ds
  refine CP.ret ?_
  refine NX.block_r ?_
  refine NX.then_r ?_
  refine NX.then_r ?_
  refine NX.block_r ?_
  refine NX.then_r ?_
  refine NX.scope_r ?_
  replace hs := Option.some.inj hs
  obtain rfl := hs
  exact NX.fin (v := .int .i64 x2) (Res.still (by kernel_rfl)) tot htL rfl
 replace hs := of_if_f hs h5
 refine CP.exit ?_
 refine NX.then_e ?_
 refine NX.then_e ?_
 refine NX.block_s ?_
 refine NX.then_n ?_
 refine CP.seqR ?_
 refine WP.stl 1 ?_
 refine WP.dn ?_
 refine NX.then_n ?_
 refine CP.ret ?_
 refine NX.scope_r ?_
 replace hs := Option.some.inj hs
 obtain rfl := hs
 exact NX.fin (v := .int .i64 (-1)) (Res.still (by kernel_rfl)) tot htL rfl
def N.purse_Purse_Hold_1_0 : List (List Nat) := [[], [0], [0, 1], [], [3], [0, 1, 2, 3, 4], [0, 1, 2, 3, 4, 5], [0, 1, 2, 3, 4, 5, 6]]
def N.purse_Purse_Hold_1_1 : List (List Nat) := [[], [0], [], [], [3], [2], [2, 5], [2, 3, 4, 5, 6], [2, 3, 4, 5, 6, 7], [0, 1, 2, 3, 4, 5, 6, 7, 8], [0, 1, 2, 3, 4, 5, 6, 7, 8, 9]]
def N.purse_Purse_Hold_1_2 : List (List Nat) := [[], [], [1], [0], [0, 3], [0, 1, 2, 3, 4], [0, 1, 2, 3, 4, 5], [], [7], [0, 1, 2, 3, 4, 5, 6, 7, 8], [0], [0, 10], [0, 1, 2, 3, 4, 5, 6, 7, 8, 9, 10, 11], [0, 1, 2, 3, 4, 5, 6, 7, 8, 9, 10, 11, 12]]
def N.purse_Purse_Hold_1_3 : List (List Nat) := [[], [], [1], [1, 2], [1, 2, 3], [], [5], [1, 2, 3, 4, 5, 6], [0, 1, 2, 3, 4, 5, 6, 7], [0, 1, 2, 3, 4, 5, 6, 7, 8], [0, 1, 2, 3, 4, 5, 6, 7, 8, 9]]
def F.purse_Purse_Hold_1.c1 (d1 : Arr Int 8) (x1 : Int) (d2 : Arr Int 2) (l1 : List S_purse_Held) (d3 : Arr Int 8) (x2 : Int) (x3 : Int) (x4 : Int) (q4 : Bool) : Option (Int × (Arr Int 8) × Int × (Arr Int 2) × (List S_purse_Held)) := (if q4 = true then (some (2, d1, x1, d2, l1)) else ((F.purse_Purse_at d1 x1 d2 l1 d3).bind fun x5 => (if decide (x5 ≥ 0) = true then (some (7, d1, x1, d2, l1)) else (if ((l1.length : Int) == 16) = true then (some (8, d1, x1, d2, l1)) else (if (0 : Int) ≤ x3 ∧ x3 < (2 : Int) then (if decide (x2 > (aget d2 x3)) = true then (some (21, d1, x1, d2, l1)) else (if (0 : Int) ≤ x3 ∧ x3 < (2 : Int) then (if (0 : Int) ≤ x3 ∧ x3 < (2 : Int) then (if l1.length + ([(⟨d3, x2, x3, x4⟩ : S_purse_Held)]).length ≤ 4398046511104 then (some (0, d1, x1, (aset d2 x3 (IntKind.i64.wrap ((aget d2 x3) - x2))), (l1 ++ [(⟨d3, x2, x3, x4⟩ : S_purse_Held)]))) else none) else none) else none)) else none)))))
def F.purse_Purse_Hold_1 (d1 : Arr Int 8) (x1 : Int) (d2 : Arr Int 2) (l1 : List S_purse_Held) (d3 : Arr Int 8) (x2 : Int) (x3 : Int) (x4 : Int) : Option (Int × (Arr Int 8) × Int × (Arr Int 2) × (List S_purse_Held)) := ((F.purse_side x3).bind fun q1 => (if (!q1) = true then (some (28, d1, x1, d2, l1)) else ((F.purse_some x2).bind fun q5 => (if (!q5) = true then (F.purse_Purse_Hold_1.c1 d1 x1 d2 l1 d3 x2 x3 x4 true) else ((F.purse_height x4).bind fun q6 => (F.purse_Purse_Hold_1.c1 d1 x1 d2 l1 d3 x2 x3 x4 (!q6)))))))
theorem P.purse_Purse_Hold_1 (g0 : GW) (m0 : Nat) (m1 : Nat) (m2 : Nat) (d1 : Arr Int 8) (x1 : Int) (d2 : Arr Int 2) (l1 : List S_purse_Held) (d3 : Arr Int 8) (x2 : Int) (x3 : Int) (x4 : Int) (a1 : Option Addr) (n1 : Nat) (c1 : Nat) (b1 : Nat) (b2 : Nat) (hR1 : OwnS k_S_purse_Held g0 m1 56 a1 n1 c1 l1) (hB1 : Box g0 m0 b1 32 [encA .u8 d1, [.int .i64 x1], encA .i64 d2, [.slice a1 n1 c1]] [8, 1, 2, 1]) (hB2 : Box g0 m2 b2 56 [encA .u8 d3, [.int .i64 x2], [.int .i64 x3], [.int .i64 x4]] [8, 1, 1, 1]) (hm1_0 : m1 ≠ m0) (hm2_0 : m2 ≠ m0) (hm2_1 : m2 ≠ m1) (hm0 : m0 ≠ 0) (hm1 : m1 ≠ 0) (hm2 : m2 ≠ 0) (o1 : Int) (o2 : (Arr Int 8)) (o3 : Int) (o4 : (Arr Int 2)) (o5 : (List S_purse_Held)) (hs : F.purse_Purse_Hold_1 d1 x1 d2 l1 d3 x2 x3 x4 = some (o1, o2, o3, o4, o5)) :
  Calls Try.prog 73 #[.pointer (some ⟨b1, 0, none⟩), .pointer (some ⟨b2, 0, none⟩)] g0.w (Ret (WL [m0, m1]) g0 fun v g => ∃ (a_1 : Option Addr) (n_1 : Nat) (c_1 : Nat), v = .int .i64 o1 ∧ RdS k_S_purse_Held g 56 a_1 n_1 c_1 o5 ∧ Box g m0 b1 32 [encA .u8 o2, [.int .i64 o3], encA .i64 o4, [.slice a_1 n_1 c_1]] [8, 1, 2, 1]) := by
 refine calls_of (args := [.pointer (some ⟨b1, 0, none⟩), .pointer (some ⟨b2, 0, none⟩)]) Try.func73 rfl (m0 + m1 + m2 + 0) ?_
 intro t ht htL
 refine ⟨_, rfl, ?_⟩
 refine CP.refr 69 [(0, .pointer (some ⟨b1, 0, none⟩)), (1, .pointer (some ⟨b2, 0, none⟩))] (by kernel_rfl) (by kernel_rfl) ?_
 intro ds
 have tot : Step (fun l => (WL [m0, m1]) l ∨ t ≤ l) g0 g0 := Step.refl _ _
 unfold F.purse_Purse_Hold_1 at hs
 refine CP.seqR ?_
 refine WP.stl 1 ?_
 refine WP.dn ?_
 refine NX.then_n ?_
 refine CP.seq ?_
 refine CP.block ?_
 refine CP.seqR ?_
 refine WP.stl 1 ?_
 refine WP.loadB (v := .int .i64 x3) hB2 (by kernel_rfl) (by kernel_rfl) ?_
 replace hs := Option.bind_eq_some_iff.1 hs
 obtain ⟨q1, hk1, hs⟩ := hs
 have hcal1 := P.purse_side g0 x3 q1 hk1
 refine WP.callC hcal1 (by kernel_rfl) ?_
 rintro _ g1 st1 rfl
 replace hB1 := hB1.mono st1 (fun x => x)
 replace hR1 := hR1.mono st1 (fun x => x) (fun x => x)
 replace hB2 := hB2.mono st1 (fun x => x)
 replace tot := tot.trans st1.pure
 refine WP.stl 2 ?_
 refine WP.dn ?_
 refine NX.then_n ?_
 refine CP.cond (b := (!q1)) (by kernel_rfl) (fun h1 => ?_) (fun h1 => ?_)
 ·replace hs := of_if_t hs h1
  refine CP.seqR ?_
  refine WP.stl 1 ?_
  refine WP.dn ?_
  refine NX.then_n ?_
  refine CP.ret ?_
  refine NX.block_r ?_
  refine NX.then_r ?_
  obtain ⟨g2, hw1, st2, hnew⟩ := hR1.freeze (by omega)
  refine NX.regw hw1 ?_
  replace hB1 := hB1.mono st2 (WL.no1 (by omega))
  replace tot := tot.trans (st2.up1 (.inl (by simp [WL])))
  clear hR1
  have hR1 := hnew
  clear hnew
  replace hs := Option.some.inj hs
  simp only [Prod.mk.injEq] at hs
  obtain ⟨rfl, rfl, rfl, rfl, rfl⟩ := hs
  exact NX.fin (v := .int .i64 28) (Res.still (by kernel_rfl)) tot htL ⟨a1, n1, c1, rfl, hR1, hB1⟩
 replace hs := of_if_f hs h1
 refine CP.cut (fun tm g => ∃ (q4 : Bool), Fr 69 [(0, .pointer (some ⟨b1, 0, none⟩)), (1, .pointer (some ⟨b2, 0, none⟩)), (9, .bool q4)] tm ∧ Step (fun l => (WL [m0, m1]) l ∨ t ≤ l) g0 g ∧ Box g m0 b1 32 [encA .u8 d1, [.int .i64 x1], encA .i64 d2, [.slice a1 n1 c1]] [8, 1, 2, 1] ∧ OwnS k_S_purse_Held g m1 56 a1 n1 c1 l1 ∧ Box g m2 b2 56 [encA .u8 d3, [.int .i64 x2], [.int .i64 x3], [.int .i64 x4]] [8, 1, 1, 1] ∧ (F.purse_Purse_Hold_1.c1 d1 x1 d2 l1 d3 x2 x3 x4 q4) = some (o1, o2, o3, o4, o5)) ?_ ?_
 ·refine CP.region ?_
  refine WP.stl 1 ?_
  refine WP.loadB (v := .int .i64 x2) hB2 (by kernel_rfl) (by kernel_rfl) ?_
  replace hs := Option.bind_eq_some_iff.1 hs
  obtain ⟨q5, hk5, hs⟩ := hs
  have hcal5 := P.purse_some g1 x2 q5 hk5
  refine WP.callC hcal5 (by kernel_rfl) ?_
  rintro _ g20 st20 rfl
  replace hB1 := hB1.mono st20 (fun x => x)
  replace hR1 := hR1.mono st20 (fun x => x) (fun x => x)
  replace hB2 := hB2.mono st20 (fun x => x)
  replace tot := tot.trans st20.pure
  refine WP.stl 2 ?_
  refine WP.guard 14 (b := (!q5)) (by kernel_rfl) (fun h7 => ?_) (fun h7 => ?_)
  ·replace hs := of_if_t hs h7
   refine WP.stl 6 ?_
   refine WP.dn ?_
   refine NX.post ?_
   exact ⟨true, ⟨by kernel_rfl, by kernel_rfl⟩, tot, hB1, hR1, hB2, hs⟩
  replace hs := of_if_f hs h7
  refine WP.stl 1 ?_
  refine WP.loadB (v := .int .i64 x4) hB2 (by kernel_rfl) (by kernel_rfl) ?_
  replace hs := Option.bind_eq_some_iff.1 hs
  obtain ⟨q6, hk6, hs⟩ := hs
  have hcal6 := P.purse_height g20 x4 q6 hk6
  refine WP.callC hcal6 (by kernel_rfl) ?_
  rintro _ g21 st21 rfl
  replace hB1 := hB1.mono st21 (fun x => x)
  replace hR1 := hR1.mono st21 (fun x => x) (fun x => x)
  replace hB2 := hB2.mono st21 (fun x => x)
  replace tot := tot.trans st21.pure
  refine WP.stl 3 ?_
  refine WP.dn ?_
  refine NX.post ?_
  exact ⟨(!q6), ⟨by kernel_rfl, by kernel_rfl⟩, tot, hB1, hR1, hB2, hs⟩
 clear tot hs hB1 hR1 hB2
 rintro tm g ⟨q4, hF, tot, hB1, hR1, hB2, hs⟩
 clear ds
 obtain ⟨ds, rfl⟩ := hF.open
 clear hF
 unfold F.purse_Purse_Hold_1.c1 at hs
 refine CP.cond (b := q4) (by kernel_rfl) (fun h3 => ?_) (fun h3 => ?_)
 ·replace hs := of_if_t hs h3
  refine CP.seqR ?_
  refine WP.stl 1 ?_
  refine WP.dn ?_
  refine NX.then_n ?_
  refine CP.ret ?_
  refine NX.block_r ?_
  refine NX.then_r ?_
  obtain ⟨g5, hw2, st5, hnew⟩ := hR1.freeze (by omega)
  refine NX.regw hw2 ?_
  replace hB1 := hB1.mono st5 (WL.no1 (by omega))
  replace tot := tot.trans (st5.up1 (.inl (by simp [WL])))
  clear hR1
  have hR1 := hnew
  clear hnew
  replace hs := Option.some.inj hs
  simp only [Prod.mk.injEq] at hs
  obtain ⟨rfl, rfl, rfl, rfl, rfl⟩ := hs
  exact NX.fin (v := .int .i64 2) (Res.still (by kernel_rfl)) tot htL ⟨a1, n1, c1, rfl, hR1, hB1⟩
 replace hs := of_if_f hs h3
 refine CP.seq ?_
 replace hs := Option.bind_eq_some_iff.1 hs
 obtain ⟨x5, hk4, hs⟩ := hs
 refine CP.drawL (by kernel_rfl) [2, 4, 5] N.purse_Purse_Hold_1_0 [⟨none, [], [], fun l g => Box g m0 b1 32 [encA .u8 d1, [.int .i64 x1], encA .i64 d2, [.slice a1 n1 c1]] [8, 1, 2, 1]⟩, ⟨none, [0], [], fun l g => OwnS k_S_purse_Held g m1 56 a1 n1 c1 l1⟩, ⟨none, [], [], fun l g => Box g m2 b2 56 [encA .u8 d3, [.int .i64 x2], [.int .i64 x3], [.int .i64 x4]] [8, 1, 1, 1]⟩, ⟨some 0, [], [0], fun l g => l.getD 0 undef = AG [encA .u8 d1, [.int .i64 x1], encA .i64 d2, [.slice a1 n1 c1]]⟩, ⟨some 1, [], [1], fun l g => l.getD 0 undef = AG [encA .u8 d3]⟩, ⟨some 2, [], [2], fun l g => l.getD 0 undef = .int .i64 x5⟩, ⟨some 2, [0], [], fun l g => OwnS k_S_purse_Held g m1 56 a1 n1 c1 l1⟩] [[], [], [0]] [m1] [0, 1, 3] [6, 7] (by kernel_rfl) (by simp <;> omega) (by simp) ⟨fun _ _ _ _ st h0 hl hj hB1 => (hB1.mono st (fun h => absurd (hl _ h) (by simp <;> omega))), fun _ _ _ _ st h0 hl hj hR1 => (hR1.mono st h0 (hj 0 (by simp) _ rfl)), fun _ _ _ _ st h0 hl hj hB2 => (hB2.mono st (fun h => absurd (hl _ h) (by simp <;> omega))), fun _ _ _ _ st h0 hl hj e0 => e0, fun _ _ _ _ st h0 hl hj e1 => e1, fun _ _ _ _ st h0 hl hj e2 => e2, fun _ _ _ _ st h0 hl hj hR1 => (hR1.mono st h0 (hj 0 (by simp) _ rfl)), tv⟩ ⟨hB1, hR1, hB2, tv, tv, tv, tv, tv⟩ (by kernel_rfl) (fun vs => by kernel_rfl) ?_ ?_ ?_
 ·intro j hj
  have hq : j = 0 ∨ j = 1 := by have h : j < 2 := hj; omega
  rcases hq with rfl | rfl
  ·intro vs gq stq hl hf
   obtain ⟨v0, v1, v2, rfl⟩ := len_k3 hl
   have e2 := (show v2 = .int .i64 x5 from hf _ (memI 5 rfl) (by kernel_rfl))
   subst e2
   show Option.isSome _ = true
   kernel_rfl
  ·intro vs gq stq hl hf
   obtain ⟨v0, v1, v2, rfl⟩ := len_k3 hl
   have e2 := (show v2 = .int .i64 x5 from hf _ (memI 5 rfl) (by kernel_rfl))
   subst e2
   show Option.isSome _ = true
   kernel_rfl
 ·intro j hj
  have hq : j = 0 ∨ j = 1 ∨ j = 2 := by have h : j < 3 := hj; omega
  rcases hq with rfl | rfl | rfl
  ·intro vs gq stq hl hf
   obtain ⟨v0, v1, v2, rfl⟩ := len_k3 hl
   have hB1 := (show Box gq m0 b1 32 [encA .u8 d1, [.int .i64 x1], encA .i64 d2, [.slice a1 n1 c1]] [8, 1, 2, 1] from hf _ (memI 0 rfl) (by kernel_rfl))
   refine WP.loadB (v := AG [encA .u8 d1, [.int .i64 x1], encA .i64 d2, [.slice a1 n1 c1]]) hB1 (by kernel_rfl) (by kernel_rfl) ?_
   refine WP.dn (Shown.ok (v := AG [encA .u8 d1, [.int .i64 x1], encA .i64 d2, [.slice a1 n1 c1]]) (by kernel_rfl) (Step.refl _ _) ?_)
   exact ⟨tv, tv, tv, rfl, tv, tv, tv, tv⟩
  ·intro vs gq stq hl hf
   obtain ⟨v0, v1, v2, rfl⟩ := len_k3 hl
   have hB2 := (show Box gq m2 b2 56 [encA .u8 d3, [.int .i64 x2], [.int .i64 x3], [.int .i64 x4]] [8, 1, 1, 1] from hf _ (memI 2 rfl) (by kernel_rfl))
   refine WP.loadB (v := AG [encA .u8 d3]) hB2 (by kernel_rfl) (by kernel_rfl) ?_
   refine WP.dn (Shown.ok (v := AG [encA .u8 d3]) (by kernel_rfl) (Step.refl _ _) ?_)
   exact ⟨tv, tv, tv, tv, rfl, tv, tv, tv⟩
  ·intro vs gq stq hl hf
   obtain ⟨v0, v1, v2, rfl⟩ := len_k3 hl
   have hR1 := (show OwnS k_S_purse_Held gq m1 56 a1 n1 c1 l1 from hf _ (memI 1 rfl) (by kernel_rfl))
   have e0 := (show v0 = AG [encA .u8 d1, [.int .i64 x1], encA .i64 d2, [.slice a1 n1 c1]] from hf _ (memI 3 rfl) (by kernel_rfl))
   subst e0
   have e1 := (show v1 = AG [encA .u8 d3] from hf _ (memI 4 rfl) (by kernel_rfl))
   subst e1
   have hS1 : 0 ∉ ([m1] : List Nat) := by simp <;> omega
   have stl1 := GW.lend_step gq [m1]
   have hRl1 := hR1.lendTo hS1 (by simp)
   refine WP.regw (g' := GW.lend gq [m1]) rfl ?_
   have hcal4 := P.purse_Purse_at (GW.lend gq [m1]) d1 x1 d2 l1 d3 a1 n1 c1 hRl1 x5 hk4
   refine WP.callC hcal4 (by kernel_rfl) ?_
   rintro _ g6 st6 rfl
   have st7 := (GW.back_step st6).lentS
   have hO1 := hR1.backTo hS1 (by simp) st6 (fun x => x)
   refine WP.regw (g' := GW.back gq g6 [m1]) rfl ?_
   generalize GW.back gq g6 [m1] = g7 at *
   refine WP.dn (Shown.o (v := .int .i64 x5) st7 ?_)
   exact ⟨tv, tv, tv, tv, tv, rfl, hO1, tv⟩
 intro vs g8 st8 hl hf
 obtain ⟨v0, v1, v2, rfl⟩ := len_k3 hl
 have e2 := (show v2 = .int .i64 x5 from hf _ (memI 5 rfl) (by kernel_rfl))
 subst e2
 have hR1 := (show OwnS k_S_purse_Held g8 m1 56 a1 n1 c1 l1 from hf _ (memI 6 rfl) (by kernel_rfl))
 replace hB1 := hB1.mono st8 (WL.no1 (by omega))
 replace hB2 := hB2.mono st8 (WL.no1 (by omega))
 replace tot := tot.trans (st8.up1 (.inl (by simp [WL])))
 refine NX.then_n ?_
 refine CP.refr 69 [(0, .pointer (some ⟨b1, 0, none⟩)), (1, .pointer (some ⟨b2, 0, none⟩)), (20, .bool (decide (x5 ≥ 0)))] (by kernel_rfl) (by kernel_rfl) ?_
 clear ds
 intro ds
 refine CP.cond (b := decide (x5 ≥ 0)) (by kernel_rfl) (fun h4 => ?_) (fun h4 => ?_)
 ·replace hs := of_if_t hs h4
  refine CP.seqR ?_
  refine WP.stl 1 ?_
  refine WP.dn ?_
  refine NX.then_n ?_
  refine CP.ret ?_
  refine NX.block_r ?_
  refine NX.then_r ?_
  obtain ⟨g9, hw3, st9, hnew⟩ := hR1.freeze (by omega)
  refine NX.regw hw3 ?_
  replace hB1 := hB1.mono st9 (WL.no1 (by omega))
  replace tot := tot.trans (st9.up1 (.inl (by simp [WL])))
  clear hR1
  have hR1 := hnew
  clear hnew
  replace hs := Option.some.inj hs
  simp only [Prod.mk.injEq] at hs
  obtain ⟨rfl, rfl, rfl, rfl, rfl⟩ := hs
  exact NX.fin (v := .int .i64 7) (Res.still (by kernel_rfl)) tot htL ⟨a1, n1, c1, rfl, hR1, hB1⟩
 replace hs := of_if_f hs h4
 refine CP.seqR ?_
 refine WP.stl 3 ?_
 refine WP.loadB (v := .slice a1 n1 c1) hB1 (by kernel_rfl) (by kernel_rfl) ?_
 refine WP.len (a := a1) (cp := c1) hR1.len (by kernel_rfl) ?_
 refine WP.stl 2 ?_
 refine WP.dn ?_
 refine NX.then_n ?_
 refine CP.cond (b := ((l1.length : Int) == 16)) (by kernel_rfl) (fun h5 => ?_) (fun h5 => ?_)
 ·replace hs := of_if_t hs h5
  refine CP.seqR ?_
  refine WP.stl 1 ?_
  refine WP.dn ?_
  refine NX.then_n ?_
  refine CP.ret ?_
  refine NX.block_r ?_
  refine NX.then_r ?_
  obtain ⟨g10, hw4, st10, hnew⟩ := hR1.freeze (by omega)
  refine NX.regw hw4 ?_
  replace hB1 := hB1.mono st10 (WL.no1 (by omega))
  replace tot := tot.trans (st10.up1 (.inl (by simp [WL])))
  clear hR1
  have hR1 := hnew
  clear hnew
  replace hs := Option.some.inj hs
  simp only [Prod.mk.injEq] at hs
  obtain ⟨rfl, rfl, rfl, rfl, rfl⟩ := hs
  exact NX.fin (v := .int .i64 8) (Res.still (by kernel_rfl)) tot htL ⟨a1, n1, c1, rfl, hR1, hB1⟩
 replace hs := of_if_f hs h5
 refine CP.seq ?_
 by_cases hc1 : (0 : Int) ≤ x3 ∧ x3 < (2 : Int)
 case neg => rw [if_neg hc1] at hs; cases hs
 replace hs := of_if_p hs hc1
 refine CP.drawL (by kernel_rfl) [1, 4, 7, 8] N.purse_Purse_Hold_1_1 [⟨none, [], [], fun l g => Box g m0 b1 32 [encA .u8 d1, [.int .i64 x1], encA .i64 d2, [.slice a1 n1 c1]] [8, 1, 2, 1]⟩, ⟨none, [], [], fun l g => Box g m2 b2 56 [encA .u8 d3, [.int .i64 x2], [.int .i64 x3], [.int .i64 x4]] [8, 1, 1, 1]⟩, ⟨some 0, [], [0], fun l g => l.getD 0 undef = .int .i64 x2⟩, ⟨some 1, [], [1], fun l g => l.getD 0 undef = .int .i64 x3⟩, ⟨some 2, [], [2], fun l g => l.getD 0 undef = .pointer (some ⟨b1, 9 + x3.toNat * 1, none⟩)⟩, ⟨some 3, [], [3], fun l g => l.getD 0 undef = .int .i64 (aget d2 x3)⟩] [[], [], [], []] [] [0, 2, 3, 5, 6] [9, 10] (by kernel_rfl) (by simp) (by simp) ⟨fun _ _ _ _ st h0 hl hj hB1 => (hB1.mono st (fun h => absurd (hl _ h) (by simp))), fun _ _ _ _ st h0 hl hj hB2 => (hB2.mono st (fun h => absurd (hl _ h) (by simp))), fun _ _ _ _ st h0 hl hj e0 => e0, fun _ _ _ _ st h0 hl hj e1 => e1, fun _ _ _ _ st h0 hl hj e2 => e2, fun _ _ _ _ st h0 hl hj e3 => e3, tv⟩ ⟨hB1, hB2, tv, tv, tv, tv, tv⟩ (by kernel_rfl) (fun vs => by kernel_rfl) ?_ ?_ ?_
 ·intro j hj
  have hq : j = 0 ∨ j = 1 := by have h : j < 2 := hj; omega
  rcases hq with rfl | rfl
  ·intro vs gq stq hl hf
   obtain ⟨v0, v1, v2, v3, rfl⟩ := len_k4 hl
   have e0 := (show v0 = .int .i64 x2 from hf _ (memI 2 rfl) (by kernel_rfl))
   subst e0
   have e3 := (show v3 = .int .i64 (aget d2 x3) from hf _ (memI 5 rfl) (by kernel_rfl))
   subst e3
   show Option.isSome _ = true
   kernel_rfl
  ·intro vs gq stq hl hf
   obtain ⟨v0, v1, v2, v3, rfl⟩ := len_k4 hl
   have e0 := (show v0 = .int .i64 x2 from hf _ (memI 2 rfl) (by kernel_rfl))
   subst e0
   have e3 := (show v3 = .int .i64 (aget d2 x3) from hf _ (memI 5 rfl) (by kernel_rfl))
   subst e3
   show Option.isSome _ = true
   kernel_rfl
 ·intro j hj
  have hq : j = 0 ∨ j = 1 ∨ j = 2 ∨ j = 3 := by have h : j < 4 := hj; omega
  rcases hq with rfl | rfl | rfl | rfl
  ·intro vs gq stq hl hf
   obtain ⟨v0, v1, v2, v3, rfl⟩ := len_k4 hl
   have hB2 := (show Box gq m2 b2 56 [encA .u8 d3, [.int .i64 x2], [.int .i64 x3], [.int .i64 x4]] [8, 1, 1, 1] from hf _ (memI 1 rfl) (by kernel_rfl))
   refine WP.loadB (v := .int .i64 x2) hB2 (by kernel_rfl) (by kernel_rfl) ?_
   refine WP.dn (Shown.ok (v := .int .i64 x2) (by kernel_rfl) (Step.refl _ _) ?_)
   exact ⟨tv, tv, rfl, tv, tv, tv, tv⟩
  ·intro vs gq stq hl hf
   obtain ⟨v0, v1, v2, v3, rfl⟩ := len_k4 hl
   have hB2 := (show Box gq m2 b2 56 [encA .u8 d3, [.int .i64 x2], [.int .i64 x3], [.int .i64 x4]] [8, 1, 1, 1] from hf _ (memI 1 rfl) (by kernel_rfl))
   refine WP.loadB (v := .int .i64 x3) hB2 (by kernel_rfl) (by kernel_rfl) ?_
   refine WP.dn (Shown.ok (v := .int .i64 x3) (by kernel_rfl) (Step.refl _ _) ?_)
   exact ⟨tv, tv, tv, rfl, tv, tv, tv⟩
  ·intro vs gq stq hl hf
   obtain ⟨v0, v1, v2, v3, rfl⟩ := len_k4 hl
   have hB1 := (show Box gq m0 b1 32 [encA .u8 d1, [.int .i64 x1], encA .i64 d2, [.slice a1 n1 c1]] [8, 1, 2, 1] from hf _ (memI 0 rfl) (by kernel_rfl))
   have e1 := (show v1 = .int .i64 x3 from hf _ (memI 3 rfl) (by kernel_rfl))
   subst e1
   refine WP.ixBox (t := 23) (e := 3) (m := 2) (size := 1) (b := b1) (off := 9) (k := .i64) (i := x3) (by kernel_rfl) (by kernel_rfl) hc1 ?_
   refine WP.dn (Shown.ok (v := .pointer (some ⟨b1, 9 + x3.toNat * 1, none⟩)) (by kernel_rfl) (Step.refl _ _) ?_)
   exact ⟨tv, tv, tv, tv, rfl, tv, tv⟩
  ·intro vs gq stq hl hf
   obtain ⟨v0, v1, v2, v3, rfl⟩ := len_k4 hl
   have hB1 := (show Box gq m0 b1 32 [encA .u8 d1, [.int .i64 x1], encA .i64 d2, [.slice a1 n1 c1]] [8, 1, 2, 1] from hf _ (memI 0 rfl) (by kernel_rfl))
   have e2 := (show v2 = .pointer (some ⟨b1, 9 + x3.toNat * 1, none⟩) from hf _ (memI 4 rfl) (by kernel_rfl))
   subst e2
   refine WP.loadE (ty := 3) (o := 9) (m := 2) (k := .i64) (d := d2) (i := x3) hB1 (by kernel_rfl) hc1 (by kernel_rfl) (by kernel_rfl) ?_
   refine WP.dn (Shown.ok (v := .int .i64 (aget d2 x3)) (by kernel_rfl) (Step.refl _ _) ?_)
   exact ⟨tv, tv, tv, tv, tv, rfl, tv⟩
 intro vs g11 st11 hl hf
 obtain ⟨v0, v1, v2, v3, rfl⟩ := len_k4 hl
 have e0 := (show v0 = .int .i64 x2 from hf _ (memI 2 rfl) (by kernel_rfl))
 subst e0
 have e3 := (show v3 = .int .i64 (aget d2 x3) from hf _ (memI 5 rfl) (by kernel_rfl))
 subst e3
 replace hB1 := hB1.mono st11.toNo (fun x => x)
 replace hR1 := hR1.mono st11.toNo (fun x => x) (fun x => x)
 replace hB2 := hB2.mono st11.toNo (fun x => x)
 replace tot := tot.trans st11.toNo.pure
 refine NX.then_n ?_
 refine CP.refr 69 [(0, .pointer (some ⟨b1, 0, none⟩)), (1, .pointer (some ⟨b2, 0, none⟩)), (35, .bool (decide (x2 > (aget d2 x3))))] (by kernel_rfl) (by kernel_rfl) ?_
 clear ds
 intro ds
 refine CP.cond (b := decide (x2 > (aget d2 x3))) (by kernel_rfl) (fun h6 => ?_) (fun h6 => ?_)
 ·replace hs := of_if_t hs h6
  refine CP.seqR ?_
  refine WP.stl 1 ?_
  refine WP.dn ?_
  refine NX.then_n ?_
  refine CP.ret ?_
  refine NX.block_r ?_
  refine NX.then_r ?_
  obtain ⟨g12, hw5, st12, hnew⟩ := hR1.freeze (by omega)
  refine NX.regw hw5 ?_
  replace hB1 := hB1.mono st12 (WL.no1 (by omega))
  replace tot := tot.trans (st12.up1 (.inl (by simp [WL])))
  clear hR1
  have hR1 := hnew
  clear hnew
  replace hs := Option.some.inj hs
  simp only [Prod.mk.injEq] at hs
  obtain ⟨rfl, rfl, rfl, rfl, rfl⟩ := hs
  exact NX.fin (v := .int .i64 21) (Res.still (by kernel_rfl)) tot htL ⟨a1, n1, c1, rfl, hR1, hB1⟩
 replace hs := of_if_f hs h6
 refine CP.skip ?_
 refine NX.block_n ?_
 refine NX.then_n ?_
 refine CP.seq ?_
 by_cases hc2 : (0 : Int) ≤ x3 ∧ x3 < (2 : Int)
 case neg => rw [if_neg hc2] at hs; cases hs
 replace hs := of_if_p hs hc2
 by_cases hc3 : (0 : Int) ≤ x3 ∧ x3 < (2 : Int)
 case neg => rw [if_neg hc3] at hs; cases hs
 replace hs := of_if_p hs hc3
 refine CP.drawL (by kernel_rfl) [2, 5, 6, 8, 12, 13] N.purse_Purse_Hold_1_2 [⟨none, [0], [], fun l g => Box g m0 b1 32 [encA .u8 d1, [.int .i64 x1], encA .i64 d2, [.slice a1 n1 c1]] [8, 1, 2, 1]⟩, ⟨none, [], [], fun l g => Box g m2 b2 56 [encA .u8 d3, [.int .i64 x2], [.int .i64 x3], [.int .i64 x4]] [8, 1, 1, 1]⟩, ⟨some 0, [], [0], fun l g => l.getD 0 undef = .int .i64 x3⟩, ⟨some 1, [], [1], fun l g => l.getD 0 undef = .pointer (some ⟨b1, 9 + x3.toNat * 1, none⟩)⟩, ⟨some 2, [], [2], fun l g => l.getD 0 undef = .int .i64 (aget d2 x3)⟩, ⟨some 3, [], [3], fun l g => l.getD 0 undef = .int .i64 x2⟩, ⟨some 4, [], [4], fun l g => l.getD 0 undef = .pointer (some ⟨b1, 9 + x3.toNat * 1, none⟩)⟩, ⟨some 5, [0], [], fun l g => Box g m0 b1 32 [encA .u8 d1, [.int .i64 x1], encA .i64 (aset d2 x3 (IntKind.i64.wrap ((aget d2 x3) - x2))), [.slice a1 n1 c1]] [8, 1, 2, 1]⟩] [[], [], [], [], [], [0]] [m0] [0, 1, 3, 4, 7, 10, 11] [9] (by kernel_rfl) (by simp <;> omega) (by simp) ⟨fun _ _ _ _ st h0 hl hj hB1 => (hB1.mono st (hj 0 (by simp) _ rfl)), fun _ _ _ _ st h0 hl hj hB2 => (hB2.mono st (fun h => absurd (hl _ h) (by simp <;> omega))), fun _ _ _ _ st h0 hl hj e0 => e0, fun _ _ _ _ st h0 hl hj e1 => e1, fun _ _ _ _ st h0 hl hj e2 => e2, fun _ _ _ _ st h0 hl hj e3 => e3, fun _ _ _ _ st h0 hl hj e4 => e4, fun _ _ _ _ st h0 hl hj hB1 => (hB1.mono st (hj 0 (by simp) _ rfl)), tv⟩ ⟨hB1, hB2, tv, tv, tv, tv, tv, tv, tv⟩ (by kernel_rfl) (fun vs => by kernel_rfl) ?_ ?_ ?_
 ·intro j hj
  have hq : j = 0 := by have h : j < 1 := hj; omega
  rcases hq with rfl
  ·intro vs gq stq hl hf
   obtain ⟨v0, v1, v2, v3, v4, v5, rfl⟩ := len_k6 hl
   have e2 := (show v2 = .int .i64 (aget d2 x3) from hf _ (memI 4 rfl) (by kernel_rfl))
   subst e2
   have e3 := (show v3 = .int .i64 x2 from hf _ (memI 5 rfl) (by kernel_rfl))
   subst e3
   show Option.isSome _ = true
   kernel_rfl
 ·intro j hj
  have hq : j = 0 ∨ j = 1 ∨ j = 2 ∨ j = 3 ∨ j = 4 ∨ j = 5 := by have h : j < 6 := hj; omega
  rcases hq with rfl | rfl | rfl | rfl | rfl | rfl
  ·intro vs gq stq hl hf
   obtain ⟨v0, v1, v2, v3, v4, v5, rfl⟩ := len_k6 hl
   have hB2 := (show Box gq m2 b2 56 [encA .u8 d3, [.int .i64 x2], [.int .i64 x3], [.int .i64 x4]] [8, 1, 1, 1] from hf _ (memI 1 rfl) (by kernel_rfl))
   refine WP.loadB (v := .int .i64 x3) hB2 (by kernel_rfl) (by kernel_rfl) ?_
   refine WP.dn (Shown.ok (v := .int .i64 x3) (by kernel_rfl) (Step.refl _ _) ?_)
   exact ⟨tv, tv, rfl, tv, tv, tv, tv, tv, tv⟩
  ·intro vs gq stq hl hf
   obtain ⟨v0, v1, v2, v3, v4, v5, rfl⟩ := len_k6 hl
   have hB1 := (show Box gq m0 b1 32 [encA .u8 d1, [.int .i64 x1], encA .i64 d2, [.slice a1 n1 c1]] [8, 1, 2, 1] from hf _ (memI 0 rfl) (by kernel_rfl))
   have e0 := (show v0 = .int .i64 x3 from hf _ (memI 2 rfl) (by kernel_rfl))
   subst e0
   refine WP.ixBox (t := 23) (e := 3) (m := 2) (size := 1) (b := b1) (off := 9) (k := .i64) (i := x3) (by kernel_rfl) (by kernel_rfl) hc2 ?_
   refine WP.dn (Shown.ok (v := .pointer (some ⟨b1, 9 + x3.toNat * 1, none⟩)) (by kernel_rfl) (Step.refl _ _) ?_)
   exact ⟨tv, tv, tv, rfl, tv, tv, tv, tv, tv⟩
  ·intro vs gq stq hl hf
   obtain ⟨v0, v1, v2, v3, v4, v5, rfl⟩ := len_k6 hl
   have hB1 := (show Box gq m0 b1 32 [encA .u8 d1, [.int .i64 x1], encA .i64 d2, [.slice a1 n1 c1]] [8, 1, 2, 1] from hf _ (memI 0 rfl) (by kernel_rfl))
   have e1 := (show v1 = .pointer (some ⟨b1, 9 + x3.toNat * 1, none⟩) from hf _ (memI 3 rfl) (by kernel_rfl))
   subst e1
   refine WP.loadE (ty := 3) (o := 9) (m := 2) (k := .i64) (d := d2) (i := x3) hB1 (by kernel_rfl) hc2 (by kernel_rfl) (by kernel_rfl) ?_
   refine WP.dn (Shown.ok (v := .int .i64 (aget d2 x3)) (by kernel_rfl) (Step.refl _ _) ?_)
   exact ⟨tv, tv, tv, tv, rfl, tv, tv, tv, tv⟩
  ·intro vs gq stq hl hf
   obtain ⟨v0, v1, v2, v3, v4, v5, rfl⟩ := len_k6 hl
   have hB2 := (show Box gq m2 b2 56 [encA .u8 d3, [.int .i64 x2], [.int .i64 x3], [.int .i64 x4]] [8, 1, 1, 1] from hf _ (memI 1 rfl) (by kernel_rfl))
   refine WP.loadB (v := .int .i64 x2) hB2 (by kernel_rfl) (by kernel_rfl) ?_
   refine WP.dn (Shown.ok (v := .int .i64 x2) (by kernel_rfl) (Step.refl _ _) ?_)
   exact ⟨tv, tv, tv, tv, tv, rfl, tv, tv, tv⟩
  ·intro vs gq stq hl hf
   obtain ⟨v0, v1, v2, v3, v4, v5, rfl⟩ := len_k6 hl
   have hB1 := (show Box gq m0 b1 32 [encA .u8 d1, [.int .i64 x1], encA .i64 d2, [.slice a1 n1 c1]] [8, 1, 2, 1] from hf _ (memI 0 rfl) (by kernel_rfl))
   have e0 := (show v0 = .int .i64 x3 from hf _ (memI 2 rfl) (by kernel_rfl))
   subst e0
   refine WP.ixBox (t := 23) (e := 3) (m := 2) (size := 1) (b := b1) (off := 9) (k := .i64) (i := x3) (by kernel_rfl) (by kernel_rfl) hc3 ?_
   refine WP.dn (Shown.ok (v := .pointer (some ⟨b1, 9 + x3.toNat * 1, none⟩)) (by kernel_rfl) (Step.refl _ _) ?_)
   exact ⟨tv, tv, tv, tv, tv, tv, rfl, tv, tv⟩
  ·intro vs gq stq hl hf
   obtain ⟨v0, v1, v2, v3, v4, v5, rfl⟩ := len_k6 hl
   have hB1 := (show Box gq m0 b1 32 [encA .u8 d1, [.int .i64 x1], encA .i64 d2, [.slice a1 n1 c1]] [8, 1, 2, 1] from hf _ (memI 0 rfl) (by kernel_rfl))
   have e2 := (show v2 = .int .i64 (aget d2 x3) from hf _ (memI 4 rfl) (by kernel_rfl))
   subst e2
   have e3 := (show v3 = .int .i64 x2 from hf _ (memI 5 rfl) (by kernel_rfl))
   subst e3
   have e4 := (show v4 = .pointer (some ⟨b1, 9 + x3.toNat * 1, none⟩) from hf _ (memI 6 rfl) (by kernel_rfl))
   subst e4
   refine WP.storeE (ty := 3) (o := 9) (m := 2) (k := .i64) (d := d2) (i := x3) (x := (IntKind.i64.wrap ((aget d2 x3) - x2))) hB1 (by kernel_rfl) hc3 (by kernel_rfl) (by kernel_rfl) [encA .u8 d1, [.int .i64 x1], encA .i64 (aset d2 x3 (IntKind.i64.wrap ((aget d2 x3) - x2))), [.slice a1 n1 c1]] (by kernel_rfl) ?_
   intro g13 st13 hB3
   refine WP.dn (Shown.o (v := undef) st13 ?_)
   exact ⟨tv, tv, tv, tv, tv, tv, tv, hB3, tv⟩
 intro vs g14 st14 hl hf
 obtain ⟨v0, v1, v2, v3, v4, v5, rfl⟩ := len_k6 hl
 have hB1 := (show Box g14 m0 b1 32 [encA .u8 d1, [.int .i64 x1], encA .i64 (aset d2 x3 (IntKind.i64.wrap ((aget d2 x3) - x2))), [.slice a1 n1 c1]] [8, 1, 2, 1] from hf _ (memI 7 rfl) (by kernel_rfl))
 replace hR1 := hR1.mono st14 (WL.no1 (by omega)) (WL.no1 (by omega))
 replace hB2 := hB2.mono st14 (WL.no1 (by omega))
 replace tot := tot.trans (st14.up1 (.inl (by simp [WL])))
 refine NX.then_n ?_
 refine CP.refr 69 [(0, .pointer (some ⟨b1, 0, none⟩)), (1, .pointer (some ⟨b2, 0, none⟩))] (by kernel_rfl) (by kernel_rfl) ?_
 clear ds
 intro ds
 refine CP.seq ?_
 by_cases hc4 : l1.length + ([(⟨d3, x2, x3, x4⟩ : S_purse_Held)]).length ≤ 4398046511104
 case neg => rw [if_neg hc4] at hs; cases hs
 replace hs := of_if_p hs hc4
 refine CP.drawL (by kernel_rfl) [4, 5, 6, 7, 10] N.purse_Purse_Hold_1_3 [⟨none, [1], [], fun l g => Box g m0 b1 32 [encA .u8 d1, [.int .i64 x1], encA .i64 (aset d2 x3 (IntKind.i64.wrap ((aget d2 x3) - x2))), [.slice a1 n1 c1]] [8, 1, 2, 1]⟩, ⟨none, [0], [], fun l g => OwnS k_S_purse_Held g m1 56 a1 n1 c1 l1⟩, ⟨none, [], [], fun l g => Box g m2 b2 56 [encA .u8 d3, [.int .i64 x2], [.int .i64 x3], [.int .i64 x4]] [8, 1, 1, 1]⟩, ⟨some 0, [], [0], fun l g => l.getD 0 undef = .slice a1 n1 c1⟩, ⟨some 1, [], [1], fun l g => l.getD 0 undef = AG [encA .u8 d3, [.int .i64 x2], [.int .i64 x3], [.int .i64 x4]]⟩, ⟨some 2, [], [2], fun l g => ∃ (a2 : Option Addr), l.getD 0 undef = .slice a2 1 1 ∧ OwnS k_S_purse_Held g (t + 1) 56 a2 1 1 ([(⟨d3, x2, x3, x4⟩ : S_purse_Held)])⟩, ⟨some 3, [0], [3], fun l g => ∃ (a3 : Option Addr) (c2 : Nat), l.getD 0 undef = .slice a3 (n1 + 1) c2 ∧ OwnS k_S_purse_Held g m1 56 a3 (n1 + 1) c2 (l1 ++ [(⟨d3, x2, x3, x4⟩ : S_purse_Held)])⟩, ⟨some 4, [0, 1], [3], fun l g => ∃ (a3 : Option Addr) (c2 : Nat), l.getD 0 undef = .slice a3 (n1 + 1) c2 ∧ OwnS k_S_purse_Held g m1 56 a3 (n1 + 1) c2 (l1 ++ [(⟨d3, x2, x3, x4⟩ : S_purse_Held)]) ∧ Box g m0 b1 32 [encA .u8 d1, [.int .i64 x1], encA .i64 (aset d2 x3 (IntKind.i64.wrap ((aget d2 x3) - x2))), [.slice a3 (n1 + 1) c2]] [8, 1, 2, 1]⟩] [[], [], [], [0], [1]] [m1, m0] [0, 1, 2, 3, 8, 9] [] (by kernel_rfl) (by simp <;> omega) (by simp <;> omega) ⟨fun _ _ _ _ st h0 hl hj hB1 => (hB1.mono st (hj 1 (by simp) _ rfl)), fun _ _ _ _ st h0 hl hj hR1 => (hR1.mono st h0 (hj 0 (by simp) _ rfl)), fun _ _ _ _ st h0 hl hj hB2 => (hB2.mono st (fun h => absurd (hl _ h) (by simp <;> omega))), fun _ _ _ _ st h0 hl hj e0 => e0, fun _ _ _ _ st h0 hl hj e1 => e1, fun _ _ _ _ st h0 hl hj ⟨a2, e2, hR2⟩ => ⟨a2, e2, (hR2.mono st h0 (fun h => absurd (hl _ h) (by simp <;> omega)))⟩, fun _ _ _ _ st h0 hl hj ⟨a3, c2, e3, hR3⟩ => ⟨a3, c2, e3, (hR3.mono st h0 (hj 0 (by simp) _ rfl))⟩, fun _ _ _ _ st h0 hl hj ⟨a3, c2, e3, hR3, hB1⟩ => ⟨a3, c2, e3, (hR3.mono st h0 (hj 0 (by simp) _ rfl)), (hB1.mono st (hj 1 (by simp) _ rfl))⟩, tv⟩ ⟨hB1, hR1, hB2, tv, tv, tv, tv, tv, tv⟩ (by kernel_rfl) (fun vs => by kernel_rfl) ?_ ?_ ?_
 ·intro j hj; exact absurd hj (by simp)
 ·intro j hj
  have hq : j = 0 ∨ j = 1 ∨ j = 2 ∨ j = 3 ∨ j = 4 := by have h : j < 5 := hj; omega
  rcases hq with rfl | rfl | rfl | rfl | rfl
  ·intro vs gq stq hl hf
   obtain ⟨v0, v1, v2, v3, v4, rfl⟩ := len_k5 hl
   have hB1 := (show Box gq m0 b1 32 [encA .u8 d1, [.int .i64 x1], encA .i64 (aset d2 x3 (IntKind.i64.wrap ((aget d2 x3) - x2))), [.slice a1 n1 c1]] [8, 1, 2, 1] from hf _ (memI 0 rfl) (by kernel_rfl))
   refine WP.loadB (v := .slice a1 n1 c1) hB1 (by kernel_rfl) (by kernel_rfl) ?_
   refine WP.dn (Shown.ok (v := .slice a1 n1 c1) (by kernel_rfl) (Step.refl _ _) ?_)
   exact ⟨tv, tv, tv, rfl, tv, tv, tv, tv, tv⟩
  ·intro vs gq stq hl hf
   obtain ⟨v0, v1, v2, v3, v4, rfl⟩ := len_k5 hl
   have hB2 := (show Box gq m2 b2 56 [encA .u8 d3, [.int .i64 x2], [.int .i64 x3], [.int .i64 x4]] [8, 1, 1, 1] from hf _ (memI 2 rfl) (by kernel_rfl))
   refine WP.loadB (v := AG [encA .u8 d3, [.int .i64 x2], [.int .i64 x3], [.int .i64 x4]]) hB2 (by kernel_rfl) (by kernel_rfl) ?_
   refine WP.dn (Shown.ok (v := AG [encA .u8 d3, [.int .i64 x2], [.int .i64 x3], [.int .i64 x4]]) (by kernel_rfl) (Step.refl _ _) ?_)
   exact ⟨tv, tv, tv, tv, rfl, tv, tv, tv, tv⟩
  ·intro vs gq stq hl hf
   obtain ⟨v0, v1, v2, v3, v4, rfl⟩ := len_k5 hl
   have e1 := (show v1 = AG [encA .u8 d3, [.int .i64 x2], [.int .i64 x3], [.int .i64 x4]] from hf _ (memI 4 rfl) (by kernel_rfl))
   subst e1
   refine WP.mkSl (kd := k_S_purse_Held) (t := 30) (e := 56) (bytes := 32) (t + 1) [AG [encA .u8 d3, [.int .i64 x2], [.int .i64 x3], [.int .i64 x4]]] [(⟨d3, x2, x3, x4⟩ : S_purse_Held)] (by kernel_rfl) (by kernel_rfl) (Nat.le_of_ble_eq_true rfl) (Nat.le_of_ble_eq_true rfl) (all_cons (Kd.len k_S_purse_Held (g := gq) (x := (⟨d3, x2, x3, x4⟩ : S_purse_Held)) (k_S_purse_Held.mk rfl rfl rfl rfl)) all_nil) (⟨_, _, rfl, (k_S_purse_Held.mk rfl rfl rfl rfl), rfl⟩) rfl ?_
   intro g15 a2 st15 hR2
   refine WP.dn (Shown.o (v := .slice a2 1 1) st15.pure ?_)
   exact ⟨tv, tv, tv, tv, tv, ⟨a2, rfl, hR2⟩, tv, tv, tv⟩
  ·intro vs gq stq hl hf
   obtain ⟨v0, v1, v2, v3, v4, rfl⟩ := len_k5 hl
   have hR1 := (show OwnS k_S_purse_Held gq m1 56 a1 n1 c1 l1 from hf _ (memI 1 rfl) (by kernel_rfl))
   have e0 := (show v0 = .slice a1 n1 c1 from hf _ (memI 3 rfl) (by kernel_rfl))
   subst e0
   obtain ⟨a2, e2, hR2⟩ := (show ∃ (a2 : Option Addr), v2 = .slice a2 1 1 ∧ OwnS k_S_purse_Held gq (t + 1) 56 a2 1 1 ([(⟨d3, x2, x3, x4⟩ : S_purse_Held)]) from hf _ (memI 5 rfl) (by kernel_rfl))
   subst e2
   refine WP.append (kd := k_S_purse_Held) (t := 30) (e := 56) (bytes := 32) (a2 := a2) (c2 := 1) hR1 hR2.src hR2.len (by kernel_rfl) (by kernel_rfl) (by omega) (by simp only [maxLen]; omega) (by omega) ?_
   intro g16 a3 c2 st16 hR3
   refine WP.dn (Shown.o (v := .slice a3 (n1 + 1) c2) st16 ?_)
   exact ⟨tv, tv, tv, tv, tv, tv, ⟨a3, c2, rfl, hR3⟩, tv, tv⟩
  ·intro vs gq stq hl hf
   obtain ⟨v0, v1, v2, v3, v4, rfl⟩ := len_k5 hl
   have hB1 := (show Box gq m0 b1 32 [encA .u8 d1, [.int .i64 x1], encA .i64 (aset d2 x3 (IntKind.i64.wrap ((aget d2 x3) - x2))), [.slice a1 n1 c1]] [8, 1, 2, 1] from hf _ (memI 0 rfl) (by kernel_rfl))
   obtain ⟨a3, c2, e3, hR3⟩ := (show ∃ (a3 : Option Addr) (c2 : Nat), v3 = .slice a3 (n1 + 1) c2 ∧ OwnS k_S_purse_Held gq m1 56 a3 (n1 + 1) c2 (l1 ++ [(⟨d3, x2, x3, x4⟩ : S_purse_Held)]) from hf _ (memI 6 rfl) (by kernel_rfl))
   subst e3
   refine WP.storeB (ty := 30) (off := 11) (v := .slice a3 (n1 + 1) c2) hB1 [[.slice a3 (n1 + 1) c2]] [1] (by kernel_rfl) (by kernel_rfl) rfl (by kernel_rfl) [encA .u8 d1, [.int .i64 x1], encA .i64 (aset d2 x3 (IntKind.i64.wrap ((aget d2 x3) - x2))), [.slice a3 (n1 + 1) c2]] (by kernel_rfl) (.one rfl .nil) ?_
   intro g17 st17 hB4
   refine WP.dn (Shown.o (v := undef) st17 ?_)
   exact ⟨tv, tv, tv, tv, tv, tv, tv, ⟨a3, c2, rfl, (hR3.mono st17 (WL.no (by simp <;> omega)) (WL.no (by simp <;> omega))), hB4⟩, tv⟩
 intro vs g18 st18 hl hf
 obtain ⟨v0, v1, v2, v3, v4, rfl⟩ := len_k5 hl
 obtain ⟨a3, c2, e3, hR3, hB1⟩ := (show ∃ (a3 : Option Addr) (c2 : Nat), v3 = .slice a3 (n1 + 1) c2 ∧ OwnS k_S_purse_Held g18 m1 56 a3 (n1 + 1) c2 (l1 ++ [(⟨d3, x2, x3, x4⟩ : S_purse_Held)]) ∧ Box g18 m0 b1 32 [encA .u8 d1, [.int .i64 x1], encA .i64 (aset d2 x3 (IntKind.i64.wrap ((aget d2 x3) - x2))), [.slice a3 (n1 + 1) c2]] [8, 1, 2, 1] from hf _ (memI 7 rfl) (by kernel_rfl))
 subst e3
 replace tot := tot.trans (st18.up2 (.inl (by simp [WL])) (.inl (by simp [WL])))
 refine NX.then_n ?_
 refine CP.refr 69 [] (by kernel_rfl) (by kernel_rfl) ?_
 clear ds
 intro ds
 refine CP.seqR ?_
 refine WP.stl 1 ?_
 refine WP.dn ?_
 refine NX.then_n ?_
 refine CP.ret ?_
 obtain ⟨g19, hw6, st19, hnew⟩ := hR3.freeze (by omega)
 refine NX.regw hw6 ?_
 replace hB1 := hB1.mono st19 (WL.no1 (by omega))
 replace tot := tot.trans (st19.up1 (.inl (by simp [WL])))
 clear hR3
 have hR3 := hnew
 clear hnew
 replace hs := Option.some.inj hs
 simp only [Prod.mk.injEq] at hs
 obtain ⟨rfl, rfl, rfl, rfl, rfl⟩ := hs
 exact NX.fin (v := .int .i64 0) (Res.still (by kernel_rfl)) tot htL ⟨a3, (n1 + 1), c2, rfl, hR3, hB1⟩
def F.purse_Purse_next (d1 : Arr Int 8) (x1 : Int) (d2 : Arr Int 2) (l1 : List S_purse_Held) (d3 : Arr Int 8) (x2 : Int) (x3 : Int) (x4 : Int) : Option ((Arr Int 8) × Int × (Arr Int 2) × (List S_purse_Held) × Int) := ((F.purse_Purse_Check d1 x1 d2 l1).bind fun x5 => (if (x5 != 0) = true then (some ((zA 8), 0, (zA 2), [], 3)) else (if (x1 == 1099511627776) = true then (some ((zA 8), 0, (zA 2), [], 17)) else ((F.slices_Clone_purse_Held_purse_Held l1).bind fun l2 => ((F.purse_Purse_Hold_1 d1 (IntKind.i64.wrap (x1 + 1)) d2 l2 d3 x2 x3 x4).bind fun (x6, d4, x7, d5, d6) => (if (x6 != 0) = true then (some ((zA 8), 0, (zA 2), [], x6)) else (some (d4, x7, d5, d6, 0))))))))
theorem P.purse_Purse_next (g0 : GW) (m0 : Nat) (d1 : Arr Int 8) (x1 : Int) (d2 : Arr Int 2) (l1 : List S_purse_Held) (d3 : Arr Int 8) (x2 : Int) (x3 : Int) (x4 : Int) (a1 : Option Addr) (n1 : Nat) (c1 : Nat) (b1 : Nat) (hR1 : RdS k_S_purse_Held g0 56 a1 n1 c1 l1) (hB1 : Box g0 m0 b1 56 [encA .u8 d3, [.int .i64 x2], [.int .i64 x3], [.int .i64 x4]] [8, 1, 1, 1]) (hm0 : m0 ≠ 0) (o1 : Arr Int 8) (o2 : Int) (o3 : Arr Int 2) (o4 : List S_purse_Held) (o5 : Int) (hs : F.purse_Purse_next d1 x1 d2 l1 d3 x2 x3 x4 = some (o1, o2, o3, o4, o5)) :
  Calls Try.prog 51 #[AG [encA .u8 d1, [.int .i64 x1], encA .i64 d2, [.slice a1 n1 c1]], .func (.func 73) #[] #[.pointer (some ⟨b1, 0, none⟩)]] g0.w (Ret NoM g0 fun v g => ∃ (a_1 : Option Addr) (n_1 : Nat) (c_1 : Nat), v = .tuple #[AG [encA .u8 o1, [.int .i64 o2], encA .i64 o3, [.slice a_1 n_1 c_1]], .int .i64 o5] ∧ RdS k_S_purse_Held g 56 a_1 n_1 c_1 o4) := by
 refine calls_of (args := [AG [encA .u8 d1, [.int .i64 x1], encA .i64 d2, [.slice a1 n1 c1]], .func (.func 73) #[] #[.pointer (some ⟨b1, 0, none⟩)]]) Try.func51 rfl (m0 + 0) ?_
 intro t ht htL
 refine ⟨_, rfl, ?_⟩
 refine CP.refr 34 [(0, AG [encA .u8 d1, [.int .i64 x1], encA .i64 d2, [.slice a1 n1 c1]]), (1, .func (.func 73) #[] #[.pointer (some ⟨b1, 0, none⟩)])] (by kernel_rfl) (by kernel_rfl) ?_
 intro ds
 have tot : Step (fun l => NoM l ∨ t ≤ l) g0 g0 := Step.refl _ _
 unfold F.purse_Purse_next at hs
 refine CP.seqR ?_
 refine WP.alloc (T := 32) (t + 1) [encA .u8 d1, [.int .i64 x1], encA .i64 d2, [.slice a1 n1 c1]] [8, 1, 2, 1] (by kernel_rfl) (by simp [len_encA]) ?_
 intro g1 b2 st1 hB2
 replace hR1 := hR1.mono st1 (fun x => x)
 replace hB1 := hB1.mono st1 (fun x => x)
 replace tot := tot.trans st1.pure
 refine WP.alloc (T := 32) (t + 2) [encA .u8 (zA 8), [.int .i64 0], encA .i64 (zA 2), [.slice none 0 0]] [8, 1, 2, 1] (by kernel_rfl) (by simp [len_encA]) ?_
 intro g2 b3 st2 hB3
 replace hR1 := hR1.mono st2 (fun x => x)
 replace hB1 := hB1.mono st2 (fun x => x)
 replace hB2 := hB2.mono st2 (fun x => x)
 replace tot := tot.trans st2.pure
 refine WP.stl 1 ?_
 refine WP.dn ?_
 refine NX.then_n ?_
 refine CP.seq ?_
 refine CP.block ?_
 refine CP.seqR ?_
 refine WP.loadB (v := AG [encA .u8 d1, [.int .i64 x1], encA .i64 d2, [.slice a1 n1 c1]]) hB2 (by kernel_rfl) (by kernel_rfl) ?_
 replace hs := Option.bind_eq_some_iff.1 hs
 obtain ⟨x5, hk1, hs⟩ := hs
 have hcal1 := P.purse_Purse_Check g2 d1 x1 d2 l1 a1 n1 c1 hR1 x5 hk1
 refine WP.callC hcal1 (by kernel_rfl) ?_
 rintro _ g3 st3 rfl
 replace hB1 := hB1.mono st3 (fun x => x)
 replace hB2 := hB2.mono st3 (fun x => x)
 replace hR1 := hR1.mono st3 (fun x => x)
 replace hB3 := hB3.mono st3 (fun x => x)
 replace tot := tot.trans st3.pure
 refine WP.stl 2 ?_
 refine WP.dn ?_
 refine NX.then_n ?_
 refine CP.cond (b := (x5 != 0)) (by kernel_rfl) (fun h1 => ?_) (fun h1 => ?_)
 ·replace hs := of_if_t hs h1
  refine CP.seqR ?_
  refine WP.buildS (places := #[(0, 8), (8, 1), (9, 2), (11, 1)]) (t := 32) [encA .u8 (zA 8), [.int .i64 0], encA .i64 (zA 2), [.slice none 0 0]] [8, 1, 2, 1] (by kernel_rfl) (by kernel_rfl) (by simp [len_encA]) (by kernel_rfl) (.nil) ?_
  refine WP.storeB (ty := 32) (off := 0) (v := AG [encA .u8 (zA 8), [.int .i64 0], encA .i64 (zA 2), [.slice none 0 0]]) hB3 [encA .u8 (zA 8), [.int .i64 0], encA .i64 (zA 2), [.slice none 0 0]] [8, 1, 2, 1] (by kernel_rfl) (by kernel_rfl) (by simp [len_encA]) (by kernel_rfl) [encA .u8 (zA 8), [.int .i64 0], encA .i64 (zA 2), [.slice none 0 0]] (by kernel_rfl) (.arr (.one rfl (.arr (.one rfl .nil)))) ?_
  intro g4 st4 hB4
  replace hB1 := hB1.mono st4 (WL.no1 (by omega))
  replace hB2 := hB2.mono st4 (WL.no1 (by omega))
  replace hR1 := hR1.mono st4 (WL.no1 (by omega))
  replace tot := tot.trans (st4.up1 (.inr (by omega)))
  clear hB3
  have hB3 := hB4
  clear hB4
  refine WP.stl 1 ?_
  refine WP.dn ?_
  refine NX.then_n ?_
  refine CP.ret ?_
  refine NX.block_r ?_
  refine NX.then_r ?_
  replace hs := Option.some.inj hs
  simp only [Prod.mk.injEq] at hs
  obtain ⟨rfl, rfl, rfl, rfl, rfl⟩ := hs
  exact NX.fin (v := .tuple #[AG [encA .u8 (zA 8), [.int .i64 0], encA .i64 (zA 2), [.slice none 0 0]], .int .i64 3]) (Res.two rfl (RV.box (agg := true) (size := 12) (rs := [encA .u8 (zA 8), [.int .i64 0], encA .i64 (zA 2), [.slice none 0 0]]) hB3 (by kernel_rfl) (by kernel_rfl) (by kernel_rfl) (by kernel_rfl)) (RV.tmp (by kernel_rfl))) tot htL ⟨none, 0, 0, rfl, (RdS.nil _ _ _)⟩
 replace hs := of_if_f hs h1
 refine CP.seqR ?_
 refine WP.stl 1 ?_
 refine WP.loadB (v := .int .i64 x1) hB2 (by kernel_rfl) (by kernel_rfl) ?_
 refine WP.stl 2 ?_
 refine WP.dn ?_
 refine NX.then_n ?_
 refine CP.cond (b := (x1 == 1099511627776)) (by kernel_rfl) (fun h2 => ?_) (fun h2 => ?_)
 ·replace hs := of_if_t hs h2
  refine CP.seqR ?_
  refine WP.buildS (places := #[(0, 8), (8, 1), (9, 2), (11, 1)]) (t := 32) [encA .u8 (zA 8), [.int .i64 0], encA .i64 (zA 2), [.slice none 0 0]] [8, 1, 2, 1] (by kernel_rfl) (by kernel_rfl) (by simp [len_encA]) (by kernel_rfl) (.nil) ?_
  refine WP.storeB (ty := 32) (off := 0) (v := AG [encA .u8 (zA 8), [.int .i64 0], encA .i64 (zA 2), [.slice none 0 0]]) hB3 [encA .u8 (zA 8), [.int .i64 0], encA .i64 (zA 2), [.slice none 0 0]] [8, 1, 2, 1] (by kernel_rfl) (by kernel_rfl) (by simp [len_encA]) (by kernel_rfl) [encA .u8 (zA 8), [.int .i64 0], encA .i64 (zA 2), [.slice none 0 0]] (by kernel_rfl) (.arr (.one rfl (.arr (.one rfl .nil)))) ?_
  intro g5 st5 hB5
  replace hB1 := hB1.mono st5 (WL.no1 (by omega))
  replace hB2 := hB2.mono st5 (WL.no1 (by omega))
  replace hR1 := hR1.mono st5 (WL.no1 (by omega))
  replace tot := tot.trans (st5.up1 (.inr (by omega)))
  clear hB3
  have hB3 := hB5
  clear hB5
  refine WP.stl 1 ?_
  refine WP.dn ?_
  refine NX.then_n ?_
  refine CP.refr 34 [(4, .pointer (some ⟨b3, 0, none⟩)), (5, .int .i64 17)] (by kernel_rfl) (by kernel_rfl) ?_
  clear ds
  intro ds
  refine CP.ret ?_
  refine NX.block_r ?_
  refine NX.then_r ?_
  replace hs := Option.some.inj hs
  simp only [Prod.mk.injEq] at hs
  obtain ⟨rfl, rfl, rfl, rfl, rfl⟩ := hs
  exact NX.fin (v := .tuple #[AG [encA .u8 (zA 8), [.int .i64 0], encA .i64 (zA 2), [.slice none 0 0]], .int .i64 17]) (Res.two rfl (RV.box (agg := true) (size := 12) (rs := [encA .u8 (zA 8), [.int .i64 0], encA .i64 (zA 2), [.slice none 0 0]]) hB3 (by kernel_rfl) (by kernel_rfl) (by kernel_rfl) (by kernel_rfl)) (RV.tmp (by kernel_rfl))) tot htL ⟨none, 0, 0, rfl, (RdS.nil _ _ _)⟩
 replace hs := of_if_f hs h2
 refine CP.skip ?_
 refine NX.block_n ?_
 refine NX.then_n ?_
 refine CP.seqR ?_
 refine WP.loadB (v := AG [encA .u8 d1, [.int .i64 x1], encA .i64 d2, [.slice a1 n1 c1]]) hB2 (by kernel_rfl) (by kernel_rfl) ?_
 refine WP.alloc (T := 32) (t + 3) [encA .u8 (zA 8), [.int .i64 0], encA .i64 (zA 2), [.slice none 0 0]] [8, 1, 2, 1] (by kernel_rfl) (by simp [len_encA]) ?_
 intro g6 b4 st6 hB6
 replace hB1 := hB1.mono st6 (fun x => x)
 replace hB2 := hB2.mono st6 (fun x => x)
 replace hR1 := hR1.mono st6 (fun x => x)
 replace hB3 := hB3.mono st6 (fun x => x)
 replace tot := tot.trans st6.pure
 refine WP.storeB (ty := 32) (off := 0) (v := AG [encA .u8 d1, [.int .i64 x1], encA .i64 d2, [.slice a1 n1 c1]]) hB6 [encA .u8 d1, [.int .i64 x1], encA .i64 d2, [.slice a1 n1 c1]] [8, 1, 2, 1] (by kernel_rfl) (by kernel_rfl) (by simp [len_encA]) (by kernel_rfl) [encA .u8 d1, [.int .i64 x1], encA .i64 d2, [.slice a1 n1 c1]] (by kernel_rfl) (.arr (.one rfl (.arr (.one rfl .nil)))) ?_
 intro g7 st7 hB7
 replace hB1 := hB1.mono st7 (WL.no1 (by omega))
 replace hB2 := hB2.mono st7 (WL.no1 (by omega))
 replace hR1 := hR1.mono st7 (WL.no1 (by omega))
 replace hB3 := hB3.mono st7 (WL.no1 (by omega))
 replace tot := tot.trans (st7.up1 (.inr (by omega)))
 clear hB6
 have hB6 := hB7
 clear hB7
 refine WP.dn ?_
 refine NX.then_n ?_
 refine CP.refr 34 [(1, .func (.func 73) #[] #[.pointer (some ⟨b1, 0, none⟩)]), (2, .pointer (some ⟨b2, 0, none⟩)), (4, .pointer (some ⟨b3, 0, none⟩)), (6, .pointer (some ⟨b4, 0, none⟩))] (by kernel_rfl) (by kernel_rfl) ?_
 clear ds
 intro ds
 refine CP.seqR ?_
 refine WP.stl 1 ?_
 refine WP.loadB (v := .int .i64 x1) hB6 (by kernel_rfl) (by kernel_rfl) ?_
 refine WP.stl 2 ?_
 refine WP.storeB (ty := 3) (off := 8) (v := .int .i64 (IntKind.i64.wrap (x1 + 1))) hB6 [[.int .i64 (IntKind.i64.wrap (x1 + 1))]] [1] (by kernel_rfl) (by kernel_rfl) rfl (by kernel_rfl) [encA .u8 d1, [.int .i64 (IntKind.i64.wrap (x1 + 1))], encA .i64 d2, [.slice a1 n1 c1]] (by kernel_rfl) (.one rfl .nil) ?_
 intro g8 st8 hB8
 replace hB1 := hB1.mono st8 (WL.no1 (by omega))
 replace hB2 := hB2.mono st8 (WL.no1 (by omega))
 replace hR1 := hR1.mono st8 (WL.no1 (by omega))
 replace hB3 := hB3.mono st8 (WL.no1 (by omega))
 replace tot := tot.trans (st8.up1 (.inr (by omega)))
 clear hB6
 have hB6 := hB8
 clear hB8
 refine WP.dn ?_
 refine NX.then_n ?_
 refine CP.seqR ?_
 refine WP.stl 1 ?_
 refine WP.loadB (v := .slice a1 n1 c1) hB2 (by kernel_rfl) (by kernel_rfl) ?_
 replace hs := Option.bind_eq_some_iff.1 hs
 obtain ⟨l2, hk2, hs⟩ := hs
 have hcal2 := P.slices_Clone_purse_Held_purse_Held g8 (t + 4) l1 a1 n1 c1 hR1 l2 hk2
 refine WP.callC hcal2 (by kernel_rfl) ?_
 rintro _ g9 st9 ⟨a2, n2, c2, rfl, hR2⟩
 replace hB1 := hB1.mono st9 (fun x => x)
 replace hB2 := hB2.mono st9 (fun x => x)
 replace hR1 := hR1.mono st9 (fun x => x)
 replace hB3 := hB3.mono st9 (fun x => x)
 replace hB6 := hB6.mono st9 (fun x => x)
 replace tot := tot.trans st9.pure
 refine WP.stl 1 ?_
 refine WP.storeB (ty := 30) (off := 11) (v := .slice a2 n2 c2) hB6 [[.slice a2 n2 c2]] [1] (by kernel_rfl) (by kernel_rfl) rfl (by kernel_rfl) [encA .u8 d1, [.int .i64 (IntKind.i64.wrap (x1 + 1))], encA .i64 d2, [.slice a2 n2 c2]] (by kernel_rfl) (.one rfl .nil) ?_
 intro g10 st10 hB9
 replace hB1 := hB1.mono st10 (WL.no1 (by omega))
 replace hB2 := hB2.mono st10 (WL.no1 (by omega))
 replace hR1 := hR1.mono st10 (WL.no1 (by omega))
 replace hB3 := hB3.mono st10 (WL.no1 (by omega))
 replace hR2 := hR2.mono st10 (WL.no1 (by omega)) (WL.no1 (by omega))
 replace tot := tot.trans (st10.up1 (.inr (by omega)))
 clear hB6
 have hB6 := hB9
 clear hB9
 refine WP.dn ?_
 refine NX.then_n ?_
 refine CP.seq ?_
 refine CP.seqR ?_
 refine WP.stl 1 ?_
 replace hs := Option.bind_eq_some_iff.1 hs
 obtain ⟨⟨x6, d4, x7, d5, d6⟩, hk3, hs⟩ := hs
 dsimp only at hs
 have hcal3 := P.purse_Purse_Hold_1 g10 (t + 3) (t + 4) m0 d1 (IntKind.i64.wrap (x1 + 1)) d2 l2 d3 x2 x3 x4 a2 n2 c2 b4 b1 hR2 hB6 hB1 (by omega) (by omega) (by omega) (by omega) (by omega) (by omega) x6 d4 x7 d5 d6 hk3
 refine WP.callC hcal3 (by kernel_rfl) ?_
 rintro _ g11 st11 ⟨a3, n3, c3, rfl, hR3, hB10⟩
 replace hB1 := hB1.mono st11 (WL.no2 (by omega) (by omega))
 replace hB3 := hB3.mono st11 (WL.no2 (by omega) (by omega))
 replace tot := tot.trans (st11.up2 (.inr (by omega)) (.inr (by omega)))
 clear hB6
 have hB6 := hB10
 clear hB10
 refine WP.stl 1 ?_
 refine WP.dn ?_
 refine NX.then_n ?_
 refine CP.refr 34 [(4, .pointer (some ⟨b3, 0, none⟩)), (6, .pointer (some ⟨b4, 0, none⟩)), (7, .int .i64 x6)] (by kernel_rfl) (by kernel_rfl) ?_
 clear ds
 intro ds
 refine CP.seqR ?_
 refine WP.stl 2 ?_
 refine WP.dn ?_
 refine NX.then_n ?_
 refine CP.cond (b := (x6 != 0)) (by kernel_rfl) (fun h3 => ?_) (fun h3 => ?_)
 ·replace hs := of_if_t hs h3
  refine CP.seqR ?_
  refine WP.buildS (places := #[(0, 8), (8, 1), (9, 2), (11, 1)]) (t := 32) [encA .u8 (zA 8), [.int .i64 0], encA .i64 (zA 2), [.slice none 0 0]] [8, 1, 2, 1] (by kernel_rfl) (by kernel_rfl) (by simp [len_encA]) (by kernel_rfl) (.nil) ?_
  refine WP.stl 1 ?_
  refine WP.storeB (ty := 32) (off := 0) (v := AG [encA .u8 (zA 8), [.int .i64 0], encA .i64 (zA 2), [.slice none 0 0]]) hB3 [encA .u8 (zA 8), [.int .i64 0], encA .i64 (zA 2), [.slice none 0 0]] [8, 1, 2, 1] (by kernel_rfl) (by kernel_rfl) (by simp [len_encA]) (by kernel_rfl) [encA .u8 (zA 8), [.int .i64 0], encA .i64 (zA 2), [.slice none 0 0]] (by kernel_rfl) (.arr (.one rfl (.arr (.one rfl .nil)))) ?_
  intro g12 st12 hB11
  replace hB6 := hB6.mono st12 (WL.no1 (by omega))
  replace hR3 := hR3.mono st12 (WL.no1 (by omega))
  replace tot := tot.trans (st12.up1 (.inr (by omega)))
  clear hB3
  have hB3 := hB11
  clear hB11
  refine WP.stl 1 ?_
  refine WP.dn ?_
  refine NX.then_n ?_
  refine CP.ret ?_
  refine NX.then_r ?_
  replace hs := Option.some.inj hs
  simp only [Prod.mk.injEq] at hs
  obtain ⟨rfl, rfl, rfl, rfl, rfl⟩ := hs
  exact NX.fin (v := .tuple #[AG [encA .u8 (zA 8), [.int .i64 0], encA .i64 (zA 2), [.slice none 0 0]], .int .i64 x6]) (Res.two rfl (RV.box (agg := true) (size := 12) (rs := [encA .u8 (zA 8), [.int .i64 0], encA .i64 (zA 2), [.slice none 0 0]]) hB3 (by kernel_rfl) (by kernel_rfl) (by kernel_rfl) (by kernel_rfl)) (RV.tmp (by kernel_rfl))) tot htL ⟨none, 0, 0, rfl, (RdS.nil _ _ _)⟩
 replace hs := of_if_f hs h3
 refine CP.skip ?_
 refine NX.then_n ?_
 refine CP.seqR ?_
 refine WP.loadB (v := AG [encA .u8 d4, [.int .i64 x7], encA .i64 d5, [.slice a3 n3 c3]]) hB6 (by kernel_rfl) (by kernel_rfl) ?_
 refine WP.storeB (ty := 32) (off := 0) (v := AG [encA .u8 d4, [.int .i64 x7], encA .i64 d5, [.slice a3 n3 c3]]) hB3 [encA .u8 d4, [.int .i64 x7], encA .i64 d5, [.slice a3 n3 c3]] [8, 1, 2, 1] (by kernel_rfl) (by kernel_rfl) (by simp [len_encA]) (by kernel_rfl) [encA .u8 d4, [.int .i64 x7], encA .i64 d5, [.slice a3 n3 c3]] (by kernel_rfl) (.arr (.one rfl (.arr (.one rfl .nil)))) ?_
 intro g13 st13 hB12
 replace hR3 := hR3.mono st13 (WL.no1 (by omega))
 replace hB6 := hB6.mono st13 (WL.no1 (by omega))
 replace tot := tot.trans (st13.up1 (.inr (by omega)))
 clear hB3
 have hB3 := hB12
 clear hB12
 refine WP.stl 1 ?_
 refine WP.dn ?_
 refine NX.then_n ?_
 refine CP.ret ?_
 replace hs := Option.some.inj hs
 simp only [Prod.mk.injEq] at hs
 obtain ⟨rfl, rfl, rfl, rfl, rfl⟩ := hs
 exact NX.fin (v := .tuple #[AG [encA .u8 d4, [.int .i64 x7], encA .i64 d5, [.slice a3 n3 c3]], .int .i64 0]) (Res.two rfl (RV.box (agg := true) (size := 12) (rs := [encA .u8 d4, [.int .i64 x7], encA .i64 d5, [.slice a3 n3 c3]]) hB3 (by kernel_rfl) (by kernel_rfl) (by kernel_rfl) (by kernel_rfl)) (RV.tmp (by kernel_rfl))) tot htL ⟨a3, n3, c3, rfl, hR3⟩
def F.purse_Purse_Hold (d1 : Arr Int 8) (x1 : Int) (d2 : Arr Int 2) (l1 : List S_purse_Held) (d3 : Arr Int 8) (x2 : Int) (x3 : Int) (x4 : Int) : Option ((Arr Int 8) × Int × (Arr Int 2) × (List S_purse_Held) × Int) := ((F.purse_Purse_next d1 x1 d2 l1 d3 x2 x3 x4).bind fun (d4, x5, d5, l2, x6) => (some (d4, x5, d5, l2, x6)))
theorem P.purse_Purse_Hold (g0 : GW) (d1 : Arr Int 8) (x1 : Int) (d2 : Arr Int 2) (l1 : List S_purse_Held) (d3 : Arr Int 8) (x2 : Int) (x3 : Int) (x4 : Int) (a1 : Option Addr) (n1 : Nat) (c1 : Nat) (hR1 : RdS k_S_purse_Held g0 56 a1 n1 c1 l1) (o1 : Arr Int 8) (o2 : Int) (o3 : Arr Int 2) (o4 : List S_purse_Held) (o5 : Int) (hs : F.purse_Purse_Hold d1 x1 d2 l1 d3 x2 x3 x4 = some (o1, o2, o3, o4, o5)) :
  Calls Try.prog 39 #[AG [encA .u8 d1, [.int .i64 x1], encA .i64 d2, [.slice a1 n1 c1]], AG [encA .u8 d3, [.int .i64 x2], [.int .i64 x3], [.int .i64 x4]]] g0.w (Ret NoM g0 fun v g => ∃ (a_1 : Option Addr) (n_1 : Nat) (c_1 : Nat), v = .tuple #[AG [encA .u8 o1, [.int .i64 o2], encA .i64 o3, [.slice a_1 n_1 c_1]], .int .i64 o5] ∧ RdS k_S_purse_Held g 56 a_1 n_1 c_1 o4) := by
 refine calls_of (args := [AG [encA .u8 d1, [.int .i64 x1], encA .i64 d2, [.slice a1 n1 c1]], AG [encA .u8 d3, [.int .i64 x2], [.int .i64 x3], [.int .i64 x4]]]) Try.func39 rfl (0) ?_
 intro t ht htL
 refine ⟨_, rfl, ?_⟩
 refine CP.refr 11 [(0, AG [encA .u8 d1, [.int .i64 x1], encA .i64 d2, [.slice a1 n1 c1]]), (1, AG [encA .u8 d3, [.int .i64 x2], [.int .i64 x3], [.int .i64 x4]])] (by kernel_rfl) (by kernel_rfl) ?_
 intro ds
 have tot : Step (fun l => NoM l ∨ t ≤ l) g0 g0 := Step.refl _ _
 unfold F.purse_Purse_Hold at hs
 refine CP.seqR ?_
 refine WP.alloc (T := 32) (t + 1) [encA .u8 d1, [.int .i64 x1], encA .i64 d2, [.slice a1 n1 c1]] [8, 1, 2, 1] (by kernel_rfl) (by simp [len_encA]) ?_
 intro g1 b1 st1 hB1
 replace hR1 := hR1.mono st1 (fun x => x)
 replace tot := tot.trans st1.pure
 refine WP.alloc (T := 56) (t + 2) [encA .u8 d3, [.int .i64 x2], [.int .i64 x3], [.int .i64 x4]] [8, 1, 1, 1] (by kernel_rfl) (by simp [len_encA]) ?_
 intro g2 b2 st2 hB2
 replace hR1 := hR1.mono st2 (fun x => x)
 replace hB1 := hB1.mono st2 (fun x => x)
 replace tot := tot.trans st2.pure
 refine WP.alloc (T := 32) (t + 3) [encA .u8 (zA 8), [.int .i64 0], encA .i64 (zA 2), [.slice none 0 0]] [8, 1, 2, 1] (by kernel_rfl) (by simp [len_encA]) ?_
 intro g3 b3 st3 hB3
 replace hR1 := hR1.mono st3 (fun x => x)
 replace hB1 := hB1.mono st3 (fun x => x)
 replace hB2 := hB2.mono st3 (fun x => x)
 replace tot := tot.trans st3.pure
 refine WP.stl 1 ?_
 refine WP.dn ?_
 refine NX.then_n ?_
 refine CP.seqR ?_
 refine WP.loadB (v := AG [encA .u8 d1, [.int .i64 x1], encA .i64 d2, [.slice a1 n1 c1]]) hB1 (by kernel_rfl) (by kernel_rfl) ?_
 refine WP.stl 1 ?_
 replace hs := Option.bind_eq_some_iff.1 hs
 obtain ⟨⟨d4, x5, d5, l2, x6⟩, hk1, hs⟩ := hs
 dsimp only at hs
 have hcal1 := P.purse_Purse_next g3 (t + 2) d1 x1 d2 l1 d3 x2 x3 x4 a1 n1 c1 b2 hR1 hB2 (by omega) d4 x5 d5 l2 x6 hk1
 refine WP.callC hcal1 (by kernel_rfl) ?_
 rintro _ g4 st4 ⟨a2, n2, c2, rfl, hR2⟩
 replace hB1 := hB1.mono st4 (fun x => x)
 replace hR1 := hR1.mono st4 (fun x => x)
 replace hB2 := hB2.mono st4 (fun x => x)
 replace hB3 := hB3.mono st4 (fun x => x)
 replace tot := tot.trans st4.pure
 refine WP.stl 2 ?_
 refine WP.storeB (ty := 32) (off := 0) (v := AG [encA .u8 d4, [.int .i64 x5], encA .i64 d5, [.slice a2 n2 c2]]) hB3 [encA .u8 d4, [.int .i64 x5], encA .i64 d5, [.slice a2 n2 c2]] [8, 1, 2, 1] (by kernel_rfl) (by kernel_rfl) (by simp [len_encA]) (by kernel_rfl) [encA .u8 d4, [.int .i64 x5], encA .i64 d5, [.slice a2 n2 c2]] (by kernel_rfl) (.arr (.one rfl (.arr (.one rfl .nil)))) ?_
 intro g5 st5 hB4
 replace hB1 := hB1.mono st5 (WL.no1 (by omega))
 replace hR1 := hR1.mono st5 (WL.no1 (by omega))
 replace hB2 := hB2.mono st5 (WL.no1 (by omega))
 replace hR2 := hR2.mono st5 (WL.no1 (by omega))
 replace tot := tot.trans (st5.up1 (.inr (by omega)))
 clear hB3
 have hB3 := hB4
 clear hB4
 refine WP.stl 1 ?_
 refine WP.dn ?_
 refine NX.then_n ?_
 refine CP.ret ?_
 replace hs := Option.some.inj hs
 simp only [Prod.mk.injEq] at hs
 obtain ⟨rfl, rfl, rfl, rfl, rfl⟩ := hs
 exact NX.fin (v := .tuple #[AG [encA .u8 d4, [.int .i64 x5], encA .i64 d5, [.slice a2 n2 c2]], .int .i64 x6]) (Res.two rfl (RV.box (agg := true) (size := 12) (rs := [encA .u8 d4, [.int .i64 x5], encA .i64 d5, [.slice a2 n2 c2]]) hB3 (by kernel_rfl) (by kernel_rfl) (by kernel_rfl) (by kernel_rfl)) (RV.tmp (by kernel_rfl))) tot htL ⟨a2, n2, c2, rfl, hR2⟩
def N.slices_Delete_purse_Held_purse_Held_0 : List (List Nat) := [[], [], [0, 1], [], [], [3, 4], [0, 1, 2, 3, 4, 5], [0, 1, 2, 3, 4, 5, 6]]
def F.slices_Delete_purse_Held_purse_Held (l1 : List S_purse_Held) (x1 : Int) (x2 : Int) : Option ((List S_purse_Held)) := (if (0 : Int) ≤ x1 ∧ x1 ≤ x2 ∧ x2 ≤ (l1.length : Int) ∧ (l1.length : Int) ≤ (l1.length : Int) then (if (x1 == x2) = true then (some l1) else (if (0 : Int) ≤ 0 ∧ 0 ≤ x1 ∧ x1 ≤ (l1.length : Int) ∧ (l1.length : Int) ≤ (l1.length : Int) then (if (0 : Int) ≤ x2 ∧ x2 ≤ (l1.length : Int) ∧ (l1.length : Int) ≤ (l1.length : Int) ∧ (l1.length : Int) ≤ (l1.length : Int) then (if x1 < x2 then (if (0 : Int) ≤ ((l1.take x1.toNat ++ l1.drop x2.toNat).length : Int) ∧ ((l1.take x1.toNat ++ l1.drop x2.toNat).length : Int) ≤ (l1.length : Int) ∧ (l1.length : Int) ≤ (l1.length : Int) ∧ (l1.length : Int) ≤ (l1.length : Int) then (some (l1.take x1.toNat ++ l1.drop x2.toNat)) else none) else none) else none) else none)) else none)
theorem P.slices_Delete_purse_Held_purse_Held (g0 : GW) (m0 : Nat) (r0 : Nat) (l1 : List S_purse_Held) (x1 : Int) (x2 : Int) (a1 : Option Addr) (n1 : Nat) (c1 : Nat) (hR1 : OwnS k_S_purse_Held g0 m0 56 a1 n1 c1 l1) (hm0 : m0 ≠ 0) (o1 : List S_purse_Held) (hs : F.slices_Delete_purse_Held_purse_Held l1 x1 x2 = some o1) :
  Calls Try.prog 80 #[.slice a1 n1 c1, .int .i64 x1, .int .i64 x2] g0.w (Ret (WL [m0]) g0 fun v g => ∃ (a_1 : Option Addr) (n_1 : Nat) (c_1 : Nat), v = .slice a_1 n_1 c_1 ∧ OwnS k_S_purse_Held g r0 56 a_1 n_1 c_1 o1) := by
 refine calls_of (args := [.slice a1 n1 c1, .int .i64 x1, .int .i64 x2]) Try.func80 rfl (m0 + r0 + 0) ?_
 intro t ht htL
 refine ⟨_, rfl, ?_⟩
 refine CP.refr 33 [(0, .slice a1 n1 c1), (1, .int .i64 x1), (2, .int .i64 x2)] (by kernel_rfl) (by kernel_rfl) ?_
 intro ds
 have tot : Step (fun l => (WL [m0]) l ∨ t ≤ l) g0 g0 := Step.refl _ _
 unfold F.slices_Delete_purse_Held_purse_Held at hs
 refine CP.seqR ?_
 refine WP.stl 1 ?_
 refine WP.dn ?_
 refine NX.then_n ?_
 refine CP.seqR ?_
 refine WP.stl 4 ?_
 refine WP.len (a := a1) (cp := c1) hR1.len (by kernel_rfl) ?_
 by_cases hc1 : (0 : Int) ≤ x1 ∧ x1 ≤ x2 ∧ x2 ≤ (l1.length : Int) ∧ (l1.length : Int) ≤ (l1.length : Int)
 case neg => rw [if_neg hc1] at hs; cases hs
 replace hs := of_if_p hs hc1
 have hcap1 := hR1.cap
 have hcap12 := hR1.len
 refine WP.sliceV (e := 56) (size := 11) (a := a1) (m := n1) (cp := c1) (lo := some (.int .i64 x1)) (hi := some (.int .i64 x2)) (mx := some (.int .i64 (l1.length : Int))) x1 x2 l1.length (by kernel_rfl) (.inr ⟨_, rfl⟩) (.inr ⟨_, rfl⟩) (.inr ⟨_, rfl⟩) (by omega) ?_
 refine WP.dn ?_
 refine NX.then_n ?_
 refine CP.seq ?_
 refine CP.seqR ?_
 refine WP.stl 3 ?_
 refine WP.dn ?_
 refine NX.then_n ?_
 refine CP.cond (b := (x1 == x2)) (by kernel_rfl) (fun h1 => ?_) (fun h1 => ?_)
 ·replace hs := of_if_t hs h1
  refine CP.seqR ?_
  refine WP.stl 2 ?_
  refine WP.dn ?_
  refine NX.then_n ?_
  refine CP.ret ?_
  refine NX.then_r ?_
  obtain ⟨g1, hw1, st1, hnew⟩ := hR1.relab (by omega) r0
  refine NX.regw hw1 ?_
  replace tot := tot.trans (st1.up1 (.inl (by simp [WL])))
  clear hR1
  have hR1 := hnew
  clear hnew
  replace hs := Option.some.inj hs
  obtain rfl := hs
  exact NX.fin (v := .slice a1 n1 c1) (Res.still (by kernel_rfl)) tot htL ⟨a1, n1, c1, rfl, hR1⟩
 replace hs := of_if_f hs h1
 refine CP.skip ?_
 refine NX.then_n ?_
 refine CP.seqR ?_
 refine WP.stl 1 ?_
 refine WP.len (a := a1) (cp := c1) hR1.len (by kernel_rfl) ?_
 refine WP.stl 1 ?_
 refine WP.dn ?_
 refine NX.then_n ?_
 refine CP.refr 33 [(0, .slice a1 n1 c1), (1, .int .i64 x1), (2, .int .i64 x2), (7, .int .i64 (l1.length : Int))] (by kernel_rfl) (by kernel_rfl) ?_
 clear ds
 intro ds
 refine CP.seq ?_
 by_cases hc2 : (0 : Int) ≤ 0 ∧ 0 ≤ x1 ∧ x1 ≤ (l1.length : Int) ∧ (l1.length : Int) ≤ (l1.length : Int)
 case neg => rw [if_neg hc2] at hs; cases hs
 replace hs := of_if_p hs hc2
 by_cases hc3 : (0 : Int) ≤ x2 ∧ x2 ≤ (l1.length : Int) ∧ (l1.length : Int) ≤ (l1.length : Int) ∧ (l1.length : Int) ≤ (l1.length : Int)
 case neg => rw [if_neg hc3] at hs; cases hs
 replace hs := of_if_p hs hc3
 by_cases hc4 : x1 < x2
 case neg => rw [if_neg hc4] at hs; cases hs
 replace hs := of_if_p hs hc4
 refine CP.drawL (by kernel_rfl) [2, 5, 6] N.slices_Delete_purse_Held_purse_Held_0 [⟨none, [0], [], fun l g => OwnS k_S_purse_Held g m0 56 a1 n1 c1 l1⟩, ⟨some 0, [], [0], fun l g => l.getD 0 undef = .slice (slP a1 c1 0 11) (x1.toNat - 0) (c1 - 0)⟩, ⟨some 1, [], [1], fun l g => l.getD 0 undef = .slice (slP a1 c1 x2.toNat 11) (n1 - x2.toNat) (c1 - x2.toNat)⟩, ⟨some 2, [0], [2], fun l g => l.getD 0 undef = .slice a1 (x1.toNat + (n1 - x2.toNat)) c1 ∧ OwnS k_S_purse_Held g m0 56 a1 (x1.toNat + (n1 - x2.toNat)) c1 (l1.take x1.toNat ++ l1.drop x2.toNat)⟩] [[], [], [0]] [m0] [0, 1, 3, 4] [7] (by kernel_rfl) (by simp <;> omega) (by simp) ⟨fun _ _ _ _ st h0 hl hj hR1 => (hR1.mono st h0 (hj 0 (by simp) _ rfl)), fun _ _ _ _ st h0 hl hj e0 => e0, fun _ _ _ _ st h0 hl hj e1 => e1, fun _ _ _ _ st h0 hl hj ⟨e2, hR2⟩ => ⟨e2, (hR2.mono st h0 (hj 0 (by simp) _ rfl))⟩, tv⟩ ⟨hR1, tv, tv, tv, tv⟩ (by kernel_rfl) (fun vs => by kernel_rfl) ?_ ?_ ?_
 ·intro j hj
  have hq : j = 0 := by have h : j < 1 := hj; omega
  rcases hq with rfl
  ·intro vs gq stq hl hf
   obtain ⟨v0, v1, v2, rfl⟩ := len_k3 hl
   obtain ⟨e2, hR2⟩ := (show v2 = .slice a1 (x1.toNat + (n1 - x2.toNat)) c1 ∧ OwnS k_S_purse_Held gq m0 56 a1 (x1.toNat + (n1 - x2.toNat)) c1 (l1.take x1.toNat ++ l1.drop x2.toNat) from hf _ (memI 3 rfl) (by kernel_rfl))
   subst e2
   show Option.isSome _ = true
   kernel_rfl
 ·intro j hj
  have hq : j = 0 ∨ j = 1 ∨ j = 2 := by have h : j < 3 := hj; omega
  rcases hq with rfl | rfl | rfl
  ·intro vs gq stq hl hf
   obtain ⟨v0, v1, v2, rfl⟩ := len_k3 hl
   have hR1 := (show OwnS k_S_purse_Held gq m0 56 a1 n1 c1 l1 from hf _ (memI 0 rfl) (by kernel_rfl))
   have hcap2 := hR1.cap
   have hcap22 := hR1.len
   refine WP.sliceV (e := 56) (size := 11) (a := a1) (m := n1) (cp := c1) (lo := none) (hi := some (.int .i64 x1)) (mx := none) (0 : Int) x1 c1 (by kernel_rfl) (.inl ⟨rfl, rfl⟩) (.inr ⟨_, rfl⟩) (.inl ⟨rfl, rfl⟩) (by omega) ?_
   refine WP.dn (Shown.ok (v := .slice (slP a1 c1 0 11) (x1.toNat - 0) (c1 - 0)) (by kernel_rfl) (Step.refl _ _) ?_)
   exact ⟨tv, rfl, tv, tv, tv⟩
  ·intro vs gq stq hl hf
   obtain ⟨v0, v1, v2, rfl⟩ := len_k3 hl
   have hR1 := (show OwnS k_S_purse_Held gq m0 56 a1 n1 c1 l1 from hf _ (memI 0 rfl) (by kernel_rfl))
   have hcap3 := hR1.cap
   have hcap32 := hR1.len
   refine WP.sliceV (e := 56) (size := 11) (a := a1) (m := n1) (cp := c1) (lo := some (.int .i64 x2)) (hi := none) (mx := none) x2 (n1 : Int) c1 (by kernel_rfl) (.inr ⟨_, rfl⟩) (.inl ⟨rfl, rfl, rfl⟩) (.inl ⟨rfl, rfl⟩) (by omega) ?_
   refine WP.dn (Shown.ok (v := .slice (slP a1 c1 x2.toNat 11) (n1 - x2.toNat) (c1 - x2.toNat)) (by kernel_rfl) (Step.refl _ _) ?_)
   exact ⟨tv, tv, rfl, tv, tv⟩
  ·intro vs gq stq hl hf
   obtain ⟨v0, v1, v2, rfl⟩ := len_k3 hl
   have hR1 := (show OwnS k_S_purse_Held gq m0 56 a1 n1 c1 l1 from hf _ (memI 0 rfl) (by kernel_rfl))
   have e0 := (show v0 = .slice (slP a1 c1 0 11) (x1.toNat - 0) (c1 - 0) from hf _ (memI 1 rfl) (by kernel_rfl))
   subst e0
   have e1 := (show v1 = .slice (slP a1 c1 x2.toNat 11) (n1 - x2.toNat) (c1 - x2.toNat) from hf _ (memI 2 rfl) (by kernel_rfl))
   subst e1
   refine WP.appendDel (kd := k_S_purse_Held) (t := 30) (e := 56) (bytes := 32) hR1 (by omega) (i := x1.toNat) (j := x2.toNat) (by omega) (by omega) (by kernel_rfl) (by kernel_rfl) ?_
   intro g2 st2 hR2
   refine WP.dn (Shown.o (v := .slice a1 (x1.toNat + (n1 - x2.toNat)) c1) st2 ?_)
   exact ⟨tv, tv, tv, ⟨rfl, hR2⟩, tv⟩
 intro vs g3 st3 hl hf
 obtain ⟨v0, v1, v2, rfl⟩ := len_k3 hl
 obtain ⟨e2, hR2⟩ := (show v2 = .slice a1 (x1.toNat + (n1 - x2.toNat)) c1 ∧ OwnS k_S_purse_Held g3 m0 56 a1 (x1.toNat + (n1 - x2.toNat)) c1 (l1.take x1.toNat ++ l1.drop x2.toNat) from hf _ (memI 3 rfl) (by kernel_rfl))
 subst e2
 replace tot := tot.trans (st3.up1 (.inl (by simp [WL])))
 refine NX.then_n ?_
 refine CP.refr 33 [(0, .slice a1 (x1.toNat + (n1 - x2.toNat)) c1), (7, .int .i64 (l1.length : Int))] (by kernel_rfl) (by kernel_rfl) ?_
 clear ds
 intro ds
 refine CP.seqR ?_
 refine WP.stl 2 ?_
 refine WP.len (a := a1) (cp := c1) hR2.len (by kernel_rfl) ?_
 refine WP.stl 1 ?_
 by_cases hc5 : (0 : Int) ≤ ((l1.take x1.toNat ++ l1.drop x2.toNat).length : Int) ∧ ((l1.take x1.toNat ++ l1.drop x2.toNat).length : Int) ≤ (l1.length : Int) ∧ (l1.length : Int) ≤ (l1.length : Int) ∧ (l1.length : Int) ≤ (l1.length : Int)
 case neg => rw [if_neg hc5] at hs; cases hs
 replace hs := of_if_p hs hc5
 have hcap4 := hR2.cap
 have hcap42 := hR2.len
 refine WP.sliceV (e := 56) (size := 11) (a := a1) (m := (x1.toNat + (n1 - x2.toNat))) (cp := c1) (lo := some (.int .i64 ((l1.take x1.toNat ++ l1.drop x2.toNat).length : Int))) (hi := some (.int .i64 (l1.length : Int))) (mx := none) ((l1.take x1.toNat ++ l1.drop x2.toNat).length : Int) (l1.length : Int) c1 (by kernel_rfl) (.inr ⟨_, rfl⟩) (.inr ⟨_, rfl⟩) (.inl ⟨rfl, rfl⟩) (by omega) ?_
 refine WP.clearT (kd := k_S_purse_Held) (t := 30) (e := 56) (bytes := 32) hR2 (by omega) (i := ((l1.take x1.toNat ++ l1.drop x2.toNat).length : Int).toNat) (j := (l1.length : Int).toNat) (by omega) (by omega) (by kernel_rfl) (by kernel_rfl) (by intro z hz; cases hz; kernel_rfl) ?_
 intro g4 st4 hO1
 replace tot := tot.trans (st4.up1 (.inl (by simp [WL])))
 clear hR2
 have hR2 : OwnS k_S_purse_Held g4 m0 56 a1 (x1.toNat + (n1 - x2.toNat)) c1 (l1.take x1.toNat ++ l1.drop x2.toNat) := hO1
 clear hO1
 refine WP.dn ?_
 refine NX.then_n ?_
 refine CP.seqR ?_
 refine WP.stl 2 ?_
 refine WP.dn ?_
 refine NX.then_n ?_
 refine CP.ret ?_
 obtain ⟨g5, hw2, st5, hnew⟩ := hR2.relab (by omega) r0
 refine NX.regw hw2 ?_
 replace tot := tot.trans (st5.up1 (.inl (by simp [WL])))
 clear hR2
 have hR2 := hnew
 clear hnew
 replace hs := Option.some.inj hs
 obtain rfl := hs
 exact NX.fin (v := .slice a1 (x1.toNat + (n1 - x2.toNat)) c1) (Res.still (by kernel_rfl)) tot htL ⟨a1, (x1.toNat + (n1 - x2.toNat)), c1, rfl, hR2⟩
def N.purse_Purse_part_0 : List (List Nat) := [[], [], [1], [1, 2], [0], [0, 4], [0, 1, 2, 3, 4, 5], [0, 1, 2, 3, 4, 5, 6], [], [0, 1, 2, 3, 4, 5, 6, 7, 8], [0], [0, 10], [0, 1, 2, 3, 4, 5, 6, 7, 8, 9, 10, 11], [0, 1, 2, 3, 4, 5, 6, 7, 8, 9, 10, 11, 12]]
def N.purse_Purse_part_1 : List (List Nat) := [[], [], [1], [0], [0, 3], [0, 1, 2, 3, 4], [0, 1, 2, 3, 4, 5], [], [7], [], [7, 8, 9], [0, 1, 2, 3, 4, 5, 6, 7, 8, 9, 10], [0], [0, 12], [0, 1, 2, 3, 4, 5, 6, 7, 8, 9, 10, 11, 12, 13], [0, 1, 2, 3, 4, 5, 6, 7, 8, 9, 10, 11, 12, 13, 14]]
def F.purse_Purse_part (d1 : Arr Int 8) (x1 : Int) (d2 : Arr Int 2) (l1 : List S_purse_Held) (x2 : Int) (x3 : Int) : Option ((Arr Int 8) × Int × (Arr Int 2) × (List S_purse_Held)) := (if (0 : Int) ≤ x2 ∧ x2 < (l1.length : Int) then ((F.slices_Delete_purse_Held_purse_Held l1 x2 (IntKind.i64.wrap (x2 + 1))).bind fun l2 => (if (0 : Int) ≤ (IntKind.i64.wrap (1 - ((getI l1 x2).f3))) ∧ (IntKind.i64.wrap (1 - ((getI l1 x2).f3))) < (2 : Int) then (if (0 : Int) ≤ (IntKind.i64.wrap (1 - ((getI l1 x2).f3))) ∧ (IntKind.i64.wrap (1 - ((getI l1 x2).f3))) < (2 : Int) then (if (0 : Int) ≤ (getI l1 x2).f3 ∧ (getI l1 x2).f3 < (2 : Int) then (if (0 : Int) ≤ (getI l1 x2).f3 ∧ (getI l1 x2).f3 < (2 : Int) then (some (d1, x1, (aset (aset d2 (IntKind.i64.wrap (1 - ((getI l1 x2).f3))) (IntKind.i64.wrap ((aget d2 (IntKind.i64.wrap (1 - ((getI l1 x2).f3)))) + x3))) ((getI l1 x2).f3) (IntKind.i64.wrap ((aget (aset d2 (IntKind.i64.wrap (1 - ((getI l1 x2).f3))) (IntKind.i64.wrap ((aget d2 (IntKind.i64.wrap (1 - ((getI l1 x2).f3)))) + x3))) ((getI l1 x2).f3)) + (IntKind.i64.wrap (((getI l1 x2).f2) - x3))))), l2)) else none) else none) else none) else none)) else none)
theorem P.purse_Purse_part (g0 : GW) (m0 : Nat) (m1 : Nat) (d1 : Arr Int 8) (x1 : Int) (d2 : Arr Int 2) (l1 : List S_purse_Held) (x2 : Int) (x3 : Int) (a1 : Option Addr) (n1 : Nat) (c1 : Nat) (b1 : Nat) (hR1 : OwnS k_S_purse_Held g0 m1 56 a1 n1 c1 l1) (hB1 : Box g0 m0 b1 32 [encA .u8 d1, [.int .i64 x1], encA .i64 d2, [.slice a1 n1 c1]] [8, 1, 2, 1]) (hm1_0 : m1 ≠ m0) (hm0 : m0 ≠ 0) (hm1 : m1 ≠ 0) (o1 : (Arr Int 8)) (o2 : Int) (o3 : (Arr Int 2)) (o4 : (List S_purse_Held)) (hs : F.purse_Purse_part d1 x1 d2 l1 x2 x3 = some (o1, o2, o3, o4)) :
  Calls Try.prog 54 #[.pointer (some ⟨b1, 0, none⟩), .int .i64 x2, .int .i64 x3] g0.w (Ret (WL [m0, m1]) g0 fun v g => ∃ (a_1 : Option Addr) (n_1 : Nat) (c_1 : Nat), v = .tuple #[] ∧ RdS k_S_purse_Held g 56 a_1 n_1 c_1 o4 ∧ Box g m0 b1 32 [encA .u8 o1, [.int .i64 o2], encA .i64 o3, [.slice a_1 n_1 c_1]] [8, 1, 2, 1]) := by
 refine calls_of (args := [.pointer (some ⟨b1, 0, none⟩), .int .i64 x2, .int .i64 x3]) Try.func54 rfl (m0 + m1 + 0) ?_
 intro t ht htL
 refine ⟨_, rfl, ?_⟩
 refine CP.refr 53 [(0, .pointer (some ⟨b1, 0, none⟩)), (1, .int .i64 x2), (2, .int .i64 x3)] (by kernel_rfl) (by kernel_rfl) ?_
 intro ds
 have tot : Step (fun l => (WL [m0, m1]) l ∨ t ≤ l) g0 g0 := Step.refl _ _
 unfold F.purse_Purse_part at hs
 refine CP.seqR ?_
 refine WP.stl 3 ?_
 refine WP.loadB (v := .slice a1 n1 c1) hB1 (by kernel_rfl) (by kernel_rfl) ?_
 refine WP.stl 1 ?_
 by_cases hc1 : (0 : Int) ≤ x2 ∧ x2 < (l1.length : Int)
 case neg => rw [if_neg hc1] at hs; cases hs
 replace hs := of_if_p hs hc1
 obtain ⟨b2, u1, ha1⟩ := hR1.at hc1
 refine WP.indexA (t := 30) (e := 56) (sz := 11) (cap := c1) (k := .i64) (i := x2) hR1.len ha1 (by kernel_rfl) (by kernel_rfl) hc1 ?_
 obtain ⟨cs1, hcR1, hcV1⟩ := hR1.src.view (getI_some hc1) ha1
 replace hcR1 := k_S_purse_Held.opn hcR1
 refine WP.loadV [encA .u8 ((getI l1 x2).f1), [.int .i64 ((getI l1 x2).f2)], [.int .i64 ((getI l1 x2).f3)], [.int .i64 ((getI l1 x2).f4)]] [8, 1, 1, 1] hcV1 hcR1 (by simp [len_encA]) (f := 0) (ty := 56) (agg := true) (size := 11) (rs := [encA .u8 ((getI l1 x2).f1), [.int .i64 ((getI l1 x2).f2)], [.int .i64 ((getI l1 x2).f3)], [.int .i64 ((getI l1 x2).f4)]]) (v := AG [encA .u8 ((getI l1 x2).f1), [.int .i64 ((getI l1 x2).f2)], [.int .i64 ((getI l1 x2).f3)], [.int .i64 ((getI l1 x2).f4)]]) (by kernel_rfl) (by kernel_rfl) (by kernel_rfl) (by kernel_rfl) ?_
 refine WP.alloc (T := 56) (t + 1) [encA .u8 (zA 8), [.int .i64 0], [.int .i64 0], [.int .i64 0]] [8, 1, 1, 1] (by kernel_rfl) (by simp [len_encA]) ?_
 intro g1 b3 st1 hB2
 replace hB1 := hB1.mono st1 (fun x => x)
 replace hR1 := hR1.mono st1 (fun x => x) (fun x => x)
 replace tot := tot.trans st1.pure
 refine WP.storeB (ty := 56) (off := 0) (v := AG [encA .u8 ((getI l1 x2).f1), [.int .i64 ((getI l1 x2).f2)], [.int .i64 ((getI l1 x2).f3)], [.int .i64 ((getI l1 x2).f4)]]) hB2 [encA .u8 ((getI l1 x2).f1), [.int .i64 ((getI l1 x2).f2)], [.int .i64 ((getI l1 x2).f3)], [.int .i64 ((getI l1 x2).f4)]] [8, 1, 1, 1] (by kernel_rfl) (by kernel_rfl) (by simp [len_encA]) (by kernel_rfl) [encA .u8 ((getI l1 x2).f1), [.int .i64 ((getI l1 x2).f2)], [.int .i64 ((getI l1 x2).f3)], [.int .i64 ((getI l1 x2).f4)]] (by kernel_rfl) (.arr (.one rfl (.one rfl (.one rfl .nil)))) ?_
 intro g2 st2 hB3
 replace hB1 := hB1.mono st2 (WL.no1 (by omega))
 replace hR1 := hR1.mono st2 (WL.no1 (by omega)) (WL.no1 (by omega))
 replace tot := tot.trans (st2.up1 (.inr (by omega)))
 clear hB2
 have hB2 := hB3
 clear hB3
 refine WP.dn ?_
 refine NX.then_n ?_
 refine CP.seqR ?_
 refine WP.stl 4 ?_
 refine WP.loadB (v := .slice a1 n1 c1) hB1 (by kernel_rfl) (by kernel_rfl) ?_
 refine WP.stl 3 ?_
 replace hs := Option.bind_eq_some_iff.1 hs
 obtain ⟨l2, hk1, hs⟩ := hs
 have hcal1 := P.slices_Delete_purse_Held_purse_Held g2 m1 (t + 2) l1 x2 (IntKind.i64.wrap (x2 + 1)) a1 n1 c1 hR1 (by omega) l2 hk1
 refine WP.callC hcal1 (by kernel_rfl) ?_
 rintro _ g3 st3 ⟨a2, n2, c2, rfl, hR2⟩
 replace hB1 := hB1.mono st3 (WL.no1 (by omega))
 replace hB2 := hB2.mono st3 (WL.no1 (by omega))
 replace tot := tot.trans (st3.up1 (.inl (by simp [WL])))
 refine WP.stl 2 ?_
 refine WP.storeB (ty := 30) (off := 11) (v := .slice a2 n2 c2) hB1 [[.slice a2 n2 c2]] [1] (by kernel_rfl) (by kernel_rfl) rfl (by kernel_rfl) [encA .u8 d1, [.int .i64 x1], encA .i64 d2, [.slice a2 n2 c2]] (by kernel_rfl) (.one rfl .nil) ?_
 intro g4 st4 hB4
 replace hR2 := hR2.mono st4 (WL.no1 (by omega)) (WL.no1 (by omega))
 replace hB2 := hB2.mono st4 (WL.no1 (by omega))
 replace tot := tot.trans (st4.up1 (.inl (by simp [WL])))
 clear hB1
 have hB1 := hB4
 clear hB4
 refine WP.dn ?_
 refine NX.then_n ?_
 refine CP.refr 53 [(0, .pointer (some ⟨b1, 0, none⟩)), (2, .int .i64 x3), (6, .pointer (some ⟨b3, 0, none⟩))] (by kernel_rfl) (by kernel_rfl) ?_
 clear ds
 intro ds
 refine CP.seq ?_
 by_cases hc2 : (0 : Int) ≤ (IntKind.i64.wrap (1 - ((getI l1 x2).f3))) ∧ (IntKind.i64.wrap (1 - ((getI l1 x2).f3))) < (2 : Int)
 case neg => rw [if_neg hc2] at hs; cases hs
 replace hs := of_if_p hs hc2
 by_cases hc3 : (0 : Int) ≤ (IntKind.i64.wrap (1 - ((getI l1 x2).f3))) ∧ (IntKind.i64.wrap (1 - ((getI l1 x2).f3))) < (2 : Int)
 case neg => rw [if_neg hc3] at hs; cases hs
 replace hs := of_if_p hs hc3
 refine CP.drawL (by kernel_rfl) [2, 6, 7, 12, 13] N.purse_Purse_part_0 [⟨none, [0], [], fun l g => Box g m0 b1 32 [encA .u8 d1, [.int .i64 x1], encA .i64 d2, [.slice a2 n2 c2]] [8, 1, 2, 1]⟩, ⟨none, [], [], fun l g => Box g (t + 1) b3 56 [encA .u8 ((getI l1 x2).f1), [.int .i64 ((getI l1 x2).f2)], [.int .i64 ((getI l1 x2).f3)], [.int .i64 ((getI l1 x2).f4)]] [8, 1, 1, 1]⟩, ⟨some 0, [], [0], fun l g => l.getD 0 undef = .int .i64 ((getI l1 x2).f3)⟩, ⟨some 1, [], [1], fun l g => l.getD 0 undef = .pointer (some ⟨b1, 9 + (IntKind.i64.wrap (1 - ((getI l1 x2).f3))).toNat * 1, none⟩)⟩, ⟨some 2, [], [2], fun l g => l.getD 0 undef = .int .i64 (aget d2 (IntKind.i64.wrap (1 - ((getI l1 x2).f3))))⟩, ⟨some 3, [], [3], fun l g => l.getD 0 undef = .pointer (some ⟨b1, 9 + (IntKind.i64.wrap (1 - ((getI l1 x2).f3))).toNat * 1, none⟩)⟩, ⟨some 4, [0], [], fun l g => Box g m0 b1 32 [encA .u8 d1, [.int .i64 x1], encA .i64 (aset d2 (IntKind.i64.wrap (1 - ((getI l1 x2).f3))) (IntKind.i64.wrap ((aget d2 (IntKind.i64.wrap (1 - ((getI l1 x2).f3)))) + x3))), [.slice a2 n2 c2]] [8, 1, 2, 1]⟩] [[], [], [], [], [0]] [m0] [0, 1, 4, 5, 8, 10, 11] [3, 9] (by kernel_rfl) (by simp <;> omega) (by simp) ⟨fun _ _ _ _ st h0 hl hj hB1 => (hB1.mono st (hj 0 (by simp) _ rfl)), fun _ _ _ _ st h0 hl hj hB2 => (hB2.mono st (fun h => absurd (hl _ h) (by simp <;> omega))), fun _ _ _ _ st h0 hl hj e0 => e0, fun _ _ _ _ st h0 hl hj e1 => e1, fun _ _ _ _ st h0 hl hj e2 => e2, fun _ _ _ _ st h0 hl hj e3 => e3, fun _ _ _ _ st h0 hl hj hB1 => (hB1.mono st (hj 0 (by simp) _ rfl)), tv⟩ ⟨hB1, hB2, tv, tv, tv, tv, tv, tv⟩ (by kernel_rfl) (fun vs => by kernel_rfl) ?_ ?_ ?_
 ·intro j hj
  have hq : j = 0 ∨ j = 1 := by have h : j < 2 := hj; omega
  rcases hq with rfl | rfl
  ·intro vs gq stq hl hf
   obtain ⟨v0, v1, v2, v3, v4, rfl⟩ := len_k5 hl
   have e0 := (show v0 = .int .i64 ((getI l1 x2).f3) from hf _ (memI 2 rfl) (by kernel_rfl))
   subst e0
   show Option.isSome _ = true
   kernel_rfl
  ·intro vs gq stq hl hf
   obtain ⟨v0, v1, v2, v3, v4, rfl⟩ := len_k5 hl
   have e2 := (show v2 = .int .i64 (aget d2 (IntKind.i64.wrap (1 - ((getI l1 x2).f3)))) from hf _ (memI 4 rfl) (by kernel_rfl))
   subst e2
   show Option.isSome _ = true
   kernel_rfl
 ·intro j hj
  have hq : j = 0 ∨ j = 1 ∨ j = 2 ∨ j = 3 ∨ j = 4 := by have h : j < 5 := hj; omega
  rcases hq with rfl | rfl | rfl | rfl | rfl
  ·intro vs gq stq hl hf
   obtain ⟨v0, v1, v2, v3, v4, rfl⟩ := len_k5 hl
   have hB2 := (show Box gq (t + 1) b3 56 [encA .u8 ((getI l1 x2).f1), [.int .i64 ((getI l1 x2).f2)], [.int .i64 ((getI l1 x2).f3)], [.int .i64 ((getI l1 x2).f4)]] [8, 1, 1, 1] from hf _ (memI 1 rfl) (by kernel_rfl))
   refine WP.loadB (v := .int .i64 ((getI l1 x2).f3)) hB2 (by kernel_rfl) (by kernel_rfl) ?_
   refine WP.dn (Shown.ok (v := .int .i64 ((getI l1 x2).f3)) (by kernel_rfl) (Step.refl _ _) ?_)
   exact ⟨tv, tv, rfl, tv, tv, tv, tv, tv⟩
  ·intro vs gq stq hl hf
   obtain ⟨v0, v1, v2, v3, v4, rfl⟩ := len_k5 hl
   have hB1 := (show Box gq m0 b1 32 [encA .u8 d1, [.int .i64 x1], encA .i64 d2, [.slice a2 n2 c2]] [8, 1, 2, 1] from hf _ (memI 0 rfl) (by kernel_rfl))
   have e0 := (show v0 = .int .i64 ((getI l1 x2).f3) from hf _ (memI 2 rfl) (by kernel_rfl))
   subst e0
   refine WP.ixBox (t := 23) (e := 3) (m := 2) (size := 1) (b := b1) (off := 9) (k := .i64) (i := (IntKind.i64.wrap (1 - ((getI l1 x2).f3)))) (by kernel_rfl) (by kernel_rfl) hc2 ?_
   refine WP.dn (Shown.ok (v := .pointer (some ⟨b1, 9 + (IntKind.i64.wrap (1 - ((getI l1 x2).f3))).toNat * 1, none⟩)) (by kernel_rfl) (Step.refl _ _) ?_)
   exact ⟨tv, tv, tv, rfl, tv, tv, tv, tv⟩
  ·intro vs gq stq hl hf
   obtain ⟨v0, v1, v2, v3, v4, rfl⟩ := len_k5 hl
   have hB1 := (show Box gq m0 b1 32 [encA .u8 d1, [.int .i64 x1], encA .i64 d2, [.slice a2 n2 c2]] [8, 1, 2, 1] from hf _ (memI 0 rfl) (by kernel_rfl))
   have e1 := (show v1 = .pointer (some ⟨b1, 9 + (IntKind.i64.wrap (1 - ((getI l1 x2).f3))).toNat * 1, none⟩) from hf _ (memI 3 rfl) (by kernel_rfl))
   subst e1
   refine WP.loadE (ty := 3) (o := 9) (m := 2) (k := .i64) (d := d2) (i := (IntKind.i64.wrap (1 - ((getI l1 x2).f3)))) hB1 (by kernel_rfl) hc2 (by kernel_rfl) (by kernel_rfl) ?_
   refine WP.dn (Shown.ok (v := .int .i64 (aget d2 (IntKind.i64.wrap (1 - ((getI l1 x2).f3))))) (by kernel_rfl) (Step.refl _ _) ?_)
   exact ⟨tv, tv, tv, tv, rfl, tv, tv, tv⟩
  ·intro vs gq stq hl hf
   obtain ⟨v0, v1, v2, v3, v4, rfl⟩ := len_k5 hl
   have hB1 := (show Box gq m0 b1 32 [encA .u8 d1, [.int .i64 x1], encA .i64 d2, [.slice a2 n2 c2]] [8, 1, 2, 1] from hf _ (memI 0 rfl) (by kernel_rfl))
   have e0 := (show v0 = .int .i64 ((getI l1 x2).f3) from hf _ (memI 2 rfl) (by kernel_rfl))
   subst e0
   refine WP.ixBox (t := 23) (e := 3) (m := 2) (size := 1) (b := b1) (off := 9) (k := .i64) (i := (IntKind.i64.wrap (1 - ((getI l1 x2).f3)))) (by kernel_rfl) (by kernel_rfl) hc3 ?_
   refine WP.dn (Shown.ok (v := .pointer (some ⟨b1, 9 + (IntKind.i64.wrap (1 - ((getI l1 x2).f3))).toNat * 1, none⟩)) (by kernel_rfl) (Step.refl _ _) ?_)
   exact ⟨tv, tv, tv, tv, tv, rfl, tv, tv⟩
  ·intro vs gq stq hl hf
   obtain ⟨v0, v1, v2, v3, v4, rfl⟩ := len_k5 hl
   have hB1 := (show Box gq m0 b1 32 [encA .u8 d1, [.int .i64 x1], encA .i64 d2, [.slice a2 n2 c2]] [8, 1, 2, 1] from hf _ (memI 0 rfl) (by kernel_rfl))
   have e2 := (show v2 = .int .i64 (aget d2 (IntKind.i64.wrap (1 - ((getI l1 x2).f3)))) from hf _ (memI 4 rfl) (by kernel_rfl))
   subst e2
   have e3 := (show v3 = .pointer (some ⟨b1, 9 + (IntKind.i64.wrap (1 - ((getI l1 x2).f3))).toNat * 1, none⟩) from hf _ (memI 5 rfl) (by kernel_rfl))
   subst e3
   refine WP.storeE (ty := 3) (o := 9) (m := 2) (k := .i64) (d := d2) (i := (IntKind.i64.wrap (1 - ((getI l1 x2).f3)))) (x := (IntKind.i64.wrap ((aget d2 (IntKind.i64.wrap (1 - ((getI l1 x2).f3)))) + x3))) hB1 (by kernel_rfl) hc3 (by kernel_rfl) (by kernel_rfl) [encA .u8 d1, [.int .i64 x1], encA .i64 (aset d2 (IntKind.i64.wrap (1 - ((getI l1 x2).f3))) (IntKind.i64.wrap ((aget d2 (IntKind.i64.wrap (1 - ((getI l1 x2).f3)))) + x3))), [.slice a2 n2 c2]] (by kernel_rfl) ?_
   intro g5 st5 hB5
   refine WP.dn (Shown.o (v := undef) st5 ?_)
   exact ⟨tv, tv, tv, tv, tv, tv, hB5, tv⟩
 intro vs g6 st6 hl hf
 obtain ⟨v0, v1, v2, v3, v4, rfl⟩ := len_k5 hl
 have hB1 := (show Box g6 m0 b1 32 [encA .u8 d1, [.int .i64 x1], encA .i64 (aset d2 (IntKind.i64.wrap (1 - ((getI l1 x2).f3))) (IntKind.i64.wrap ((aget d2 (IntKind.i64.wrap (1 - ((getI l1 x2).f3)))) + x3))), [.slice a2 n2 c2]] [8, 1, 2, 1] from hf _ (memI 6 rfl) (by kernel_rfl))
 replace hR2 := hR2.mono st6 (WL.no1 (by omega)) (WL.no1 (by omega))
 replace hB2 := hB2.mono st6 (WL.no1 (by omega))
 replace tot := tot.trans (st6.up1 (.inl (by simp [WL])))
 refine NX.then_n ?_
 refine CP.refr 53 [(0, .pointer (some ⟨b1, 0, none⟩)), (2, .int .i64 x3), (6, .pointer (some ⟨b3, 0, none⟩))] (by kernel_rfl) (by kernel_rfl) ?_
 clear ds
 intro ds
 by_cases hc4 : (0 : Int) ≤ (getI l1 x2).f3 ∧ (getI l1 x2).f3 < (2 : Int)
 case neg => rw [if_neg hc4] at hs; cases hs
 replace hs := of_if_p hs hc4
 by_cases hc5 : (0 : Int) ≤ (getI l1 x2).f3 ∧ (getI l1 x2).f3 < (2 : Int)
 case neg => rw [if_neg hc5] at hs; cases hs
 replace hs := of_if_p hs hc5
 refine CP.drawL (by kernel_rfl) [2, 5, 6, 8, 14, 15] N.purse_Purse_part_1 [⟨none, [0], [], fun l g => Box g m0 b1 32 [encA .u8 d1, [.int .i64 x1], encA .i64 (aset d2 (IntKind.i64.wrap (1 - ((getI l1 x2).f3))) (IntKind.i64.wrap ((aget d2 (IntKind.i64.wrap (1 - ((getI l1 x2).f3)))) + x3))), [.slice a2 n2 c2]] [8, 1, 2, 1]⟩, ⟨none, [], [], fun l g => Box g (t + 1) b3 56 [encA .u8 ((getI l1 x2).f1), [.int .i64 ((getI l1 x2).f2)], [.int .i64 ((getI l1 x2).f3)], [.int .i64 ((getI l1 x2).f4)]] [8, 1, 1, 1]⟩, ⟨some 0, [], [0], fun l g => l.getD 0 undef = .int .i64 ((getI l1 x2).f3)⟩, ⟨some 1, [], [1], fun l g => l.getD 0 undef = .pointer (some ⟨b1, 9 + ((getI l1 x2).f3).toNat * 1, none⟩)⟩, ⟨some 2, [], [2], fun l g => l.getD 0 undef = .int .i64 (aget (aset d2 (IntKind.i64.wrap (1 - ((getI l1 x2).f3))) (IntKind.i64.wrap ((aget d2 (IntKind.i64.wrap (1 - ((getI l1 x2).f3)))) + x3))) ((getI l1 x2).f3))⟩, ⟨some 3, [], [3], fun l g => l.getD 0 undef = .int .i64 ((getI l1 x2).f2)⟩, ⟨some 4, [], [4], fun l g => l.getD 0 undef = .pointer (some ⟨b1, 9 + ((getI l1 x2).f3).toNat * 1, none⟩)⟩, ⟨some 5, [0], [], fun l g => Box g m0 b1 32 [encA .u8 d1, [.int .i64 x1], encA .i64 (aset (aset d2 (IntKind.i64.wrap (1 - ((getI l1 x2).f3))) (IntKind.i64.wrap ((aget d2 (IntKind.i64.wrap (1 - ((getI l1 x2).f3)))) + x3))) ((getI l1 x2).f3) (IntKind.i64.wrap ((aget (aset d2 (IntKind.i64.wrap (1 - ((getI l1 x2).f3))) (IntKind.i64.wrap ((aget d2 (IntKind.i64.wrap (1 - ((getI l1 x2).f3)))) + x3))) ((getI l1 x2).f3)) + (IntKind.i64.wrap (((getI l1 x2).f2) - x3))))), [.slice a2 n2 c2]] [8, 1, 2, 1]⟩] [[], [], [], [], [], [0]] [m0] [0, 1, 3, 4, 7, 9, 12, 13] [10, 11] (by kernel_rfl) (by simp <;> omega) (by simp) ⟨fun _ _ _ _ st h0 hl hj hB1 => (hB1.mono st (hj 0 (by simp) _ rfl)), fun _ _ _ _ st h0 hl hj hB2 => (hB2.mono st (fun h => absurd (hl _ h) (by simp <;> omega))), fun _ _ _ _ st h0 hl hj e0 => e0, fun _ _ _ _ st h0 hl hj e1 => e1, fun _ _ _ _ st h0 hl hj e2 => e2, fun _ _ _ _ st h0 hl hj e3 => e3, fun _ _ _ _ st h0 hl hj e4 => e4, fun _ _ _ _ st h0 hl hj hB1 => (hB1.mono st (hj 0 (by simp) _ rfl)), tv⟩ ⟨hB1, hB2, tv, tv, tv, tv, tv, tv, tv⟩ (by kernel_rfl) (fun vs => by kernel_rfl) ?_ ?_ ?_
 ·intro j hj
  have hq : j = 0 ∨ j = 1 := by have h : j < 2 := hj; omega
  rcases hq with rfl | rfl
  ·intro vs gq stq hl hf
   obtain ⟨v0, v1, v2, v3, v4, v5, rfl⟩ := len_k6 hl
   have e3 := (show v3 = .int .i64 ((getI l1 x2).f2) from hf _ (memI 5 rfl) (by kernel_rfl))
   subst e3
   show Option.isSome _ = true
   kernel_rfl
  ·intro vs gq stq hl hf
   obtain ⟨v0, v1, v2, v3, v4, v5, rfl⟩ := len_k6 hl
   have e2 := (show v2 = .int .i64 (aget (aset d2 (IntKind.i64.wrap (1 - ((getI l1 x2).f3))) (IntKind.i64.wrap ((aget d2 (IntKind.i64.wrap (1 - ((getI l1 x2).f3)))) + x3))) ((getI l1 x2).f3)) from hf _ (memI 4 rfl) (by kernel_rfl))
   subst e2
   have e3 := (show v3 = .int .i64 ((getI l1 x2).f2) from hf _ (memI 5 rfl) (by kernel_rfl))
   subst e3
   show Option.isSome _ = true
   kernel_rfl
 ·intro j hj
  have hq : j = 0 ∨ j = 1 ∨ j = 2 ∨ j = 3 ∨ j = 4 ∨ j = 5 := by have h : j < 6 := hj; omega
  rcases hq with rfl | rfl | rfl | rfl | rfl | rfl
  ·intro vs gq stq hl hf
   obtain ⟨v0, v1, v2, v3, v4, v5, rfl⟩ := len_k6 hl
   have hB2 := (show Box gq (t + 1) b3 56 [encA .u8 ((getI l1 x2).f1), [.int .i64 ((getI l1 x2).f2)], [.int .i64 ((getI l1 x2).f3)], [.int .i64 ((getI l1 x2).f4)]] [8, 1, 1, 1] from hf _ (memI 1 rfl) (by kernel_rfl))
   refine WP.loadB (v := .int .i64 ((getI l1 x2).f3)) hB2 (by kernel_rfl) (by kernel_rfl) ?_
   refine WP.dn (Shown.ok (v := .int .i64 ((getI l1 x2).f3)) (by kernel_rfl) (Step.refl _ _) ?_)
   exact ⟨tv, tv, rfl, tv, tv, tv, tv, tv, tv⟩
  ·intro vs gq stq hl hf
   obtain ⟨v0, v1, v2, v3, v4, v5, rfl⟩ := len_k6 hl
   have hB1 := (show Box gq m0 b1 32 [encA .u8 d1, [.int .i64 x1], encA .i64 (aset d2 (IntKind.i64.wrap (1 - ((getI l1 x2).f3))) (IntKind.i64.wrap ((aget d2 (IntKind.i64.wrap (1 - ((getI l1 x2).f3)))) + x3))), [.slice a2 n2 c2]] [8, 1, 2, 1] from hf _ (memI 0 rfl) (by kernel_rfl))
   have e0 := (show v0 = .int .i64 ((getI l1 x2).f3) from hf _ (memI 2 rfl) (by kernel_rfl))
   subst e0
   refine WP.ixBox (t := 23) (e := 3) (m := 2) (size := 1) (b := b1) (off := 9) (k := .i64) (i := (getI l1 x2).f3) (by kernel_rfl) (by kernel_rfl) hc4 ?_
   refine WP.dn (Shown.ok (v := .pointer (some ⟨b1, 9 + ((getI l1 x2).f3).toNat * 1, none⟩)) (by kernel_rfl) (Step.refl _ _) ?_)
   exact ⟨tv, tv, tv, rfl, tv, tv, tv, tv, tv⟩
  ·intro vs gq stq hl hf
   obtain ⟨v0, v1, v2, v3, v4, v5, rfl⟩ := len_k6 hl
   have hB1 := (show Box gq m0 b1 32 [encA .u8 d1, [.int .i64 x1], encA .i64 (aset d2 (IntKind.i64.wrap (1 - ((getI l1 x2).f3))) (IntKind.i64.wrap ((aget d2 (IntKind.i64.wrap (1 - ((getI l1 x2).f3)))) + x3))), [.slice a2 n2 c2]] [8, 1, 2, 1] from hf _ (memI 0 rfl) (by kernel_rfl))
   have e1 := (show v1 = .pointer (some ⟨b1, 9 + ((getI l1 x2).f3).toNat * 1, none⟩) from hf _ (memI 3 rfl) (by kernel_rfl))
   subst e1
   refine WP.loadE (ty := 3) (o := 9) (m := 2) (k := .i64) (d := (aset d2 (IntKind.i64.wrap (1 - ((getI l1 x2).f3))) (IntKind.i64.wrap ((aget d2 (IntKind.i64.wrap (1 - ((getI l1 x2).f3)))) + x3)))) (i := (getI l1 x2).f3) hB1 (by kernel_rfl) hc4 (by kernel_rfl) (by kernel_rfl) ?_
   refine WP.dn (Shown.ok (v := .int .i64 (aget (aset d2 (IntKind.i64.wrap (1 - ((getI l1 x2).f3))) (IntKind.i64.wrap ((aget d2 (IntKind.i64.wrap (1 - ((getI l1 x2).f3)))) + x3))) ((getI l1 x2).f3))) (by kernel_rfl) (Step.refl _ _) ?_)
   exact ⟨tv, tv, tv, tv, rfl, tv, tv, tv, tv⟩
  ·intro vs gq stq hl hf
   obtain ⟨v0, v1, v2, v3, v4, v5, rfl⟩ := len_k6 hl
   have hB2 := (show Box gq (t + 1) b3 56 [encA .u8 ((getI l1 x2).f1), [.int .i64 ((getI l1 x2).f2)], [.int .i64 ((getI l1 x2).f3)], [.int .i64 ((getI l1 x2).f4)]] [8, 1, 1, 1] from hf _ (memI 1 rfl) (by kernel_rfl))
   refine WP.loadB (v := .int .i64 ((getI l1 x2).f2)) hB2 (by kernel_rfl) (by kernel_rfl) ?_
   refine WP.dn (Shown.ok (v := .int .i64 ((getI l1 x2).f2)) (by kernel_rfl) (Step.refl _ _) ?_)
   exact ⟨tv, tv, tv, tv, tv, rfl, tv, tv, tv⟩
  ·intro vs gq stq hl hf
   obtain ⟨v0, v1, v2, v3, v4, v5, rfl⟩ := len_k6 hl
   have hB1 := (show Box gq m0 b1 32 [encA .u8 d1, [.int .i64 x1], encA .i64 (aset d2 (IntKind.i64.wrap (1 - ((getI l1 x2).f3))) (IntKind.i64.wrap ((aget d2 (IntKind.i64.wrap (1 - ((getI l1 x2).f3)))) + x3))), [.slice a2 n2 c2]] [8, 1, 2, 1] from hf _ (memI 0 rfl) (by kernel_rfl))
   have e0 := (show v0 = .int .i64 ((getI l1 x2).f3) from hf _ (memI 2 rfl) (by kernel_rfl))
   subst e0
   refine WP.ixBox (t := 23) (e := 3) (m := 2) (size := 1) (b := b1) (off := 9) (k := .i64) (i := (getI l1 x2).f3) (by kernel_rfl) (by kernel_rfl) hc5 ?_
   refine WP.dn (Shown.ok (v := .pointer (some ⟨b1, 9 + ((getI l1 x2).f3).toNat * 1, none⟩)) (by kernel_rfl) (Step.refl _ _) ?_)
   exact ⟨tv, tv, tv, tv, tv, tv, rfl, tv, tv⟩
  ·intro vs gq stq hl hf
   obtain ⟨v0, v1, v2, v3, v4, v5, rfl⟩ := len_k6 hl
   have hB1 := (show Box gq m0 b1 32 [encA .u8 d1, [.int .i64 x1], encA .i64 (aset d2 (IntKind.i64.wrap (1 - ((getI l1 x2).f3))) (IntKind.i64.wrap ((aget d2 (IntKind.i64.wrap (1 - ((getI l1 x2).f3)))) + x3))), [.slice a2 n2 c2]] [8, 1, 2, 1] from hf _ (memI 0 rfl) (by kernel_rfl))
   have e2 := (show v2 = .int .i64 (aget (aset d2 (IntKind.i64.wrap (1 - ((getI l1 x2).f3))) (IntKind.i64.wrap ((aget d2 (IntKind.i64.wrap (1 - ((getI l1 x2).f3)))) + x3))) ((getI l1 x2).f3)) from hf _ (memI 4 rfl) (by kernel_rfl))
   subst e2
   have e3 := (show v3 = .int .i64 ((getI l1 x2).f2) from hf _ (memI 5 rfl) (by kernel_rfl))
   subst e3
   have e4 := (show v4 = .pointer (some ⟨b1, 9 + ((getI l1 x2).f3).toNat * 1, none⟩) from hf _ (memI 6 rfl) (by kernel_rfl))
   subst e4
   refine WP.storeE (ty := 3) (o := 9) (m := 2) (k := .i64) (d := (aset d2 (IntKind.i64.wrap (1 - ((getI l1 x2).f3))) (IntKind.i64.wrap ((aget d2 (IntKind.i64.wrap (1 - ((getI l1 x2).f3)))) + x3)))) (i := (getI l1 x2).f3) (x := (IntKind.i64.wrap ((aget (aset d2 (IntKind.i64.wrap (1 - ((getI l1 x2).f3))) (IntKind.i64.wrap ((aget d2 (IntKind.i64.wrap (1 - ((getI l1 x2).f3)))) + x3))) ((getI l1 x2).f3)) + (IntKind.i64.wrap (((getI l1 x2).f2) - x3))))) hB1 (by kernel_rfl) hc5 (by kernel_rfl) (by kernel_rfl) [encA .u8 d1, [.int .i64 x1], encA .i64 (aset (aset d2 (IntKind.i64.wrap (1 - ((getI l1 x2).f3))) (IntKind.i64.wrap ((aget d2 (IntKind.i64.wrap (1 - ((getI l1 x2).f3)))) + x3))) ((getI l1 x2).f3) (IntKind.i64.wrap ((aget (aset d2 (IntKind.i64.wrap (1 - ((getI l1 x2).f3))) (IntKind.i64.wrap ((aget d2 (IntKind.i64.wrap (1 - ((getI l1 x2).f3)))) + x3))) ((getI l1 x2).f3)) + (IntKind.i64.wrap (((getI l1 x2).f2) - x3))))), [.slice a2 n2 c2]] (by kernel_rfl) ?_
   intro g7 st7 hB6
   refine WP.dn (Shown.o (v := undef) st7 ?_)
   exact ⟨tv, tv, tv, tv, tv, tv, tv, hB6, tv⟩
 intro vs g8 st8 hl hf
 obtain ⟨v0, v1, v2, v3, v4, v5, rfl⟩ := len_k6 hl
 have hB1 := (show Box g8 m0 b1 32 [encA .u8 d1, [.int .i64 x1], encA .i64 (aset (aset d2 (IntKind.i64.wrap (1 - ((getI l1 x2).f3))) (IntKind.i64.wrap ((aget d2 (IntKind.i64.wrap (1 - ((getI l1 x2).f3)))) + x3))) ((getI l1 x2).f3) (IntKind.i64.wrap ((aget (aset d2 (IntKind.i64.wrap (1 - ((getI l1 x2).f3))) (IntKind.i64.wrap ((aget d2 (IntKind.i64.wrap (1 - ((getI l1 x2).f3)))) + x3))) ((getI l1 x2).f3)) + (IntKind.i64.wrap (((getI l1 x2).f2) - x3))))), [.slice a2 n2 c2]] [8, 1, 2, 1] from hf _ (memI 7 rfl) (by kernel_rfl))
 replace hR2 := hR2.mono st8 (WL.no1 (by omega)) (WL.no1 (by omega))
 replace tot := tot.trans (st8.up1 (.inl (by simp [WL])))
 obtain ⟨g9, hw1, st9, hnew⟩ := hR2.freeze (by omega)
 refine NX.regw hw1 ?_
 replace hB1 := hB1.mono st9 (WL.no1 (by omega))
 replace tot := tot.trans (st9.up1 (.inr (by omega)))
 clear hR2
 have hR2 := hnew
 clear hnew
 replace hs := Option.some.inj hs
 simp only [Prod.mk.injEq] at hs
 obtain ⟨rfl, rfl, rfl, rfl⟩ := hs
 exact NX.finE (v := .tuple #[]) (Res.still (by kernel_rfl)) tot htL ⟨a2, n2, c2, rfl, hR2, hB1⟩
def F.purse_Purse_Free_1.c1 (d1 : Arr Int 8) (x1 : Int) (d2 : Arr Int 2) (l1 : List S_purse_Held) (x2 : Int) (x3 : Int) (q1 : Bool) : Option (Int × (Arr Int 8) × Int × (Arr Int 2) × (List S_purse_Held)) := (if q1 = true then (some (2, d1, x1, d2, l1)) else ((F.purse_Purse_part d1 x1 d2 l1 x3 x2).bind fun (d4, x4, d5, d6) => (some (0, d4, x4, d5, d6))))
def N.purse_Purse_Free_1_0 : List (List Nat) := [[], [0], [0, 1], [0, 1, 2], [0, 1, 2], [0, 1, 2, 4], [0, 1, 2, 4, 5], [0, 1, 2, 4, 5, 6], [0, 1, 2], [0, 1, 2, 4, 5, 6, 7, 8], [0, 1, 2, 4, 5, 6, 7, 8, 9], [0, 1, 2, 4, 5, 6, 7, 8, 9, 10], [0, 1, 2, 3, 4, 5, 6, 7, 8, 9, 10, 11], [0, 1, 2, 3, 4, 5, 6, 7, 8, 9, 10, 11, 12], [0, 1, 2, 3, 4, 5, 6, 7, 8, 9, 10, 11, 12, 13]]
def F.purse_Purse_Free_1 (d1 : Arr Int 8) (x1 : Int) (d2 : Arr Int 2) (l1 : List S_purse_Held) (d3 : Arr Int 8) (x2 : Int) : Option (Int × (Arr Int 8) × Int × (Arr Int 2) × (List S_purse_Held)) := ((F.purse_Purse_at d1 x1 d2 l1 d3).bind fun x3 => (if decide (x3 < 0) = true then (some (9, d1, x1, d2, l1)) else (if decide (x2 < 0) = true then (F.purse_Purse_Free_1.c1 d1 x1 d2 l1 x2 x3 true) else (if (0 : Int) ≤ x3 ∧ x3 < (l1.length : Int) then (F.purse_Purse_Free_1.c1 d1 x1 d2 l1 x2 x3 (decide (x2 > (getI l1 x3).f2))) else none))))
theorem P.purse_Purse_Free_1 (g0 : GW) (m0 : Nat) (m1 : Nat) (m2 : Nat) (m3 : Nat) (d1 : Arr Int 8) (x1 : Int) (d2 : Arr Int 2) (l1 : List S_purse_Held) (d3 : Arr Int 8) (x2 : Int) (a1 : Option Addr) (n1 : Nat) (c1 : Nat) (b1 : Nat) (b2 : Nat) (b3 : Nat) (hR1 : OwnS k_S_purse_Held g0 m1 56 a1 n1 c1 l1) (hB1 : Box g0 m0 b1 32 [encA .u8 d1, [.int .i64 x1], encA .i64 d2, [.slice a1 n1 c1]] [8, 1, 2, 1]) (hB2 : Box g0 m2 b2 29 [encA .u8 d3] [8]) (hB3 : Box g0 m3 b3 3 [[.int .i64 x2]] [1]) (hm1_0 : m1 ≠ m0) (hm2_0 : m2 ≠ m0) (hm2_1 : m2 ≠ m1) (hm3_0 : m3 ≠ m0) (hm3_1 : m3 ≠ m1) (hm3_2 : m3 ≠ m2) (hm0 : m0 ≠ 0) (hm1 : m1 ≠ 0) (hm2 : m2 ≠ 0) (hm3 : m3 ≠ 0) (o1 : Int) (o2 : (Arr Int 8)) (o3 : Int) (o4 : (Arr Int 2)) (o5 : (List S_purse_Held)) (hs : F.purse_Purse_Free_1 d1 x1 d2 l1 d3 x2 = some (o1, o2, o3, o4, o5)) :
  Calls Try.prog 52 #[.pointer (some ⟨b1, 0, none⟩), .pointer (some ⟨b2, 0, none⟩), .pointer (some ⟨b3, 0, none⟩)] g0.w (Ret (WL [m0, m1]) g0 fun v g => ∃ (a_1 : Option Addr) (n_1 : Nat) (c_1 : Nat), v = .int .i64 o1 ∧ RdS k_S_purse_Held g 56 a_1 n_1 c_1 o5 ∧ Box g m0 b1 32 [encA .u8 o2, [.int .i64 o3], encA .i64 o4, [.slice a_1 n_1 c_1]] [8, 1, 2, 1]) := by
 refine calls_of (args := [.pointer (some ⟨b1, 0, none⟩), .pointer (some ⟨b2, 0, none⟩), .pointer (some ⟨b3, 0, none⟩)]) Try.func52 rfl (m0 + m1 + m2 + m3 + 0) ?_
 intro t ht htL
 refine ⟨_, rfl, ?_⟩
 refine CP.refr 33 [(0, .pointer (some ⟨b1, 0, none⟩)), (1, .pointer (some ⟨b2, 0, none⟩)), (2, .pointer (some ⟨b3, 0, none⟩))] (by kernel_rfl) (by kernel_rfl) ?_
 intro ds
 have tot : Step (fun l => (WL [m0, m1]) l ∨ t ≤ l) g0 g0 := Step.refl _ _
 unfold F.purse_Purse_Free_1 at hs
 refine CP.seqR ?_
 refine WP.stl 1 ?_
 refine WP.dn ?_
 refine NX.then_n ?_
 refine CP.seq ?_
 replace hs := Option.bind_eq_some_iff.1 hs
 obtain ⟨x3, hk1, hs⟩ := hs
 refine CP.drawL (by kernel_rfl) [2, 3, 4] [[], [0], [0, 1], [], [0, 1, 2, 3], [0, 1, 2, 3, 4]] [⟨none, [], [], fun l g => Box g m0 b1 32 [encA .u8 d1, [.int .i64 x1], encA .i64 d2, [.slice a1 n1 c1]] [8, 1, 2, 1]⟩, ⟨none, [0], [], fun l g => OwnS k_S_purse_Held g m1 56 a1 n1 c1 l1⟩, ⟨none, [], [], fun l g => Box g m2 b2 29 [encA .u8 d3] [8]⟩, ⟨some 0, [], [0], fun l g => l.getD 0 undef = AG [encA .u8 d1, [.int .i64 x1], encA .i64 d2, [.slice a1 n1 c1]]⟩, ⟨some 1, [], [1], fun l g => l.getD 0 undef = AG [encA .u8 d3]⟩, ⟨some 2, [], [2], fun l g => l.getD 0 undef = .int .i64 x3⟩, ⟨some 2, [0], [], fun l g => OwnS k_S_purse_Held g m1 56 a1 n1 c1 l1⟩] [[], [], [0]] [m1] [0, 1] [5] (by kernel_rfl) (by simp <;> omega) (by simp) ⟨fun _ _ _ _ st h0 hl hj hB1 => (hB1.mono st (fun h => absurd (hl _ h) (by simp <;> omega))), fun _ _ _ _ st h0 hl hj hR1 => (hR1.mono st h0 (hj 0 (by simp) _ rfl)), fun _ _ _ _ st h0 hl hj hB2 => (hB2.mono st (fun h => absurd (hl _ h) (by simp <;> omega))), fun _ _ _ _ st h0 hl hj e0 => e0, fun _ _ _ _ st h0 hl hj e1 => e1, fun _ _ _ _ st h0 hl hj e2 => e2, fun _ _ _ _ st h0 hl hj hR1 => (hR1.mono st h0 (hj 0 (by simp) _ rfl)), tv⟩ ⟨hB1, hR1, hB2, tv, tv, tv, tv, tv⟩ (by kernel_rfl) (fun vs => by kernel_rfl) ?_ ?_ ?_
 ·intro j hj
  have hq : j = 0 := by have h : j < 1 := hj; omega
  rcases hq with rfl
  ·intro vs gq stq hl hf
   obtain ⟨v0, v1, v2, rfl⟩ := len_k3 hl
   have e2 := (show v2 = .int .i64 x3 from hf _ (memI 5 rfl) (by kernel_rfl))
   subst e2
   show Option.isSome _ = true
   kernel_rfl
 ·intro j hj
  have hq : j = 0 ∨ j = 1 ∨ j = 2 := by have h : j < 3 := hj; omega
  rcases hq with rfl | rfl | rfl
  ·intro vs gq stq hl hf
   obtain ⟨v0, v1, v2, rfl⟩ := len_k3 hl
   have hB1 := (show Box gq m0 b1 32 [encA .u8 d1, [.int .i64 x1], encA .i64 d2, [.slice a1 n1 c1]] [8, 1, 2, 1] from hf _ (memI 0 rfl) (by kernel_rfl))
   refine WP.loadB (v := AG [encA .u8 d1, [.int .i64 x1], encA .i64 d2, [.slice a1 n1 c1]]) hB1 (by kernel_rfl) (by kernel_rfl) ?_
   refine WP.dn (Shown.ok (v := AG [encA .u8 d1, [.int .i64 x1], encA .i64 d2, [.slice a1 n1 c1]]) (by kernel_rfl) (Step.refl _ _) ?_)
   exact ⟨tv, tv, tv, rfl, tv, tv, tv, tv⟩
  ·intro vs gq stq hl hf
   obtain ⟨v0, v1, v2, rfl⟩ := len_k3 hl
   have hB2 := (show Box gq m2 b2 29 [encA .u8 d3] [8] from hf _ (memI 2 rfl) (by kernel_rfl))
   refine WP.loadB (v := AG [encA .u8 d3]) hB2 (by kernel_rfl) (by kernel_rfl) ?_
   refine WP.dn (Shown.ok (v := AG [encA .u8 d3]) (by kernel_rfl) (Step.refl _ _) ?_)
   exact ⟨tv, tv, tv, tv, rfl, tv, tv, tv⟩
  ·intro vs gq stq hl hf
   obtain ⟨v0, v1, v2, rfl⟩ := len_k3 hl
   have hR1 := (show OwnS k_S_purse_Held gq m1 56 a1 n1 c1 l1 from hf _ (memI 1 rfl) (by kernel_rfl))
   have e0 := (show v0 = AG [encA .u8 d1, [.int .i64 x1], encA .i64 d2, [.slice a1 n1 c1]] from hf _ (memI 3 rfl) (by kernel_rfl))
   subst e0
   have e1 := (show v1 = AG [encA .u8 d3] from hf _ (memI 4 rfl) (by kernel_rfl))
   subst e1
   have hS1 : 0 ∉ ([m1] : List Nat) := by simp <;> omega
   have stl1 := GW.lend_step gq [m1]
   have hRl1 := hR1.lendTo hS1 (by simp)
   refine WP.regw (g' := GW.lend gq [m1]) rfl ?_
   have hcal1 := P.purse_Purse_at (GW.lend gq [m1]) d1 x1 d2 l1 d3 a1 n1 c1 hRl1 x3 hk1
   refine WP.callC hcal1 (by kernel_rfl) ?_
   rintro _ g1 st1 rfl
   have st2 := (GW.back_step st1).lentS
   have hO1 := hR1.backTo hS1 (by simp) st1 (fun x => x)
   refine WP.regw (g' := GW.back gq g1 [m1]) rfl ?_
   generalize GW.back gq g1 [m1] = g2 at *
   refine WP.dn (Shown.o (v := .int .i64 x3) st2 ?_)
   exact ⟨tv, tv, tv, tv, tv, rfl, hO1, tv⟩
 intro vs g3 st3 hl hf
 obtain ⟨v0, v1, v2, rfl⟩ := len_k3 hl
 have e2 := (show v2 = .int .i64 x3 from hf _ (memI 5 rfl) (by kernel_rfl))
 subst e2
 have hR1 := (show OwnS k_S_purse_Held g3 m1 56 a1 n1 c1 l1 from hf _ (memI 6 rfl) (by kernel_rfl))
 replace hB1 := hB1.mono st3 (WL.no1 (by omega))
 replace hB3 := hB3.mono st3 (WL.no1 (by omega))
 replace tot := tot.trans (st3.up1 (.inl (by simp [WL])))
 refine NX.then_n ?_
 refine CP.refr 33 [(0, .pointer (some ⟨b1, 0, none⟩)), (2, .pointer (some ⟨b3, 0, none⟩)), (5, .int .i64 x3)] (by kernel_rfl) (by kernel_rfl) ?_
 clear ds
 intro ds
 refine CP.seq ?_
 refine CP.block ?_
 refine CP.seqR ?_
 refine WP.stl 3 ?_
 refine WP.dn ?_
 refine NX.then_n ?_
 refine CP.cond (b := decide (x3 < 0)) (by kernel_rfl) (fun h1 => ?_) (fun h1 => ?_)
 ·replace hs := of_if_t hs h1
  refine CP.seqR ?_
  refine WP.stl 1 ?_
  refine WP.dn ?_
  refine NX.then_n ?_
  refine CP.ret ?_
  refine NX.block_r ?_
  refine NX.then_r ?_
  obtain ⟨g4, hw1, st4, hnew⟩ := hR1.freeze (by omega)
  refine NX.regw hw1 ?_
  replace hB1 := hB1.mono st4 (WL.no1 (by omega))
  replace tot := tot.trans (st4.up1 (.inl (by simp [WL])))
  clear hR1
  have hR1 := hnew
  clear hnew
  replace hs := Option.some.inj hs
  simp only [Prod.mk.injEq] at hs
  obtain ⟨rfl, rfl, rfl, rfl, rfl⟩ := hs
  exact NX.fin (v := .int .i64 9) (Res.still (by kernel_rfl)) tot htL ⟨a1, n1, c1, rfl, hR1, hB1⟩
 replace hs := of_if_f hs h1
 refine CP.cut (fun tm g => ∃ (q1 : Bool), Fr 33 [(0, .pointer (some ⟨b1, 0, none⟩)), (2, .pointer (some ⟨b3, 0, none⟩)), (5, .int .i64 x3), (14, .bool q1)] tm ∧ Step (fun l => (WL [m0, m1]) l ∨ t ≤ l) g0 g ∧ Box g m0 b1 32 [encA .u8 d1, [.int .i64 x1], encA .i64 d2, [.slice a1 n1 c1]] [8, 1, 2, 1] ∧ OwnS k_S_purse_Held g m1 56 a1 n1 c1 l1 ∧ Box g m3 b3 3 [[.int .i64 x2]] [1] ∧ (F.purse_Purse_Free_1.c1 d1 x1 d2 l1 x2 x3 q1) = some (o1, o2, o3, o4, o5)) ?_ ?_
 ·refine bool_split (b := decide (x2 < 0)) (fun h4 => ?_) (fun h4 => ?_)
  ·replace hs := of_if_t hs h4
   refine CP.drawL (by kernel_rfl) [0, 2] N.purse_Purse_Free_1_0 [⟨none, [], [], fun l g => Box g m3 b3 3 [[.int .i64 x2]] [1]⟩, ⟨some 0, [], [0], fun l g => l.getD 0 undef = .int .i64 x2⟩, ⟨some 1, [], [1], fun l g => l.getD 0 undef = .bool true⟩] [[], []] [] [] [1, 3, 4, 5, 6, 7, 8, 9, 10, 11, 12, 13, 14] (by kernel_rfl) (by simp) (by simp) ⟨fun _ _ _ _ st h0 hl hj hB3 => (hB3.mono st (fun h => absurd (hl _ h) (by simp))), fun _ _ _ _ st h0 hl hj e0 => e0, fun _ _ _ _ st h0 hl hj e1 => e1, tv⟩ ⟨hB3, tv, tv, tv⟩ (by kernel_rfl) (fun vs => by kernel_rfl) ?_ ?_ ?_
   ·intro j hj
    have hq : j = 0 ∨ j = 1 ∨ j = 2 ∨ j = 3 ∨ j = 4 ∨ j = 5 ∨ j = 6 ∨ j = 7 ∨ j = 8 ∨ j = 9 ∨ j = 10 ∨ j = 11 ∨ j = 12 := by have h : j < 13 := hj; omega
    rcases hq with rfl | rfl | rfl | rfl | rfl | rfl | rfl | rfl | rfl | rfl | rfl | rfl | rfl
    ·intro vs gq stq hl hf
     obtain ⟨v0, v1, rfl⟩ := len_k2 hl
     have e0 := (show v0 = .int .i64 x2 from hf _ (memI 1 rfl) (by kernel_rfl))
     subst e0
     show Option.isSome _ = true
     kernel_rfl
    ·intro vs gq stq hl hf
     obtain ⟨v0, v1, rfl⟩ := len_k2 hl
     have e1 := (show v1 = .bool true from hf _ (memI 2 rfl) (by kernel_rfl))
     subst e1
     show Option.isSome _ = true
     kernel_rfl
    ·intro vs gq stq hl hf
     obtain ⟨v0, v1, rfl⟩ := len_k2 hl
     have e1 := (show v1 = .bool true from hf _ (memI 2 rfl) (by kernel_rfl))
     subst e1
     show Option.isSome _ = true
     kernel_rfl
    ·intro vs gq stq hl hf
     obtain ⟨v0, v1, rfl⟩ := len_k2 hl
     have e1 := (show v1 = .bool true from hf _ (memI 2 rfl) (by kernel_rfl))
     subst e1
     show Option.isSome _ = true
     kernel_rfl
    ·intro vs gq stq hl hf
     obtain ⟨v0, v1, rfl⟩ := len_k2 hl
     have e1 := (show v1 = .bool true from hf _ (memI 2 rfl) (by kernel_rfl))
     subst e1
     show Option.isSome _ = true
     kernel_rfl
    ·intro vs gq stq hl hf
     obtain ⟨v0, v1, rfl⟩ := len_k2 hl
     have e1 := (show v1 = .bool true from hf _ (memI 2 rfl) (by kernel_rfl))
     subst e1
     show Option.isSome _ = true
     kernel_rfl
    ·intro vs gq stq hl hf
     obtain ⟨v0, v1, rfl⟩ := len_k2 hl
     have e1 := (show v1 = .bool true from hf _ (memI 2 rfl) (by kernel_rfl))
     subst e1
     show Option.isSome _ = true
     kernel_rfl
    ·intro vs gq stq hl hf
     obtain ⟨v0, v1, rfl⟩ := len_k2 hl
     have e1 := (show v1 = .bool true from hf _ (memI 2 rfl) (by kernel_rfl))
     subst e1
     show Option.isSome _ = true
     kernel_rfl
    ·intro vs gq stq hl hf
     obtain ⟨v0, v1, rfl⟩ := len_k2 hl
     have e1 := (show v1 = .bool true from hf _ (memI 2 rfl) (by kernel_rfl))
     subst e1
     show Option.isSome _ = true
     kernel_rfl
    ·intro vs gq stq hl hf
     obtain ⟨v0, v1, rfl⟩ := len_k2 hl
     have e1 := (show v1 = .bool true from hf _ (memI 2 rfl) (by kernel_rfl))
     subst e1
     show Option.isSome _ = true
     kernel_rfl
    ·intro vs gq stq hl hf
     obtain ⟨v0, v1, rfl⟩ := len_k2 hl
     have e1 := (show v1 = .bool true from hf _ (memI 2 rfl) (by kernel_rfl))
     subst e1
     show Option.isSome _ = true
     kernel_rfl
    ·intro vs gq stq hl hf
     obtain ⟨v0, v1, rfl⟩ := len_k2 hl
     have e1 := (show v1 = .bool true from hf _ (memI 2 rfl) (by kernel_rfl))
     subst e1
     show Option.isSome _ = true
     kernel_rfl
    ·intro vs gq stq hl hf
     obtain ⟨v0, v1, rfl⟩ := len_k2 hl
     have e1 := (show v1 = .bool true from hf _ (memI 2 rfl) (by kernel_rfl))
     subst e1
     show Option.isSome _ = true
     kernel_rfl
   ·intro j hj
    have hq : j = 0 ∨ j = 1 := by have h : j < 2 := hj; omega
    rcases hq with rfl | rfl
    ·intro vs gq stq hl hf
     obtain ⟨v0, v1, rfl⟩ := len_k2 hl
     have hB3 := (show Box gq m3 b3 3 [[.int .i64 x2]] [1] from hf _ (memI 0 rfl) (by kernel_rfl))
     refine WP.loadB (v := .int .i64 x2) hB3 (by kernel_rfl) (by kernel_rfl) ?_
     refine WP.dn (Shown.ok (v := .int .i64 x2) (by kernel_rfl) (Step.refl _ _) ?_)
     exact ⟨tv, rfl, tv, tv⟩
    ·intro vs gq stq hl hf
     obtain ⟨v0, v1, rfl⟩ := len_k2 hl
     have e0 := (show v0 = .int .i64 x2 from hf _ (memI 1 rfl) (by kernel_rfl))
     subst e0
     refine WP.stl 1 ?_
     refine WP.dn (Shown.ok (v := .bool (decide (x2 < 0))) (by kernel_rfl) (Step.refl _ _) ?_)
     exact ⟨tv, tv, congrArg Value.bool h4, tv⟩
   intro vs g7 st7 hl hf
   obtain ⟨v0, v1, rfl⟩ := len_k2 hl
   have e1 := (show v1 = .bool true from hf _ (memI 2 rfl) (by kernel_rfl))
   subst e1
   replace hB1 := hB1.mono st7.toNo (fun x => x)
   replace hR1 := hR1.mono st7.toNo (fun x => x) (fun x => x)
   replace hB3 := hB3.mono st7.toNo (fun x => x)
   replace tot := tot.trans st7.toNo.pure
   refine NX.post ?_
   exact ⟨true, ⟨by kernel_rfl, by kernel_rfl⟩, tot, hB1, hR1, hB3, hs⟩
  replace hs := of_if_f hs h4
  by_cases hc2 : (0 : Int) ≤ x3 ∧ x3 < (l1.length : Int)
  case neg => rw [if_neg hc2] at hs; cases hs
  replace hs := of_if_p hs hc2
  obtain ⟨b5, u2, ha2⟩ := hR1.at hc2
  refine CP.drawL (by kernel_rfl) [0, 2, 3, 7, 9, 11] N.purse_Purse_Free_1_0 [⟨none, [], [], fun l g => Box g m0 b1 32 [encA .u8 d1, [.int .i64 x1], encA .i64 d2, [.slice a1 n1 c1]] [8, 1, 2, 1]⟩, ⟨none, [], [], fun l g => OwnS k_S_purse_Held g m1 56 a1 n1 c1 l1⟩, ⟨none, [], [], fun l g => Box g m3 b3 3 [[.int .i64 x2]] [1]⟩, ⟨some 0, [], [0], fun l g => l.getD 0 undef = .int .i64 x2⟩, ⟨some 1, [], [1], fun l g => l.getD 0 undef = .bool false⟩, ⟨some 2, [], [2], fun l g => l.getD 0 undef = .int .i64 x2⟩, ⟨some 3, [], [3], fun l g => l.getD 0 undef = .slice a1 n1 c1⟩, ⟨some 4, [], [4], fun l g => l.getD 0 undef = .pointer (some ⟨b5, u2 + x3.toNat * 11, none⟩)⟩, ⟨some 5, [], [5], fun l g => l.getD 0 undef = .int .i64 ((getI l1 x3).f2)⟩] [[], [], [], [], [], []] [] [] [1, 4, 5, 6, 8, 10, 12, 13, 14] (by kernel_rfl) (by simp) (by simp) ⟨fun _ _ _ _ st h0 hl hj hB1 => (hB1.mono st (fun h => absurd (hl _ h) (by simp))), fun _ _ _ _ st h0 hl hj hR1 => (hR1.mono st h0 (fun h => absurd (hl _ h) (by simp))), fun _ _ _ _ st h0 hl hj hB3 => (hB3.mono st (fun h => absurd (hl _ h) (by simp))), fun _ _ _ _ st h0 hl hj e0 => e0, fun _ _ _ _ st h0 hl hj e1 => e1, fun _ _ _ _ st h0 hl hj e2 => e2, fun _ _ _ _ st h0 hl hj e3 => e3, fun _ _ _ _ st h0 hl hj e4 => e4, fun _ _ _ _ st h0 hl hj e5 => e5, tv⟩ ⟨hB1, hR1, hB3, tv, tv, tv, tv, tv, tv, tv⟩ (by kernel_rfl) (fun vs => by kernel_rfl) ?_ ?_ ?_
  ·intro j hj
   have hq : j = 0 ∨ j = 1 ∨ j = 2 ∨ j = 3 ∨ j = 4 ∨ j = 5 ∨ j = 6 ∨ j = 7 ∨ j = 8 := by have h : j < 9 := hj; omega
   rcases hq with rfl | rfl | rfl | rfl | rfl | rfl | rfl | rfl | rfl
   ·intro vs gq stq hl hf
    obtain ⟨v0, v1, v2, v3, v4, v5, rfl⟩ := len_k6 hl
    have e0 := (show v0 = .int .i64 x2 from hf _ (memI 3 rfl) (by kernel_rfl))
    subst e0
    show Option.isSome _ = true
    kernel_rfl
   ·intro vs gq stq hl hf
    obtain ⟨v0, v1, v2, v3, v4, v5, rfl⟩ := len_k6 hl
    have e1 := (show v1 = .bool false from hf _ (memI 4 rfl) (by kernel_rfl))
    subst e1
    show Option.isSome _ = true
    kernel_rfl
   ·intro vs gq stq hl hf
    obtain ⟨v0, v1, v2, v3, v4, v5, rfl⟩ := len_k6 hl
    have e1 := (show v1 = .bool false from hf _ (memI 4 rfl) (by kernel_rfl))
    subst e1
    show Option.isSome _ = true
    kernel_rfl
   ·intro vs gq stq hl hf
    obtain ⟨v0, v1, v2, v3, v4, v5, rfl⟩ := len_k6 hl
    have e1 := (show v1 = .bool false from hf _ (memI 4 rfl) (by kernel_rfl))
    subst e1
    show Option.isSome _ = true
    kernel_rfl
   ·intro vs gq stq hl hf
    obtain ⟨v0, v1, v2, v3, v4, v5, rfl⟩ := len_k6 hl
    have e1 := (show v1 = .bool false from hf _ (memI 4 rfl) (by kernel_rfl))
    subst e1
    show Option.isSome _ = true
    kernel_rfl
   ·intro vs gq stq hl hf
    obtain ⟨v0, v1, v2, v3, v4, v5, rfl⟩ := len_k6 hl
    have e1 := (show v1 = .bool false from hf _ (memI 4 rfl) (by kernel_rfl))
    subst e1
    have e4 := (show v4 = .pointer (some ⟨b5, u2 + x3.toNat * 11, none⟩) from hf _ (memI 7 rfl) (by kernel_rfl))
    subst e4
    show Option.isSome _ = true
    kernel_rfl
   ·intro vs gq stq hl hf
    obtain ⟨v0, v1, v2, v3, v4, v5, rfl⟩ := len_k6 hl
    have e1 := (show v1 = .bool false from hf _ (memI 4 rfl) (by kernel_rfl))
    subst e1
    have e2 := (show v2 = .int .i64 x2 from hf _ (memI 5 rfl) (by kernel_rfl))
    subst e2
    have e5 := (show v5 = .int .i64 ((getI l1 x3).f2) from hf _ (memI 8 rfl) (by kernel_rfl))
    subst e5
    show Option.isSome _ = true
    kernel_rfl
   ·intro vs gq stq hl hf
    obtain ⟨v0, v1, v2, v3, v4, v5, rfl⟩ := len_k6 hl
    have e1 := (show v1 = .bool false from hf _ (memI 4 rfl) (by kernel_rfl))
    subst e1
    have e2 := (show v2 = .int .i64 x2 from hf _ (memI 5 rfl) (by kernel_rfl))
    subst e2
    have e5 := (show v5 = .int .i64 ((getI l1 x3).f2) from hf _ (memI 8 rfl) (by kernel_rfl))
    subst e5
    show Option.isSome _ = true
    kernel_rfl
   ·intro vs gq stq hl hf
    obtain ⟨v0, v1, v2, v3, v4, v5, rfl⟩ := len_k6 hl
    have e1 := (show v1 = .bool false from hf _ (memI 4 rfl) (by kernel_rfl))
    subst e1
    have e2 := (show v2 = .int .i64 x2 from hf _ (memI 5 rfl) (by kernel_rfl))
    subst e2
    have e5 := (show v5 = .int .i64 ((getI l1 x3).f2) from hf _ (memI 8 rfl) (by kernel_rfl))
    subst e5
    show Option.isSome _ = true
    kernel_rfl
  ·intro j hj
   have hq : j = 0 ∨ j = 1 ∨ j = 2 ∨ j = 3 ∨ j = 4 ∨ j = 5 := by have h : j < 6 := hj; omega
   rcases hq with rfl | rfl | rfl | rfl | rfl | rfl
   ·intro vs gq stq hl hf
    obtain ⟨v0, v1, v2, v3, v4, v5, rfl⟩ := len_k6 hl
    have hB3 := (show Box gq m3 b3 3 [[.int .i64 x2]] [1] from hf _ (memI 2 rfl) (by kernel_rfl))
    refine WP.loadB (v := .int .i64 x2) hB3 (by kernel_rfl) (by kernel_rfl) ?_
    refine WP.dn (Shown.ok (v := .int .i64 x2) (by kernel_rfl) (Step.refl _ _) ?_)
    exact ⟨tv, tv, tv, rfl, tv, tv, tv, tv, tv, tv⟩
   ·intro vs gq stq hl hf
    obtain ⟨v0, v1, v2, v3, v4, v5, rfl⟩ := len_k6 hl
    have e0 := (show v0 = .int .i64 x2 from hf _ (memI 3 rfl) (by kernel_rfl))
    subst e0
    refine WP.stl 1 ?_
    refine WP.dn (Shown.ok (v := .bool (decide (x2 < 0))) (by kernel_rfl) (Step.refl _ _) ?_)
    exact ⟨tv, tv, tv, tv, congrArg Value.bool h4, tv, tv, tv, tv, tv⟩
   ·intro vs gq stq hl hf
    obtain ⟨v0, v1, v2, v3, v4, v5, rfl⟩ := len_k6 hl
    have hB3 := (show Box gq m3 b3 3 [[.int .i64 x2]] [1] from hf _ (memI 2 rfl) (by kernel_rfl))
    have e1 := (show v1 = .bool false from hf _ (memI 4 rfl) (by kernel_rfl))
    subst e1
    refine WP.loadB (v := .int .i64 x2) hB3 (by kernel_rfl) (by kernel_rfl) ?_
    refine WP.dn (Shown.ok (v := .int .i64 x2) (by kernel_rfl) (Step.refl _ _) ?_)
    exact ⟨tv, tv, tv, tv, tv, rfl, tv, tv, tv, tv⟩
   ·intro vs gq stq hl hf
    obtain ⟨v0, v1, v2, v3, v4, v5, rfl⟩ := len_k6 hl
    have hB1 := (show Box gq m0 b1 32 [encA .u8 d1, [.int .i64 x1], encA .i64 d2, [.slice a1 n1 c1]] [8, 1, 2, 1] from hf _ (memI 0 rfl) (by kernel_rfl))
    have e1 := (show v1 = .bool false from hf _ (memI 4 rfl) (by kernel_rfl))
    subst e1
    refine WP.loadB (v := .slice a1 n1 c1) hB1 (by kernel_rfl) (by kernel_rfl) ?_
    refine WP.dn (Shown.ok (v := .slice a1 n1 c1) (by kernel_rfl) (Step.refl _ _) ?_)
    exact ⟨tv, tv, tv, tv, tv, tv, rfl, tv, tv, tv⟩
   ·intro vs gq stq hl hf
    obtain ⟨v0, v1, v2, v3, v4, v5, rfl⟩ := len_k6 hl
    have hR1 := (show OwnS k_S_purse_Held gq m1 56 a1 n1 c1 l1 from hf _ (memI 1 rfl) (by kernel_rfl))
    have e1 := (show v1 = .bool false from hf _ (memI 4 rfl) (by kernel_rfl))
    subst e1
    have e3 := (show v3 = .slice a1 n1 c1 from hf _ (memI 6 rfl) (by kernel_rfl))
    subst e3
    refine WP.indexA (t := 30) (e := 56) (sz := 11) (cap := c1) (k := .i64) (i := x3) hR1.len ha2 (by kernel_rfl) (by kernel_rfl) hc2 ?_
    refine WP.dn (Shown.ok (v := .pointer (some ⟨b5, u2 + x3.toNat * 11, none⟩)) (by kernel_rfl) (Step.refl _ _) ?_)
    exact ⟨tv, tv, tv, tv, tv, tv, tv, rfl, tv, tv⟩
   ·intro vs gq stq hl hf
    obtain ⟨v0, v1, v2, v3, v4, v5, rfl⟩ := len_k6 hl
    have hR1 := (show OwnS k_S_purse_Held gq m1 56 a1 n1 c1 l1 from hf _ (memI 1 rfl) (by kernel_rfl))
    have e1 := (show v1 = .bool false from hf _ (memI 4 rfl) (by kernel_rfl))
    subst e1
    have e4 := (show v4 = .pointer (some ⟨b5, u2 + x3.toNat * 11, none⟩) from hf _ (memI 7 rfl) (by kernel_rfl))
    subst e4
    obtain ⟨cs2, hcR2, hcV2⟩ := hR1.src.view (getI_some hc2) ha2
    replace hcR2 := k_S_purse_Held.opn hcR2
    refine WP.loadV [encA .u8 ((getI l1 x3).f1), [.int .i64 ((getI l1 x3).f2)], [.int .i64 ((getI l1 x3).f3)], [.int .i64 ((getI l1 x3).f4)]] [8, 1, 1, 1] hcV2 hcR2 (by simp [len_encA]) (f := 8) (ty := 3) (agg := false) (size := 1) (rs := [[.int .i64 ((getI l1 x3).f2)]]) (v := .int .i64 ((getI l1 x3).f2)) (by kernel_rfl) (by kernel_rfl) (by kernel_rfl) (by kernel_rfl) ?_
    refine WP.dn (Shown.ok (v := .int .i64 ((getI l1 x3).f2)) (by kernel_rfl) (Step.refl _ _) ?_)
    exact ⟨tv, tv, tv, tv, tv, tv, tv, tv, rfl, tv⟩
  intro vs g8 st8 hl hf
  obtain ⟨v0, v1, v2, v3, v4, v5, rfl⟩ := len_k6 hl
  have e1 := (show v1 = .bool false from hf _ (memI 4 rfl) (by kernel_rfl))
  subst e1
  have e2 := (show v2 = .int .i64 x2 from hf _ (memI 5 rfl) (by kernel_rfl))
  subst e2
  have e5 := (show v5 = .int .i64 ((getI l1 x3).f2) from hf _ (memI 8 rfl) (by kernel_rfl))
  subst e5
  replace hB1 := hB1.mono st8.toNo (fun x => x)
  replace hR1 := hR1.mono st8.toNo (fun x => x) (fun x => x)
  replace hB3 := hB3.mono st8.toNo (fun x => x)
  replace tot := tot.trans st8.toNo.pure
  refine NX.post ?_
  exact ⟨decide (x2 > (getI l1 x3).f2), ⟨by kernel_rfl, by kernel_rfl⟩, tot, hB1, hR1, hB3, hs⟩
 clear tot hs hB1 hR1 hB3
 rintro tm g ⟨q1, hF, tot, hB1, hR1, hB3, hs⟩
 clear ds
 obtain ⟨ds, rfl⟩ := hF.open
 clear hF
 unfold F.purse_Purse_Free_1.c1 at hs
 refine CP.cond (b := q1) (by kernel_rfl) (fun h3 => ?_) (fun h3 => ?_)
 ·replace hs := of_if_t hs h3
  refine CP.seqR ?_
  refine WP.stl 1 ?_
  refine WP.dn ?_
  refine NX.then_n ?_
  refine CP.ret ?_
  refine NX.block_r ?_
  refine NX.then_r ?_
  obtain ⟨g5, hw2, st5, hnew⟩ := hR1.freeze (by omega)
  refine NX.regw hw2 ?_
  replace hB1 := hB1.mono st5 (WL.no1 (by omega))
  replace tot := tot.trans (st5.up1 (.inl (by simp [WL])))
  clear hR1
  have hR1 := hnew
  clear hnew
  replace hs := Option.some.inj hs
  simp only [Prod.mk.injEq] at hs
  obtain ⟨rfl, rfl, rfl, rfl, rfl⟩ := hs
  exact NX.fin (v := .int .i64 2) (Res.still (by kernel_rfl)) tot htL ⟨a1, n1, c1, rfl, hR1, hB1⟩
 replace hs := of_if_f hs h3
 refine CP.skip ?_
 refine NX.block_n ?_
 refine NX.then_n ?_
 refine CP.seqR ?_
 refine WP.stl 2 ?_
 refine WP.loadB (v := .int .i64 x2) hB3 (by kernel_rfl) (by kernel_rfl) ?_
 replace hs := Option.bind_eq_some_iff.1 hs
 obtain ⟨⟨d4, x4, d5, d6⟩, hk2, hs⟩ := hs
 dsimp only at hs
 have hcal2 := P.purse_Purse_part g m0 m1 d1 x1 d2 l1 x3 x2 a1 n1 c1 b1 hR1 hB1 (by omega) (by omega) (by omega) d4 x4 d5 d6 hk2
 refine WP.callC hcal2 (by kernel_rfl) ?_
 rintro _ g6 st6 ⟨a2, n2, c2, rfl, hR2, hB4⟩
 replace hB3 := hB3.mono st6 (WL.no2 (by omega) (by omega))
 replace tot := tot.trans (st6.up2 (.inl (by simp [WL])) (.inl (by simp [WL])))
 clear hB1
 have hB1 := hB4
 clear hB4
 refine WP.dn ?_
 refine NX.then_n ?_
 refine CP.seqR ?_
 refine WP.stl 1 ?_
 refine WP.dn ?_
 refine NX.then_n ?_
 refine CP.ret ?_
 replace hs := Option.some.inj hs
 simp only [Prod.mk.injEq] at hs
 obtain ⟨rfl, rfl, rfl, rfl, rfl⟩ := hs
 exact NX.fin (v := .int .i64 0) (Res.still (by kernel_rfl)) tot htL ⟨a2, n2, c2, rfl, hR2, hB1⟩
def F.purse_Purse_next_2 (d1 : Arr Int 8) (x1 : Int) (d2 : Arr Int 2) (l1 : List S_purse_Held) (d3 : Arr Int 8) (x2 : Int) : Option ((Arr Int 8) × Int × (Arr Int 2) × (List S_purse_Held) × Int) := ((F.purse_Purse_Check d1 x1 d2 l1).bind fun x3 => (if (x3 != 0) = true then (some ((zA 8), 0, (zA 2), [], 3)) else (if (x1 == 1099511627776) = true then (some ((zA 8), 0, (zA 2), [], 17)) else ((F.slices_Clone_purse_Held_purse_Held l1).bind fun l2 => ((F.purse_Purse_Free_1 d1 (IntKind.i64.wrap (x1 + 1)) d2 l2 d3 x2).bind fun (x4, d4, x5, d5, d6) => (if (x4 != 0) = true then (some ((zA 8), 0, (zA 2), [], x4)) else (some (d4, x5, d5, d6, 0))))))))
theorem P.purse_Purse_next_2 (g0 : GW) (m0 : Nat) (m1 : Nat) (d1 : Arr Int 8) (x1 : Int) (d2 : Arr Int 2) (l1 : List S_purse_Held) (d3 : Arr Int 8) (x2 : Int) (a1 : Option Addr) (n1 : Nat) (c1 : Nat) (b1 : Nat) (b2 : Nat) (hR1 : RdS k_S_purse_Held g0 56 a1 n1 c1 l1) (hB1 : Box g0 m0 b1 29 [encA .u8 d3] [8]) (hB2 : Box g0 m1 b2 3 [[.int .i64 x2]] [1]) (hm1_0 : m1 ≠ m0) (hm0 : m0 ≠ 0) (hm1 : m1 ≠ 0) (o1 : Arr Int 8) (o2 : Int) (o3 : Arr Int 2) (o4 : List S_purse_Held) (o5 : Int) (hs : F.purse_Purse_next_2 d1 x1 d2 l1 d3 x2 = some (o1, o2, o3, o4, o5)) :
  Calls Try.prog 51 #[AG [encA .u8 d1, [.int .i64 x1], encA .i64 d2, [.slice a1 n1 c1]], .func (.func 52) #[] #[.pointer (some ⟨b1, 0, none⟩), .pointer (some ⟨b2, 0, none⟩)]] g0.w (Ret NoM g0 fun v g => ∃ (a_1 : Option Addr) (n_1 : Nat) (c_1 : Nat), v = .tuple #[AG [encA .u8 o1, [.int .i64 o2], encA .i64 o3, [.slice a_1 n_1 c_1]], .int .i64 o5] ∧ RdS k_S_purse_Held g 56 a_1 n_1 c_1 o4) := by
 refine calls_of (args := [AG [encA .u8 d1, [.int .i64 x1], encA .i64 d2, [.slice a1 n1 c1]], .func (.func 52) #[] #[.pointer (some ⟨b1, 0, none⟩), .pointer (some ⟨b2, 0, none⟩)]]) Try.func51 rfl (m0 + m1 + 0) ?_
 intro t ht htL
 refine ⟨_, rfl, ?_⟩
 refine CP.refr 34 [(0, AG [encA .u8 d1, [.int .i64 x1], encA .i64 d2, [.slice a1 n1 c1]]), (1, .func (.func 52) #[] #[.pointer (some ⟨b1, 0, none⟩), .pointer (some ⟨b2, 0, none⟩)])] (by kernel_rfl) (by kernel_rfl) ?_
 intro ds
 have tot : Step (fun l => NoM l ∨ t ≤ l) g0 g0 := Step.refl _ _
 unfold F.purse_Purse_next_2 at hs
 refine CP.seqR ?_
 refine WP.alloc (T := 32) (t + 1) [encA .u8 d1, [.int .i64 x1], encA .i64 d2, [.slice a1 n1 c1]] [8, 1, 2, 1] (by kernel_rfl) (by simp [len_encA]) ?_
 intro g1 b3 st1 hB3
 replace hR1 := hR1.mono st1 (fun x => x)
 replace hB1 := hB1.mono st1 (fun x => x)
 replace hB2 := hB2.mono st1 (fun x => x)
 replace tot := tot.trans st1.pure
 refine WP.alloc (T := 32) (t + 2) [encA .u8 (zA 8), [.int .i64 0], encA .i64 (zA 2), [.slice none 0 0]] [8, 1, 2, 1] (by kernel_rfl) (by simp [len_encA]) ?_
 intro g2 b4 st2 hB4
 replace hR1 := hR1.mono st2 (fun x => x)
 replace hB1 := hB1.mono st2 (fun x => x)
 replace hB2 := hB2.mono st2 (fun x => x)
 replace hB3 := hB3.mono st2 (fun x => x)
 replace tot := tot.trans st2.pure
 refine WP.stl 1 ?_
 refine WP.dn ?_
 refine NX.then_n ?_
 refine CP.seq ?_
 refine CP.block ?_
 refine CP.seqR ?_
 refine WP.loadB (v := AG [encA .u8 d1, [.int .i64 x1], encA .i64 d2, [.slice a1 n1 c1]]) hB3 (by kernel_rfl) (by kernel_rfl) ?_
 replace hs := Option.bind_eq_some_iff.1 hs
 obtain ⟨x3, hk1, hs⟩ := hs
 have hcal1 := P.purse_Purse_Check g2 d1 x1 d2 l1 a1 n1 c1 hR1 x3 hk1
 refine WP.callC hcal1 (by kernel_rfl) ?_
 rintro _ g3 st3 rfl
 replace hB1 := hB1.mono st3 (fun x => x)
 replace hB2 := hB2.mono st3 (fun x => x)
 replace hB3 := hB3.mono st3 (fun x => x)
 replace hR1 := hR1.mono st3 (fun x => x)
 replace hB4 := hB4.mono st3 (fun x => x)
 replace tot := tot.trans st3.pure
 refine WP.stl 2 ?_
 refine WP.dn ?_
 refine NX.then_n ?_
 refine CP.cond (b := (x3 != 0)) (by kernel_rfl) (fun h1 => ?_) (fun h1 => ?_)
 ·replace hs := of_if_t hs h1
  refine CP.seqR ?_
  refine WP.buildS (places := #[(0, 8), (8, 1), (9, 2), (11, 1)]) (t := 32) [encA .u8 (zA 8), [.int .i64 0], encA .i64 (zA 2), [.slice none 0 0]] [8, 1, 2, 1] (by kernel_rfl) (by kernel_rfl) (by simp [len_encA]) (by kernel_rfl) (.nil) ?_
  refine WP.storeB (ty := 32) (off := 0) (v := AG [encA .u8 (zA 8), [.int .i64 0], encA .i64 (zA 2), [.slice none 0 0]]) hB4 [encA .u8 (zA 8), [.int .i64 0], encA .i64 (zA 2), [.slice none 0 0]] [8, 1, 2, 1] (by kernel_rfl) (by kernel_rfl) (by simp [len_encA]) (by kernel_rfl) [encA .u8 (zA 8), [.int .i64 0], encA .i64 (zA 2), [.slice none 0 0]] (by kernel_rfl) (.arr (.one rfl (.arr (.one rfl .nil)))) ?_
  intro g4 st4 hB5
  replace hB1 := hB1.mono st4 (WL.no1 (by omega))
  replace hB2 := hB2.mono st4 (WL.no1 (by omega))
  replace hB3 := hB3.mono st4 (WL.no1 (by omega))
  replace hR1 := hR1.mono st4 (WL.no1 (by omega))
  replace tot := tot.trans (st4.up1 (.inr (by omega)))
  clear hB4
  have hB4 := hB5
  clear hB5
  refine WP.stl 1 ?_
  refine WP.dn ?_
  refine NX.then_n ?_
  refine CP.ret ?_
  refine NX.block_r ?_
  refine NX.then_r ?_
  replace hs := Option.some.inj hs
  simp only [Prod.mk.injEq] at hs
  obtain ⟨rfl, rfl, rfl, rfl, rfl⟩ := hs
  exact NX.fin (v := .tuple #[AG [encA .u8 (zA 8), [.int .i64 0], encA .i64 (zA 2), [.slice none 0 0]], .int .i64 3]) (Res.two rfl (RV.box (agg := true) (size := 12) (rs := [encA .u8 (zA 8), [.int .i64 0], encA .i64 (zA 2), [.slice none 0 0]]) hB4 (by kernel_rfl) (by kernel_rfl) (by kernel_rfl) (by kernel_rfl)) (RV.tmp (by kernel_rfl))) tot htL ⟨none, 0, 0, rfl, (RdS.nil _ _ _)⟩
 replace hs := of_if_f hs h1
 refine CP.seqR ?_
 refine WP.stl 1 ?_
 refine WP.loadB (v := .int .i64 x1) hB3 (by kernel_rfl) (by kernel_rfl) ?_
 refine WP.stl 2 ?_
 refine WP.dn ?_
 refine NX.then_n ?_
 refine CP.cond (b := (x1 == 1099511627776)) (by kernel_rfl) (fun h2 => ?_) (fun h2 => ?_)
 ·replace hs := of_if_t hs h2
  refine CP.seqR ?_
  refine WP.buildS (places := #[(0, 8), (8, 1), (9, 2), (11, 1)]) (t := 32) [encA .u8 (zA 8), [.int .i64 0], encA .i64 (zA 2), [.slice none 0 0]] [8, 1, 2, 1] (by kernel_rfl) (by kernel_rfl) (by simp [len_encA]) (by kernel_rfl) (.nil) ?_
  refine WP.storeB (ty := 32) (off := 0) (v := AG [encA .u8 (zA 8), [.int .i64 0], encA .i64 (zA 2), [.slice none 0 0]]) hB4 [encA .u8 (zA 8), [.int .i64 0], encA .i64 (zA 2), [.slice none 0 0]] [8, 1, 2, 1] (by kernel_rfl) (by kernel_rfl) (by simp [len_encA]) (by kernel_rfl) [encA .u8 (zA 8), [.int .i64 0], encA .i64 (zA 2), [.slice none 0 0]] (by kernel_rfl) (.arr (.one rfl (.arr (.one rfl .nil)))) ?_
  intro g5 st5 hB6
  replace hB1 := hB1.mono st5 (WL.no1 (by omega))
  replace hB2 := hB2.mono st5 (WL.no1 (by omega))
  replace hB3 := hB3.mono st5 (WL.no1 (by omega))
  replace hR1 := hR1.mono st5 (WL.no1 (by omega))
  replace tot := tot.trans (st5.up1 (.inr (by omega)))
  clear hB4
  have hB4 := hB6
  clear hB6
  refine WP.stl 1 ?_
  refine WP.dn ?_
  refine NX.then_n ?_
  refine CP.refr 34 [(4, .pointer (some ⟨b4, 0, none⟩)), (5, .int .i64 17)] (by kernel_rfl) (by kernel_rfl) ?_
  clear ds
  intro ds
  refine CP.ret ?_
  refine NX.block_r ?_
  refine NX.then_r ?_
  replace hs := Option.some.inj hs
  simp only [Prod.mk.injEq] at hs
  obtain ⟨rfl, rfl, rfl, rfl, rfl⟩ := hs
  exact NX.fin (v := .tuple #[AG [encA .u8 (zA 8), [.int .i64 0], encA .i64 (zA 2), [.slice none 0 0]], .int .i64 17]) (Res.two rfl (RV.box (agg := true) (size := 12) (rs := [encA .u8 (zA 8), [.int .i64 0], encA .i64 (zA 2), [.slice none 0 0]]) hB4 (by kernel_rfl) (by kernel_rfl) (by kernel_rfl) (by kernel_rfl)) (RV.tmp (by kernel_rfl))) tot htL ⟨none, 0, 0, rfl, (RdS.nil _ _ _)⟩
 replace hs := of_if_f hs h2
 refine CP.skip ?_
 refine NX.block_n ?_
 refine NX.then_n ?_
 refine CP.seqR ?_
 refine WP.loadB (v := AG [encA .u8 d1, [.int .i64 x1], encA .i64 d2, [.slice a1 n1 c1]]) hB3 (by kernel_rfl) (by kernel_rfl) ?_
 refine WP.alloc (T := 32) (t + 3) [encA .u8 (zA 8), [.int .i64 0], encA .i64 (zA 2), [.slice none 0 0]] [8, 1, 2, 1] (by kernel_rfl) (by simp [len_encA]) ?_
 intro g6 b5 st6 hB7
 replace hB1 := hB1.mono st6 (fun x => x)
 replace hB2 := hB2.mono st6 (fun x => x)
 replace hB3 := hB3.mono st6 (fun x => x)
 replace hR1 := hR1.mono st6 (fun x => x)
 replace hB4 := hB4.mono st6 (fun x => x)
 replace tot := tot.trans st6.pure
 refine WP.storeB (ty := 32) (off := 0) (v := AG [encA .u8 d1, [.int .i64 x1], encA .i64 d2, [.slice a1 n1 c1]]) hB7 [encA .u8 d1, [.int .i64 x1], encA .i64 d2, [.slice a1 n1 c1]] [8, 1, 2, 1] (by kernel_rfl) (by kernel_rfl) (by simp [len_encA]) (by kernel_rfl) [encA .u8 d1, [.int .i64 x1], encA .i64 d2, [.slice a1 n1 c1]] (by kernel_rfl) (.arr (.one rfl (.arr (.one rfl .nil)))) ?_
 intro g7 st7 hB8
 replace hB1 := hB1.mono st7 (WL.no1 (by omega))
 replace hB2 := hB2.mono st7 (WL.no1 (by omega))
 replace hB3 := hB3.mono st7 (WL.no1 (by omega))
 replace hR1 := hR1.mono st7 (WL.no1 (by omega))
 replace hB4 := hB4.mono st7 (WL.no1 (by omega))
 replace tot := tot.trans (st7.up1 (.inr (by omega)))
 clear hB7
 have hB7 := hB8
 clear hB8
 refine WP.dn ?_
 refine NX.then_n ?_
 refine CP.refr 34 [(1, .func (.func 52) #[] #[.pointer (some ⟨b1, 0, none⟩), .pointer (some ⟨b2, 0, none⟩)]), (2, .pointer (some ⟨b3, 0, none⟩)), (4, .pointer (some ⟨b4, 0, none⟩)), (6, .pointer (some ⟨b5, 0, none⟩))] (by kernel_rfl) (by kernel_rfl) ?_
 clear ds
 intro ds
 refine CP.seqR ?_
 refine WP.stl 1 ?_
 refine WP.loadB (v := .int .i64 x1) hB7 (by kernel_rfl) (by kernel_rfl) ?_
 refine WP.stl 2 ?_
 refine WP.storeB (ty := 3) (off := 8) (v := .int .i64 (IntKind.i64.wrap (x1 + 1))) hB7 [[.int .i64 (IntKind.i64.wrap (x1 + 1))]] [1] (by kernel_rfl) (by kernel_rfl) rfl (by kernel_rfl) [encA .u8 d1, [.int .i64 (IntKind.i64.wrap (x1 + 1))], encA .i64 d2, [.slice a1 n1 c1]] (by kernel_rfl) (.one rfl .nil) ?_
 intro g8 st8 hB9
 replace hB1 := hB1.mono st8 (WL.no1 (by omega))
 replace hB2 := hB2.mono st8 (WL.no1 (by omega))
 replace hB3 := hB3.mono st8 (WL.no1 (by omega))
 replace hR1 := hR1.mono st8 (WL.no1 (by omega))
 replace hB4 := hB4.mono st8 (WL.no1 (by omega))
 replace tot := tot.trans (st8.up1 (.inr (by omega)))
 clear hB7
 have hB7 := hB9
 clear hB9
 refine WP.dn ?_
 refine NX.then_n ?_
 refine CP.seqR ?_
 refine WP.stl 1 ?_
 refine WP.loadB (v := .slice a1 n1 c1) hB3 (by kernel_rfl) (by kernel_rfl) ?_
 replace hs := Option.bind_eq_some_iff.1 hs
 obtain ⟨l2, hk2, hs⟩ := hs
 have hcal2 := P.slices_Clone_purse_Held_purse_Held g8 (t + 4) l1 a1 n1 c1 hR1 l2 hk2
 refine WP.callC hcal2 (by kernel_rfl) ?_
 rintro _ g9 st9 ⟨a2, n2, c2, rfl, hR2⟩
 replace hB1 := hB1.mono st9 (fun x => x)
 replace hB2 := hB2.mono st9 (fun x => x)
 replace hB3 := hB3.mono st9 (fun x => x)
 replace hR1 := hR1.mono st9 (fun x => x)
 replace hB4 := hB4.mono st9 (fun x => x)
 replace hB7 := hB7.mono st9 (fun x => x)
 replace tot := tot.trans st9.pure
 refine WP.stl 1 ?_
 refine WP.storeB (ty := 30) (off := 11) (v := .slice a2 n2 c2) hB7 [[.slice a2 n2 c2]] [1] (by kernel_rfl) (by kernel_rfl) rfl (by kernel_rfl) [encA .u8 d1, [.int .i64 (IntKind.i64.wrap (x1 + 1))], encA .i64 d2, [.slice a2 n2 c2]] (by kernel_rfl) (.one rfl .nil) ?_
 intro g10 st10 hB10
 replace hB1 := hB1.mono st10 (WL.no1 (by omega))
 replace hB2 := hB2.mono st10 (WL.no1 (by omega))
 replace hB3 := hB3.mono st10 (WL.no1 (by omega))
 replace hR1 := hR1.mono st10 (WL.no1 (by omega))
 replace hB4 := hB4.mono st10 (WL.no1 (by omega))
 replace hR2 := hR2.mono st10 (WL.no1 (by omega)) (WL.no1 (by omega))
 replace tot := tot.trans (st10.up1 (.inr (by omega)))
 clear hB7
 have hB7 := hB10
 clear hB10
 refine WP.dn ?_
 refine NX.then_n ?_
 refine CP.seq ?_
 refine CP.seqR ?_
 refine WP.stl 1 ?_
 replace hs := Option.bind_eq_some_iff.1 hs
 obtain ⟨⟨x4, d4, x5, d5, d6⟩, hk3, hs⟩ := hs
 dsimp only at hs
 have hcal3 := P.purse_Purse_Free_1 g10 (t + 3) (t + 4) m0 m1 d1 (IntKind.i64.wrap (x1 + 1)) d2 l2 d3 x2 a2 n2 c2 b5 b1 b2 hR2 hB7 hB1 hB2 (by omega) (by omega) (by omega) (by omega) (by omega) (by omega) (by omega) (by omega) (by omega) (by omega) x4 d4 x5 d5 d6 hk3
 refine WP.callC hcal3 (by kernel_rfl) ?_
 rintro _ g11 st11 ⟨a3, n3, c3, rfl, hR3, hB11⟩
 replace hB1 := hB1.mono st11 (WL.no2 (by omega) (by omega))
 replace hB2 := hB2.mono st11 (WL.no2 (by omega) (by omega))
 replace hB4 := hB4.mono st11 (WL.no2 (by omega) (by omega))
 replace tot := tot.trans (st11.up2 (.inr (by omega)) (.inr (by omega)))
 clear hB7
 have hB7 := hB11
 clear hB11
 refine WP.stl 1 ?_
 refine WP.dn ?_
 refine NX.then_n ?_
 refine CP.refr 34 [(4, .pointer (some ⟨b4, 0, none⟩)), (6, .pointer (some ⟨b5, 0, none⟩)), (7, .int .i64 x4)] (by kernel_rfl) (by kernel_rfl) ?_
 clear ds
 intro ds
 refine CP.seqR ?_
 refine WP.stl 2 ?_
 refine WP.dn ?_
 refine NX.then_n ?_
 refine CP.cond (b := (x4 != 0)) (by kernel_rfl) (fun h3 => ?_) (fun h3 => ?_)
 ·replace hs := of_if_t hs h3
  refine CP.seqR ?_
  refine WP.buildS (places := #[(0, 8), (8, 1), (9, 2), (11, 1)]) (t := 32) [encA .u8 (zA 8), [.int .i64 0], encA .i64 (zA 2), [.slice none 0 0]] [8, 1, 2, 1] (by kernel_rfl) (by kernel_rfl) (by simp [len_encA]) (by kernel_rfl) (.nil) ?_
  refine WP.stl 1 ?_
  refine WP.storeB (ty := 32) (off := 0) (v := AG [encA .u8 (zA 8), [.int .i64 0], encA .i64 (zA 2), [.slice none 0 0]]) hB4 [encA .u8 (zA 8), [.int .i64 0], encA .i64 (zA 2), [.slice none 0 0]] [8, 1, 2, 1] (by kernel_rfl) (by kernel_rfl) (by simp [len_encA]) (by kernel_rfl) [encA .u8 (zA 8), [.int .i64 0], encA .i64 (zA 2), [.slice none 0 0]] (by kernel_rfl) (.arr (.one rfl (.arr (.one rfl .nil)))) ?_
  intro g12 st12 hB12
  replace hB7 := hB7.mono st12 (WL.no1 (by omega))
  replace hR3 := hR3.mono st12 (WL.no1 (by omega))
  replace tot := tot.trans (st12.up1 (.inr (by omega)))
  clear hB4
  have hB4 := hB12
  clear hB12
  refine WP.stl 1 ?_
  refine WP.dn ?_
  refine NX.then_n ?_
  refine CP.ret ?_
  refine NX.then_r ?_
  replace hs := Option.some.inj hs
  simp only [Prod.mk.injEq] at hs
  obtain ⟨rfl, rfl, rfl, rfl, rfl⟩ := hs
  exact NX.fin (v := .tuple #[AG [encA .u8 (zA 8), [.int .i64 0], encA .i64 (zA 2), [.slice none 0 0]], .int .i64 x4]) (Res.two rfl (RV.box (agg := true) (size := 12) (rs := [encA .u8 (zA 8), [.int .i64 0], encA .i64 (zA 2), [.slice none 0 0]]) hB4 (by kernel_rfl) (by kernel_rfl) (by kernel_rfl) (by kernel_rfl)) (RV.tmp (by kernel_rfl))) tot htL ⟨none, 0, 0, rfl, (RdS.nil _ _ _)⟩
 replace hs := of_if_f hs h3
 refine CP.skip ?_
 refine NX.then_n ?_
 refine CP.seqR ?_
 refine WP.loadB (v := AG [encA .u8 d4, [.int .i64 x5], encA .i64 d5, [.slice a3 n3 c3]]) hB7 (by kernel_rfl) (by kernel_rfl) ?_
 refine WP.storeB (ty := 32) (off := 0) (v := AG [encA .u8 d4, [.int .i64 x5], encA .i64 d5, [.slice a3 n3 c3]]) hB4 [encA .u8 d4, [.int .i64 x5], encA .i64 d5, [.slice a3 n3 c3]] [8, 1, 2, 1] (by kernel_rfl) (by kernel_rfl) (by simp [len_encA]) (by kernel_rfl) [encA .u8 d4, [.int .i64 x5], encA .i64 d5, [.slice a3 n3 c3]] (by kernel_rfl) (.arr (.one rfl (.arr (.one rfl .nil)))) ?_
 intro g13 st13 hB13
 replace hR3 := hR3.mono st13 (WL.no1 (by omega))
 replace hB7 := hB7.mono st13 (WL.no1 (by omega))
 replace tot := tot.trans (st13.up1 (.inr (by omega)))
 clear hB4
 have hB4 := hB13
 clear hB13
 refine WP.stl 1 ?_
 refine WP.dn ?_
 refine NX.then_n ?_
 refine CP.ret ?_
 replace hs := Option.some.inj hs
 simp only [Prod.mk.injEq] at hs
 obtain ⟨rfl, rfl, rfl, rfl, rfl⟩ := hs
 exact NX.fin (v := .tuple #[AG [encA .u8 d4, [.int .i64 x5], encA .i64 d5, [.slice a3 n3 c3]], .int .i64 0]) (Res.two rfl (RV.box (agg := true) (size := 12) (rs := [encA .u8 d4, [.int .i64 x5], encA .i64 d5, [.slice a3 n3 c3]]) hB4 (by kernel_rfl) (by kernel_rfl) (by kernel_rfl) (by kernel_rfl)) (RV.tmp (by kernel_rfl))) tot htL ⟨a3, n3, c3, rfl, hR3⟩
def F.purse_Purse_Free (d1 : Arr Int 8) (x1 : Int) (d2 : Arr Int 2) (l1 : List S_purse_Held) (d3 : Arr Int 8) (x2 : Int) : Option ((Arr Int 8) × Int × (Arr Int 2) × (List S_purse_Held) × Int) := ((F.purse_Purse_next_2 d1 x1 d2 l1 d3 x2).bind fun (d4, x3, d5, l2, x4) => (some (d4, x3, d5, l2, x4)))
theorem P.purse_Purse_Free (g0 : GW) (d1 : Arr Int 8) (x1 : Int) (d2 : Arr Int 2) (l1 : List S_purse_Held) (d3 : Arr Int 8) (x2 : Int) (a1 : Option Addr) (n1 : Nat) (c1 : Nat) (hR1 : RdS k_S_purse_Held g0 56 a1 n1 c1 l1) (o1 : Arr Int 8) (o2 : Int) (o3 : Arr Int 2) (o4 : List S_purse_Held) (o5 : Int) (hs : F.purse_Purse_Free d1 x1 d2 l1 d3 x2 = some (o1, o2, o3, o4, o5)) :
  Calls Try.prog 22 #[AG [encA .u8 d1, [.int .i64 x1], encA .i64 d2, [.slice a1 n1 c1]], AG [encA .u8 d3], .int .i64 x2] g0.w (Ret NoM g0 fun v g => ∃ (a_1 : Option Addr) (n_1 : Nat) (c_1 : Nat), v = .tuple #[AG [encA .u8 o1, [.int .i64 o2], encA .i64 o3, [.slice a_1 n_1 c_1]], .int .i64 o5] ∧ RdS k_S_purse_Held g 56 a_1 n_1 c_1 o4) := by
 refine calls_of (args := [AG [encA .u8 d1, [.int .i64 x1], encA .i64 d2, [.slice a1 n1 c1]], AG [encA .u8 d3], .int .i64 x2]) Try.func22 rfl (0) ?_
 intro t ht htL
 refine ⟨_, rfl, ?_⟩
 refine CP.refr 13 [(0, AG [encA .u8 d1, [.int .i64 x1], encA .i64 d2, [.slice a1 n1 c1]]), (1, AG [encA .u8 d3]), (2, .int .i64 x2)] (by kernel_rfl) (by kernel_rfl) ?_
 intro ds
 have tot : Step (fun l => NoM l ∨ t ≤ l) g0 g0 := Step.refl _ _
 unfold F.purse_Purse_Free at hs
 refine CP.seqR ?_
 refine WP.alloc (T := 32) (t + 1) [encA .u8 d1, [.int .i64 x1], encA .i64 d2, [.slice a1 n1 c1]] [8, 1, 2, 1] (by kernel_rfl) (by simp [len_encA]) ?_
 intro g1 b1 st1 hB1
 replace hR1 := hR1.mono st1 (fun x => x)
 replace tot := tot.trans st1.pure
 refine WP.alloc (T := 29) (t + 2) [encA .u8 d3] [8] (by kernel_rfl) (by simp [len_encA]) ?_
 intro g2 b2 st2 hB2
 replace hR1 := hR1.mono st2 (fun x => x)
 replace hB1 := hB1.mono st2 (fun x => x)
 replace tot := tot.trans st2.pure
 refine WP.alloc (T := 3) (t + 3) [[.int .i64 x2]] [1] (by kernel_rfl) rfl ?_
 intro g3 b3 st3 hB3
 replace hR1 := hR1.mono st3 (fun x => x)
 replace hB1 := hB1.mono st3 (fun x => x)
 replace hB2 := hB2.mono st3 (fun x => x)
 replace tot := tot.trans st3.pure
 refine WP.alloc (T := 32) (t + 4) [encA .u8 (zA 8), [.int .i64 0], encA .i64 (zA 2), [.slice none 0 0]] [8, 1, 2, 1] (by kernel_rfl) (by simp [len_encA]) ?_
 intro g4 b4 st4 hB4
 replace hR1 := hR1.mono st4 (fun x => x)
 replace hB1 := hB1.mono st4 (fun x => x)
 replace hB2 := hB2.mono st4 (fun x => x)
 replace hB3 := hB3.mono st4 (fun x => x)
 replace tot := tot.trans st4.pure
 refine WP.stl 1 ?_
 refine WP.dn ?_
 refine NX.then_n ?_
 refine CP.seqR ?_
 refine WP.loadB (v := AG [encA .u8 d1, [.int .i64 x1], encA .i64 d2, [.slice a1 n1 c1]]) hB1 (by kernel_rfl) (by kernel_rfl) ?_
 refine WP.stl 1 ?_
 replace hs := Option.bind_eq_some_iff.1 hs
 obtain ⟨⟨d4, x3, d5, l2, x4⟩, hk1, hs⟩ := hs
 dsimp only at hs
 have hcal1 := P.purse_Purse_next_2 g4 (t + 2) (t + 3) d1 x1 d2 l1 d3 x2 a1 n1 c1 b2 b3 hR1 hB2 hB3 (by omega) (by omega) (by omega) d4 x3 d5 l2 x4 hk1
 refine WP.callC hcal1 (by kernel_rfl) ?_
 rintro _ g5 st5 ⟨a2, n2, c2, rfl, hR2⟩
 replace hB1 := hB1.mono st5 (fun x => x)
 replace hR1 := hR1.mono st5 (fun x => x)
 replace hB2 := hB2.mono st5 (fun x => x)
 replace hB3 := hB3.mono st5 (fun x => x)
 replace hB4 := hB4.mono st5 (fun x => x)
 replace tot := tot.trans st5.pure
 refine WP.stl 2 ?_
 refine WP.storeB (ty := 32) (off := 0) (v := AG [encA .u8 d4, [.int .i64 x3], encA .i64 d5, [.slice a2 n2 c2]]) hB4 [encA .u8 d4, [.int .i64 x3], encA .i64 d5, [.slice a2 n2 c2]] [8, 1, 2, 1] (by kernel_rfl) (by kernel_rfl) (by simp [len_encA]) (by kernel_rfl) [encA .u8 d4, [.int .i64 x3], encA .i64 d5, [.slice a2 n2 c2]] (by kernel_rfl) (.arr (.one rfl (.arr (.one rfl .nil)))) ?_
 intro g6 st6 hB5
 replace hB1 := hB1.mono st6 (WL.no1 (by omega))
 replace hR1 := hR1.mono st6 (WL.no1 (by omega))
 replace hB2 := hB2.mono st6 (WL.no1 (by omega))
 replace hB3 := hB3.mono st6 (WL.no1 (by omega))
 replace hR2 := hR2.mono st6 (WL.no1 (by omega))
 replace tot := tot.trans (st6.up1 (.inr (by omega)))
 clear hB4
 have hB4 := hB5
 clear hB5
 refine WP.stl 1 ?_
 refine WP.dn ?_
 refine NX.then_n ?_
 refine CP.ret ?_
 replace hs := Option.some.inj hs
 simp only [Prod.mk.injEq] at hs
 obtain ⟨rfl, rfl, rfl, rfl, rfl⟩ := hs
 exact NX.fin (v := .tuple #[AG [encA .u8 d4, [.int .i64 x3], encA .i64 d5, [.slice a2 n2 c2]], .int .i64 x4]) (Res.two rfl (RV.box (agg := true) (size := 12) (rs := [encA .u8 d4, [.int .i64 x3], encA .i64 d5, [.slice a2 n2 c2]]) hB4 (by kernel_rfl) (by kernel_rfl) (by kernel_rfl) (by kernel_rfl)) (RV.tmp (by kernel_rfl))) tot htL ⟨a2, n2, c2, rfl, hR2⟩
end Go.Proofs.Yticlfbpmfejdoaa
