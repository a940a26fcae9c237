/-
  Walks, written by program: each Go function computes the plain function of its name, in whatever world its arguments' facts hold.
-/
import Derived.Test.YtlnockimfgfcgaaRows
import Derived.Test.YtlnockimfgfcgaaLabN
namespace Go.Proofs.Ytlnockimfgfcgaa
open Go.RowKit Go.Lab
attribute [local irreducible] WP CP NX wpList Code.wp Calls
set_option maxRecDepth 100000
set_option maxHeartbeats 4000000
set_option linter.unusedVariables false
def str_0 : ByteArray := ⟨#[115, 116, 97, 116, 101]⟩
def str_1 : ByteArray := ⟨#[108, 101, 110, 32, 111, 117, 116, 32, 111, 102, 32, 114, 97, 110, 103, 101]⟩
def str_2 : ByteArray := ⟨#[99, 97, 110, 110, 111, 116, 32, 98, 101, 32, 110, 101, 103, 97, 116, 105, 118, 101]⟩
def str_3 : ByteArray := ⟨#[97, 99, 116]⟩
structure S_notary_entry where
  f1 : (Arr Int 8)
  f2 : (Arr Int 8)
  deriving Inhabited
def k_S_notary_entry : Kd S_notary_entry := Kd.pull (Kd.pair (Kd.arrI 8 .u8) (Kd.arrI 8 .u8)) (fun x => (x.f1, x.f2))
theorem k_S_notary_entry.opn {g : GW} {cs : List Value} {x : S_notary_entry} (h : k_S_notary_entry.R g cs x) : cs = [encA .u8 x.f1, encA .u8 x.f2].flatten := by
  obtain ⟨q0, d0, rfl, h0, h1⟩ := h
  replace h0 : q0 = encA .u8 x.f1 := h0
  subst h0
  replace h1 : d0 = encA .u8 x.f2 := h1
  subst h1
  exact by simp
theorem k_S_notary_entry.mk {g : GW} {s0 s1 : List Value} {f0 : (Arr Int 8)} {f1 : (Arr Int 8)} (h0 : ((Kd.arrI 8 .u8)).R g s0 f0) (h1 : ((Kd.arrI 8 .u8)).R g s1 f1) : k_S_notary_entry.R g [s0, s1].flatten ⟨f0, f1⟩ := by
  refine ⟨_, _, rfl, h0, (by simpa using h1)⟩
structure S_baizeref34_Thing where
  f1 : Int
  f2 : (Arr Int 8)
  f3 : Int
  f4 : (Arr Int 8)
  f5 : (List Int)
  f6 : (List Int)
  f7 : Bool
  deriving Inhabited
def k_S_baizeref34_Thing : Kd S_baizeref34_Thing := Kd.pull (Kd.pair (Kd.int .i64) (Kd.pair (Kd.arrI 8 .u8) (Kd.pair (Kd.int .i64) (Kd.pair (Kd.arrI 8 .u8) (Kd.pair (Kd.slice 5 (Kd.int .u8)) (Kd.pair (Kd.slice 5 (Kd.int .u8)) Kd.bool)))))) (fun x => (x.f1, x.f2, x.f3, x.f4, x.f5, x.f6, x.f7))
theorem k_S_baizeref34_Thing.opn {g : GW} {cs : List Value} {x : S_baizeref34_Thing} (h : k_S_baizeref34_Thing.R g cs x) : ∃ (a4 : Option Addr) (n4 : Nat) (c4 : Nat) (a5 : Option Addr) (n5 : Nat) (c5 : Nat), cs = [[.int .i64 x.f1], encA .u8 x.f2, [.int .i64 x.f3], encA .u8 x.f4, [.slice a4 n4 c4], [.slice a5 n5 c5], [.bool x.f7]].flatten ∧ RdS (Kd.int .u8) g 5 a4 n4 c4 x.f5 ∧ RdS (Kd.int .u8) g 5 a5 n5 c5 x.f6 := by
  obtain ⟨q0, d0, rfl, h0, q1, d1, rfl, h1, q2, d2, rfl, h2, q3, d3, rfl, h3, q4, d4, rfl, h4, q5, d5, rfl, h5, h6⟩ := h
  replace h0 : q0 = [.int .i64 x.f1] := h0
  subst h0
  replace h1 : q1 = encA .u8 x.f2 := h1
  subst h1
  replace h2 : q2 = [.int .i64 x.f3] := h2
  subst h2
  replace h3 : q3 = encA .u8 x.f4 := h3
  subst h3
  obtain ⟨a4, n4, c4, h4, hr4⟩ := h4
  subst h4
  obtain ⟨a5, n5, c5, h5, hr5⟩ := h5
  subst h5
  replace h6 : d5 = [.bool x.f7] := h6
  subst h6
  exact ⟨a4, n4, c4, a5, n5, c5, by simp, hr4, hr5⟩
theorem k_S_baizeref34_Thing.mk {g : GW} {s0 s1 s2 s3 s4 s5 s6 : List Value} {f0 : Int} {f1 : (Arr Int 8)} {f2 : Int} {f3 : (Arr Int 8)} {f4 : (List Int)} {f5 : (List Int)} {f6 : Bool} (h0 : ((Kd.int .i64)).R g s0 f0) (h1 : ((Kd.arrI 8 .u8)).R g s1 f1) (h2 : ((Kd.int .i64)).R g s2 f2) (h3 : ((Kd.arrI 8 .u8)).R g s3 f3) (h4 : ((Kd.slice 5 (Kd.int .u8))).R g s4 f4) (h5 : ((Kd.slice 5 (Kd.int .u8))).R g s5 f5) (h6 : (Kd.bool).R g s6 f6) : k_S_baizeref34_Thing.R g [s0, s1, s2, s3, s4, s5, s6].flatten ⟨f0, f1, f2, f3, f4, f5, f6⟩ := by
  refine ⟨_, _, rfl, h0, _, _, rfl, h1, _, _, rfl, h2, _, _, rfl, h3, _, _, rfl, h4, _, _, rfl, h5, (by simpa using h6)⟩
structure S_3_uint8 where
  f1 : Int
  f2 : Int
  f3 : Int
  deriving Inhabited
def k_S_3_uint8 : Kd S_3_uint8 := Kd.pull (Kd.pair (Kd.int .u8) (Kd.pair (Kd.int .u8) (Kd.int .u8))) (fun x => (x.f1, x.f2, x.f3))
theorem k_S_3_uint8.opn {g : GW} {cs : List Value} {x : S_3_uint8} (h : k_S_3_uint8.R g cs x) : cs = [[.int .u8 x.f1], [.int .u8 x.f2], [.int .u8 x.f3]].flatten := by
  obtain ⟨q0, d0, rfl, h0, q1, d1, rfl, h1, h2⟩ := h
  replace h0 : q0 = [.int .u8 x.f1] := h0
  subst h0
  replace h1 : q1 = [.int .u8 x.f2] := h1
  subst h1
  replace h2 : d1 = [.int .u8 x.f3] := h2
  subst h2
  exact by simp
theorem k_S_3_uint8.mk {g : GW} {s0 s1 s2 : List Value} {f0 : Int} {f1 : Int} {f2 : Int} (h0 : ((Kd.int .u8)).R g s0 f0) (h1 : ((Kd.int .u8)).R g s1 f1) (h2 : ((Kd.int .u8)).R g s2 f2) : k_S_3_uint8.R g [s0, s1, s2].flatten ⟨f0, f1, f2⟩ := by
  refine ⟨_, _, rfl, h0, _, _, rfl, h1, (by simpa using h2)⟩
def kv_S_notary_entry (x : S_notary_entry) : Value := AG [encA .u8 x.f1, encA .u8 x.f2]
def eqk_S_notary_entry (x y : S_notary_entry) : Bool := ((x.f1.1 == y.f1.1) && (x.f2.1 == y.f2.1))
theorem keyOk_S_notary_entry : KeyOk Try.prog 126 kv_S_notary_entry eqk_S_notary_entry where
  eqv := fun x y => (EqV.struct (d := 9999) (t := 126) (xs := [encA .u8 x.f1, encA .u8 x.f2]) (ys := [encA .u8 y.f1, encA .u8 y.f2]) (by kernel_rfl) (by kernel_rfl) (EqFi.cons (ns := [8, 8]) (ms := [8, 8]) (t' := 37) (x := AG [encA .u8 x.f1]) (y := AG [encA .u8 y.f1]) (by simp [len_encA]) (by simp [len_encA]) (by kernel_rfl) (by kernel_rfl) (EqV.arr (d := 9997) (t := 37) (e := 5) (m := 8) (k := .u8) (x := x.f1) (y := y.f1) (by kernel_rfl) (by kernel_rfl)) (EqFi.one (ns := [8, 8]) (ms := [8, 8]) (t' := 37) (x := AG [encA .u8 x.f2]) (y := AG [encA .u8 y.f2]) (by simp [len_encA]) (by simp [len_encA]) (by kernel_rfl) (by kernel_rfl) (EqV.arr (d := 9997) (t := 37) (e := 5) (m := 8) (k := .u8) (x := x.f2) (y := y.f2) (by kernel_rfl) (by kernel_rfl)) (Nat.le_of_ble_eq_true rfl))))
  chk := fun w b x => by
    obtain ⟨a0_0, a0_1, a0_2, a0_3, a0_4, a0_5, a0_6, a0_7, h0⟩ := Arr.ex8 x.f1
    obtain ⟨a1_0, a1_1, a1_2, a1_3, a1_4, a1_5, a1_6, a1_7, h1⟩ := Arr.ex8 x.f2
    obtain ⟨x0, x1⟩ := x
    simp only [] at h0 h1
    subst h0; subst h1
    exact evalS_run (a := ()) (by kernel_rfl) w
  inj := fun x y h => by
    obtain ⟨x0, x1⟩ := x
    obtain ⟨y0, y1⟩ := y
    simp only [eqk_S_notary_entry, Bool.and_eq_true, beq_iff_eq] at h
    simp only [kv_S_notary_entry, encA, h]
  bits := fun x => sameBits_ints 9999 _ (by intro c hc; simp only [List.flatten_cons, List.flatten_nil, encA, List.mem_append, List.mem_map, List.not_mem_nil, or_false] at hc; rcases hc with ⟨_, _, rfl⟩ | ⟨_, _, rfl⟩ <;> exact ⟨_, _, rfl⟩)
  now := ⟨.struct (Try.prog.fieldsOf 126), by kernel_rfl, fun _ _ => rfl⟩
def wf_S_baizeref34_Thing (x : S_baizeref34_Thing) : Prop := (Lit.int .i64 x.f1).wf = true ∧ (∀ y ∈ x.f2.1, (Lit.int .u8 y).wf = true) ∧ (Lit.int .i64 x.f3).wf = true ∧ (∀ y ∈ x.f4.1, (Lit.int .u8 y).wf = true) ∧ (x.f5.length ≤ maxLen ∧ ∀ y ∈ x.f5, (Lit.int .u8 y).wf = true) ∧ (x.f6.length ≤ maxLen ∧ ∀ y ∈ x.f6, (Lit.int .u8 y).wf = true) ∧ True
def wf_S_3_uint8 (x : S_3_uint8) : Prop := (Lit.int .u8 x.f1).wf = true ∧ (Lit.int .u8 x.f2).wf = true ∧ (Lit.int .u8 x.f3).wf = true
def F.coin_Right.c1 (q1 : Bool) : Option (Bool) := (some q1)
def F.coin_Right (x1 : Int) : Option (Bool) := (if decide (x1 ≥ 0) = true then (F.coin_Right.c1 (decide (x1 ≤ 1125899906842624))) else (F.coin_Right.c1 false))
theorem P.coin_Right (g0 : GW) (x1 : Int) (o1 : Bool) (hs : F.coin_Right x1 = some o1) :
  Calls Try.prog 37 #[.int .i64 x1] g0.w (Ret NoM g0 fun v g => v = .bool o1) := by
 refine calls_of (args := [.int .i64 x1]) Try.func37 rfl (0) ?_
 intro t ht htL
 refine ⟨_, rfl, ?_⟩
 refine CP.refr 9 [(0, .int .i64 x1)] (by kernel_rfl) (by kernel_rfl) ?_
 intro ds
 have tot : Step (fun l => NoM l ∨ t ≤ l) g0 g0 := Step.refl _ _
 unfold F.coin_Right at hs
 refine CP.seqR ?_
 refine WP.stl 1 ?_
 refine WP.dn ?_
 refine NX.then_n ?_
 refine CP.cut (fun tm g => ∃ (q1 : Bool), Fr 9 [(2, .bool q1)] tm ∧ Step (fun l => NoM l ∨ t ≤ l) g0 g ∧ (F.coin_Right.c1 q1) = some o1) ?_ ?_
 ·refine CP.region ?_
  refine WP.stl 3 ?_
  refine WP.guard 5 (b := decide (x1 ≥ 0)) (by kernel_rfl) (fun h2 => ?_) (fun h2 => ?_)
  ·replace hs := of_if_t hs h2
   refine WP.stl 4 ?_
   refine WP.dn ?_
   refine NX.post ?_
   exact ⟨decide (x1 ≤ 1125899906842624), ⟨by kernel_rfl, by kernel_rfl⟩, tot, hs⟩
  replace hs := of_if_f hs h2
  refine WP.stl 4 ?_
  refine WP.dn ?_
  refine NX.post ?_
  exact ⟨false, ⟨by kernel_rfl, by kernel_rfl⟩, tot, hs⟩
 clear tot hs
 rintro tm g ⟨q1, hF, tot, hs⟩
 clear ds
 obtain ⟨ds, rfl⟩ := hF.open
 clear hF
 unfold F.coin_Right.c1 at hs
 refine CP.ret ?_
 replace hs := Option.some.inj hs
 obtain rfl := hs
 exact NX.fin (v := .bool q1) (Res.still (by kernel_rfl)) tot htL rfl
def F.slices_Index_int_int.l1 (l1 : List Int) (x1 : Int) : Nat → Int → Option (Int)
 | 0, _ => none
 | k + 1, x2 => (if decide (x2 < (l1.length : Int)) = true then (if (0 : Int) ≤ x2 ∧ x2 < (l1.length : Int) then (if (x1 == (getI l1 x2)) = true then (some x2) else (F.slices_Index_int_int.l1 l1 x1 k (IntKind.i64.wrap (x2 + 1)))) else none) else (some (-1)))
def F.slices_Index_int_int (l1 : List Int) (x1 : Int) : Option (Int) := (F.slices_Index_int_int.l1 l1 x1 fuel 0)
theorem P.slices_Index_int_int (g0 : GW) (l1 : List Int) (x1 : Int) (a1 : Option Addr) (n1 : Nat) (c1 : Nat) (hR1 : RdS (Kd.int .i64) g0 3 a1 n1 c1 l1) (o1 : Int) (hs : F.slices_Index_int_int l1 x1 = some o1) :
  Calls Try.prog 67 #[.slice a1 n1 c1, .int .i64 x1] g0.w (Ret NoM g0 fun v g => v = .int .i64 o1) := by
 refine calls_of (args := [.slice a1 n1 c1, .int .i64 x1]) Try.func67 rfl (0) ?_
 intro t ht htL
 refine ⟨_, rfl, ?_⟩
 refine CP.refr 19 [(0, .slice a1 n1 c1), (1, .int .i64 x1)] (by kernel_rfl) (by kernel_rfl) ?_
 intro ds
 have tot : Step (fun l => NoM l ∨ t ≤ l) g0 g0 := Step.refl _ _
 unfold F.slices_Index_int_int at hs
 refine CP.seqR ?_
 refine WP.stl 1 ?_
 refine WP.dn ?_
 refine NX.then_n ?_
 refine CP.seq ?_
 refine CP.seqR ?_
 refine WP.stl 1 ?_
 refine WP.len (a := a1) (cp := c1) hR1.len (by kernel_rfl) ?_
 refine WP.stl 1 ?_
 refine WP.dn ?_
 refine NX.then_n ?_
 refine CP.block ?_
 generalize fuel = k1 at hs
 refine CP.loop (fun k1 tm g => ∃ (x2 : Int), Fr 19 [(0, .slice a1 n1 c1), (1, .int .i64 x1), (7, .int .i64 (l1.length : Int)), (8, .int .i64 x2)] tm ∧ Step (fun l => NoM l ∨ t ≤ l) g0 g ∧ RdS (Kd.int .i64) g 3 a1 n1 c1 l1 ∧ F.slices_Index_int_int.l1 l1 x1 k1 x2 = some o1) k1 ?_ ?_ ?_
 ·exact ⟨0, ⟨by kernel_rfl, by kernel_rfl⟩, tot, hR1, hs⟩
 ·rintro tm g ⟨x2, hF, tot, hR1, hs⟩
  exact absurd hs (by simp [F.slices_Index_int_int.l1])
 clear tot hs hR1
 rintro k1 tm g ⟨x2, hF, tot, hR1, hs⟩
 clear ds
 obtain ⟨ds, rfl⟩ := hF.open
 clear hF
 unfold F.slices_Index_int_int.l1 at hs
 refine CP.seqR ?_
 refine WP.stl 1 ?_
 refine WP.dn ?_
 refine NX.then_n ?_
 refine CP.seq ?_
 refine CP.cond (b := decide (x2 < (l1.length : Int))) (by kernel_rfl) (fun h5 => ?_) (fun h5 => ?_)
 ·replace hs := of_if_t hs h5
  refine CP.skip ?_
  refine NX.then_n ?_
  refine CP.seq ?_
  refine CP.block ?_
  refine CP.seqR ?_
  refine WP.stl 2 ?_
  refine WP.dn ?_
  refine NX.then_n ?_
  refine CP.seqR ?_
  refine WP.stl 3 ?_
  by_cases hc3 : (0 : Int) ≤ x2 ∧ x2 < (l1.length : Int)
  case neg => rw [if_neg hc3] at hs; cases hs
  replace hs := of_if_p hs hc3
  obtain ⟨b3, u3, ha3⟩ := hR1.at hc3
  refine WP.indexA (t := 24) (e := 3) (sz := 1) (cap := c1) (k := .i64) (i := x2) hR1.len ha3 (by kernel_rfl) (by kernel_rfl) hc3 ?_
  obtain ⟨cs3, hcR3, hcV3⟩ := hR1.src.view (getI_some hc3) ha3
  replace hcR3 := Kd.o_int hcR3
  refine WP.loadV [[.int .i64 (getI l1 x2)]] [1] hcV3 hcR3 rfl (f := 0) (ty := 3) (agg := false) (size := 1) (rs := [[.int .i64 (getI l1 x2)]]) (v := .int .i64 (getI l1 x2)) (by kernel_rfl) (by kernel_rfl) (by kernel_rfl) (by kernel_rfl) ?_
  refine WP.stl 1 ?_
  refine WP.dn ?_
  refine NX.then_n ?_
  refine CP.cond (b := (x1 == (getI l1 x2))) (by kernel_rfl) (fun h6 => ?_) (fun h6 => ?_)
  ·replace hs := of_if_t hs h6
   refine CP.seqR ?_
   refine WP.stl 2 ?_
   refine WP.dn ?_
   refine NX.then_n ?_
   refine CP.ret ?_
   refine NX.block_r ?_
   refine NX.then_r ?_
   refine NX.then_r ?_
   refine NX.block_r ?_
   refine NX.then_r ?_
   replace hs := Option.some.inj hs
   obtain rfl := hs
   exact NX.fin (v := .int .i64 x2) (Res.still (by kernel_rfl)) tot htL rfl
  replace hs := of_if_f hs h6
  refine CP.skip ?_
  refine NX.block_n ?_
  refine NX.then_n ?_
  refine CP.region ?_
  refine WP.stl 2 ?_
  refine WP.dn ?_
  refine NX.post ?_
  exact ⟨(IntKind.i64.wrap (x2 + 1)), ⟨by kernel_rfl, by kernel_rfl⟩, tot, hR1, hs⟩
 replace hs := of_if_f hs h5
 refine CP.exit ?_
 refine NX.then_e ?_
 refine NX.then_e ?_
 refine NX.block_s ?_
 refine NX.then_n ?_
 refine CP.seqR ?_
 refine WP.stl 1 ?_
 refine WP.dn ?_
 refine NX.then_n ?_
 refine CP.ret ?_
 replace hs := Option.some.inj hs
 obtain rfl := hs
 exact NX.fin (v := .int .i64 (-1)) (Res.still (by kernel_rfl)) tot htL rfl
def F.slices_Contains_int_int (l1 : List Int) (x1 : Int) : Option (Bool) := ((F.slices_Index_int_int l1 x1).bind fun x2 => (some (decide (x2 ≥ 0))))
theorem P.slices_Contains_int_int (g0 : GW) (l1 : List Int) (x1 : Int) (a1 : Option Addr) (n1 : Nat) (c1 : Nat) (hR1 : RdS (Kd.int .i64) g0 3 a1 n1 c1 l1) (o1 : Bool) (hs : F.slices_Contains_int_int l1 x1 = some o1) :
  Calls Try.prog 38 #[.slice a1 n1 c1, .int .i64 x1] g0.w (Ret NoM g0 fun v g => v = .bool o1) := by
 refine calls_of (args := [.slice a1 n1 c1, .int .i64 x1]) Try.func38 rfl (0) ?_
 intro t ht htL
 refine ⟨_, rfl, ?_⟩
 refine CP.refr 9 [(0, .slice a1 n1 c1), (1, .int .i64 x1)] (by kernel_rfl) (by kernel_rfl) ?_
 intro ds
 have tot : Step (fun l => NoM l ∨ t ≤ l) g0 g0 := Step.refl _ _
 unfold F.slices_Contains_int_int at hs
 refine CP.seqR ?_
 refine WP.stl 1 ?_
 refine WP.dn ?_
 refine NX.then_n ?_
 refine CP.seqR ?_
 refine WP.stl 2 ?_
 replace hs := Option.bind_eq_some_iff.1 hs
 obtain ⟨x2, hk1, hs⟩ := hs
 have hcal1 := P.slices_Index_int_int g0 l1 x1 a1 n1 c1 hR1 x2 hk1
 refine WP.callC hcal1 (by kernel_rfl) ?_
 rintro _ g1 st1 rfl
 replace hR1 := hR1.mono st1 (fun x => x)
 replace tot := tot.trans st1.pure
 refine WP.stl 2 ?_
 refine WP.dn ?_
 refine NX.then_n ?_
 refine CP.ret ?_
 replace hs := Option.some.inj hs
 obtain rfl := hs
 exact NX.fin (v := .bool (decide (x2 ≥ 0))) (Res.still (by kernel_rfl)) tot htL rfl
def F.coin_weigh.c1 (nx1 : Int → Int → Option (Int × Int)) (l1 : List Int) (x1 : Int) (x2 : Int) (q3 : Bool) : Option (Int × Int) := (if q3 = true then (some (0, 2)) else (nx1 (IntKind.i64.wrap (x1 + (getI l1 x2))) (IntKind.i64.wrap (x2 + 1))))
def F.coin_weigh.l1 (l1 : List Int) : Nat → Int → Int → Option (Int × Int)
 | 0, _, _ => none
 | k + 1, x1, x2 => (if decide (x2 < (l1.length : Int)) = true then (if (0 : Int) ≤ x2 ∧ x2 < (l1.length : Int) then (if decide ((getI l1 x2) < 0) = true then (F.coin_weigh.c1 (F.coin_weigh.l1 l1 k) l1 x1 x2 true) else (F.coin_weigh.c1 (F.coin_weigh.l1 l1 k) l1 x1 x2 (decide ((getI l1 x2) > 1024)))) else none) else (if (x1 == 0) = true then (some (0, 1)) else (some (x1, 0))))
def F.coin_weigh (l1 : List Int) : Option (Int × Int) := (F.coin_weigh.l1 l1 fuel 0 0)
theorem P.coin_weigh (g0 : GW) (l1 : List Int) (a1 : Option Addr) (n1 : Nat) (c1 : Nat) (hR1 : RdS (Kd.int .i64) g0 3 a1 n1 c1 l1) (o1 : Int) (o2 : Int) (hs : F.coin_weigh l1 = some (o1, o2)) :
  Calls Try.prog 68 #[.slice a1 n1 c1] g0.w (Ret NoM g0 fun v g => v = .tuple #[.int .i64 o1, .int .i64 o2]) := by
 refine calls_of (args := [.slice a1 n1 c1]) Try.func68 rfl (0) ?_
 intro t ht htL
 refine ⟨_, rfl, ?_⟩
 refine CP.refr 26 [(0, .slice a1 n1 c1)] (by kernel_rfl) (by kernel_rfl) ?_
 intro ds
 have tot : Step (fun l => NoM l ∨ t ≤ l) g0 g0 := Step.refl _ _
 unfold F.coin_weigh at hs
 refine CP.seqR ?_
 refine WP.stl 2 ?_
 refine WP.dn ?_
 refine NX.then_n ?_
 refine CP.seqR ?_
 refine WP.stl 1 ?_
 refine WP.dn ?_
 refine NX.then_n ?_
 refine CP.seq ?_
 refine CP.seqR ?_
 refine WP.stl 1 ?_
 refine WP.len (a := a1) (cp := c1) hR1.len (by kernel_rfl) ?_
 refine WP.stl 1 ?_
 refine WP.dn ?_
 refine NX.then_n ?_
 refine CP.block ?_
 generalize fuel = k1 at hs
 refine CP.loop (fun k1 tm g => ∃ (x1 : Int) (x2 : Int), Fr 26 [(4, .int .i64 x1), (7, .slice a1 n1 c1), (8, .int .i64 (l1.length : Int)), (9, .int .i64 x2)] tm ∧ Step (fun l => NoM l ∨ t ≤ l) g0 g ∧ RdS (Kd.int .i64) g 3 a1 n1 c1 l1 ∧ F.coin_weigh.l1 l1 k1 x1 x2 = some (o1, o2)) k1 ?_ ?_ ?_
 ·exact ⟨0, 0, ⟨by kernel_rfl, by kernel_rfl⟩, tot, hR1, hs⟩
 ·rintro tm g ⟨x1, x2, hF, tot, hR1, hs⟩
  exact absurd hs (by simp [F.coin_weigh.l1])
 clear tot hs hR1
 rintro k1 tm g ⟨x1, x2, hF, tot, hR1, hs⟩
 clear ds
 obtain ⟨ds, rfl⟩ := hF.open
 clear hF
 unfold F.coin_weigh.l1 at hs
 refine CP.seqR ?_
 refine WP.stl 1 ?_
 refine WP.dn ?_
 refine NX.then_n ?_
 refine CP.seq ?_
 refine CP.cond (b := decide (x2 < (l1.length : Int))) (by kernel_rfl) (fun h9 => ?_) (fun h9 => ?_)
 ·replace hs := of_if_t hs h9
  refine CP.skip ?_
  refine NX.then_n ?_
  refine CP.seq ?_
  refine CP.block ?_
  refine CP.seqR ?_
  by_cases hc3 : (0 : Int) ≤ x2 ∧ x2 < (l1.length : Int)
  case neg => rw [if_neg hc3] at hs; cases hs
  replace hs := of_if_p hs hc3
  obtain ⟨b3, u3, ha3⟩ := hR1.at hc3
  refine WP.indexA (t := 24) (e := 3) (sz := 1) (cap := c1) (k := .i64) (i := x2) hR1.len ha3 (by kernel_rfl) (by kernel_rfl) hc3 ?_
  obtain ⟨cs3, hcR3, hcV3⟩ := hR1.src.view (getI_some hc3) ha3
  replace hcR3 := Kd.o_int hcR3
  refine WP.loadV [[.int .i64 (getI l1 x2)]] [1] hcV3 hcR3 rfl (f := 0) (ty := 3) (agg := false) (size := 1) (rs := [[.int .i64 (getI l1 x2)]]) (v := .int .i64 (getI l1 x2)) (by kernel_rfl) (by kernel_rfl) (by kernel_rfl) (by kernel_rfl) ?_
  refine WP.stl 1 ?_
  refine WP.dn ?_
  refine NX.then_n ?_
  refine CP.seq ?_
  refine CP.cut (fun tm g => ∃ (q3 : Bool), Fr 26 [(4, .int .i64 x1), (6, .int .i64 (getI l1 x2)), (7, .slice a1 n1 c1), (8, .int .i64 (l1.length : Int)), (9, .int .i64 x2), (18, .bool q3)] tm ∧ Step (fun l => NoM l ∨ t ≤ l) g0 g ∧ RdS (Kd.int .i64) g 3 a1 n1 c1 l1 ∧ (F.coin_weigh.c1 (F.coin_weigh.l1 l1 k1) l1 x1 x2 q3) = some (o1, o2)) ?_ ?_
  ·refine CP.region ?_
   refine WP.stl 3 ?_
   refine WP.guard 15 (b := decide ((getI l1 x2) < 0)) (by kernel_rfl) (fun h12 => ?_) (fun h12 => ?_)
   ·replace hs := of_if_t hs h12
    refine WP.stl 3 ?_
    refine WP.dn ?_
    refine NX.post ?_
    exact ⟨true, ⟨by kernel_rfl, by kernel_rfl⟩, tot, hR1, hs⟩
   replace hs := of_if_f hs h12
   refine WP.stl 3 ?_
   refine WP.dn ?_
   refine NX.post ?_
   exact ⟨decide ((getI l1 x2) > 1024), ⟨by kernel_rfl, by kernel_rfl⟩, tot, hR1, hs⟩
  clear tot hs hR1
  rintro tm g ⟨q3, hF, tot, hR1, hs⟩
  clear ds
  obtain ⟨ds, rfl⟩ := hF.open
  clear hF
  unfold F.coin_weigh.c1 at hs
  refine CP.cond (b := q3) (by kernel_rfl) (fun h11 => ?_) (fun h11 => ?_)
  ·replace hs := of_if_t hs h11
   refine CP.seqR ?_
   refine WP.stl 2 ?_
   refine WP.dn ?_
   refine NX.then_n ?_
   refine CP.ret ?_
   refine NX.then_r ?_
   refine NX.block_r ?_
   refine NX.then_r ?_
   refine NX.then_r ?_
   refine NX.block_r ?_
   refine NX.then_r ?_
   replace hs := Option.some.inj hs
   obtain ⟨rfl, rfl⟩ := Prod.mk.inj hs
   exact NX.fin (v := .tuple #[.int .i64 0, .int .i64 2]) (Res.still (by kernel_rfl)) tot htL rfl
  replace hs := of_if_f hs h11
  refine CP.skip ?_
  refine NX.then_n ?_
  refine CP.region ?_
  refine WP.stl 4 ?_
  refine WP.dn ?_
  refine NX.block_n ?_
  refine NX.then_n ?_
  refine CP.region ?_
  refine WP.stl 2 ?_
  refine WP.dn ?_
  refine NX.post ?_
  exact ⟨(IntKind.i64.wrap (x1 + (getI l1 x2))), (IntKind.i64.wrap (x2 + 1)), ⟨by kernel_rfl, by kernel_rfl⟩, tot, hR1, hs⟩
 replace hs := of_if_f hs h9
 refine CP.exit ?_
 refine NX.then_e ?_
 refine NX.then_e ?_
 refine NX.block_s ?_
 refine NX.then_n ?_
 refine CP.seq ?_
 refine CP.seqR ?_
 refine WP.stl 2 ?_
 refine WP.dn ?_
 refine NX.then_n ?_
 refine CP.cond (b := (x1 == 0)) (by kernel_rfl) (fun h13 => ?_) (fun h13 => ?_)
 ·replace hs := of_if_t hs h13
  refine CP.seqR ?_
  refine WP.stl 2 ?_
  refine WP.dn ?_
  refine NX.then_n ?_
  refine CP.ret ?_
  refine NX.then_r ?_
  replace hs := Option.some.inj hs
  obtain ⟨rfl, rfl⟩ := Prod.mk.inj hs
  exact NX.fin (v := .tuple #[.int .i64 0, .int .i64 1]) (Res.still (by kernel_rfl)) tot htL rfl
 replace hs := of_if_f hs h13
 refine CP.skip ?_
 refine NX.then_n ?_
 refine CP.seqR ?_
 refine WP.stl 3 ?_
 refine WP.dn ?_
 refine NX.then_n ?_
 refine CP.ret ?_
 replace hs := Option.some.inj hs
 obtain ⟨rfl, rfl⟩ := Prod.mk.inj hs
 exact NX.fin (v := .tuple #[.int .i64 x1, .int .i64 0]) (Res.still (by kernel_rfl)) tot htL rfl
def F.coin_Split.c2 (l18 : List Int) : Option ((List Int) × Int) := (some (l18, 0))
def F.coin_Split.c3 (nx2 : Int → (List Int) → Int → Option ((List Int) × Int)) (x28 : Int) (x32 : Int) (l23 : List Int) : Option ((List Int) × Int) := (nx2 x32 l23 (IntKind.i64.wrap (x28 + 1)))
def F.coin_Split.l2 (l1 : List Int) : Nat → Int → (List Int) → Int → Option ((List Int) × Int)
 | 0, _, _, _ => none
 | k + 1, x27, l20, x28 => (if decide (x28 < (l1.length : Int)) = true then (if (0 : Int) ≤ x28 ∧ x28 < (l1.length : Int) then (if (x27 == 0) = true then (F.coin_Split.c2 l20) else (if ((getI l1 x28) == 0) = true then (F.coin_Split.c3 (F.coin_Split.l2 l1 k) x28 x27 l20) else (if (0 : Int) ≤ x28 ∧ x28 < (l20.length : Int) then (if (0 : Int) ≤ x28 ∧ x28 < (l20.length : Int) then (F.coin_Split.c3 (F.coin_Split.l2 l1 k) x28 (IntKind.i64.wrap (x27 - 1)) (setI l20 x28 (IntKind.i64.wrap ((getI l20 x28) + 1)))) else none) else none))) else none) else (F.coin_Split.c2 l20))
def F.coin_Split.l1 (x1 : Int) (l1 : List Int) (x2 : Int) : Nat → Int → (List Int) → Int → Option ((List Int) × Int)
 | 0, _, _, _ => none
 | k + 1, x10, l7, x11 => (if decide (x11 < (l1.length : Int)) = true then (if (0 : Int) ≤ x11 ∧ x11 < (l1.length : Int) then (if x2 ≠ 0 then (if (0 : Int) ≤ x11 ∧ x11 < (l7.length : Int) then (if (0 : Int) ≤ x11 ∧ x11 < ((setI l7 x11 (IntKind.i64.wrap ((IntKind.i64.wrap (x1 * (getI l1 x11))).tdiv x2))).length : Int) then (F.coin_Split.l1 x1 l1 x2 k (IntKind.i64.wrap (x10 - (getI (setI l7 x11 (IntKind.i64.wrap ((IntKind.i64.wrap (x1 * (getI l1 x11))).tdiv x2))) x11))) (setI l7 x11 (IntKind.i64.wrap ((IntKind.i64.wrap (x1 * (getI l1 x11))).tdiv x2))) (IntKind.i64.wrap (x11 + 1))) else none) else none) else none) else none) else (F.coin_Split.l2 l1 fuel x10 l7 0))
def F.coin_Split.c1 (x1 : Int) (l1 : List Int) (q2 : Bool) : Option ((List Int) × Int) := (if q2 = true then (some ([], 1)) else ((F.coin_weigh l1).bind fun (x2, x3) => (if (x3 != 0) = true then (some ([], x3)) else (if (0 : Int) ≤ (l1.length : Int) ∧ (l1.length : Int) ≤ 17592186044416 then (F.coin_Split.l1 x1 l1 x2 fuel x1 (List.replicate (l1.length : Int).toNat (0 : Int)) 0) else none))))
def F.coin_Split (x1 : Int) (l1 : List Int) : Option ((List Int) × Int) := ((F.coin_Right x1).bind fun q1 => (if (!q1) = true then (some ([], 2)) else (if ((l1.length : Int) == 0) = true then (F.coin_Split.c1 x1 l1 true) else (F.coin_Split.c1 x1 l1 (decide ((l1.length : Int) > 8))))))
theorem P.coin_Split (g0 : GW) (r0 : Nat) (x1 : Int) (l1 : List Int) (a1 : Option Addr) (n1 : Nat) (c1 : Nat) (hR1 : RdS (Kd.int .i64) g0 3 a1 n1 c1 l1) (o1 : List Int) (o2 : Int) (hs : F.coin_Split x1 l1 = some (o1, o2)) :
  Calls Try.prog 39 #[.int .i64 x1, .slice a1 n1 c1] g0.w (Ret NoM g0 fun v g => ∃ (a_1 : Option Addr) (n_1 : Nat) (c_1 : Nat), v = .tuple #[.slice a_1 n_1 c_1, .int .i64 o2] ∧ OwnS (Kd.int .i64) g r0 3 a_1 n_1 c_1 o1) := by
 refine calls_of (args := [.int .i64 x1, .slice a1 n1 c1]) Try.func39 rfl (r0 + 0) ?_
 intro t ht htL
 refine ⟨_, rfl, ?_⟩
 refine CP.refr 84 [(0, .int .i64 x1), (1, .slice a1 n1 c1)] (by kernel_rfl) (by kernel_rfl) ?_
 intro ds
 have tot : Step (fun l => NoM l ∨ t ≤ l) g0 g0 := Step.refl _ _
 unfold F.coin_Split at hs
 refine CP.seqR ?_
 refine WP.stl 2 ?_
 refine WP.dn ?_
 refine NX.then_n ?_
 refine CP.scope ?_
 refine CP.seq ?_
 refine CP.block ?_
 refine CP.seqR ?_
 refine WP.stl 1 ?_
 replace hs := Option.bind_eq_some_iff.1 hs
 obtain ⟨q1, hk1, hs⟩ := hs
 have hcal1 := P.coin_Right g0 x1 q1 hk1
 refine WP.callC hcal1 (by kernel_rfl) ?_
 rintro _ g1 st1 rfl
 replace hR1 := hR1.mono st1 (fun x => x)
 replace tot := tot.trans st1.pure
 refine WP.stl 2 ?_
 refine WP.dn ?_
 refine NX.then_n ?_
 refine CP.cond (b := (!q1)) (by kernel_rfl) (fun h1 => ?_) (fun h1 => ?_)
 ·replace hs := of_if_t hs h1
  refine CP.seqR ?_
  refine WP.stl 2 ?_
  refine WP.dn ?_
  refine NX.then_n ?_
  refine CP.ret ?_
  refine NX.block_r ?_
  refine NX.then_r ?_
  refine NX.scope_r ?_
  replace hs := Option.some.inj hs
  obtain ⟨rfl, rfl⟩ := Prod.mk.inj hs
  exact NX.fin (v := .tuple #[.slice none 0 0, .int .i64 2]) (Res.still (by kernel_rfl)) tot htL ⟨none, 0, 0, rfl, (OwnS.nil _ _ _ _)⟩
 replace hs := of_if_f hs h1
 refine CP.cut (fun tm g => ∃ (q2 : Bool), Fr 84 [(0, .int .i64 x1), (1, .slice a1 n1 c1), (18, .bool q2)] tm ∧ Step (fun l => NoM l ∨ t ≤ l) g0 g ∧ RdS (Kd.int .i64) g 3 a1 n1 c1 l1 ∧ (F.coin_Split.c1 x1 l1 q2) = some (o1, o2)) ?_ ?_
 ·refine CP.region ?_
  refine WP.stl 1 ?_
  refine WP.len (a := a1) (cp := c1) hR1.len (by kernel_rfl) ?_
  refine WP.stl 2 ?_
  refine WP.guard 22 (b := ((l1.length : Int) == 0)) (by kernel_rfl) (fun h37 => ?_) (fun h37 => ?_)
  ·replace hs := of_if_t hs h37
   refine WP.stl 5 ?_
   refine WP.dn ?_
   refine NX.post ?_
   exact ⟨true, ⟨by kernel_rfl, by kernel_rfl⟩, tot, hR1, hs⟩
  replace hs := of_if_f hs h37
  refine WP.stl 1 ?_
  refine WP.len (a := a1) (cp := c1) hR1.len (by kernel_rfl) ?_
  refine WP.stl 3 ?_
  refine WP.dn ?_
  refine NX.post ?_
  exact ⟨decide ((l1.length : Int) > 8), ⟨by kernel_rfl, by kernel_rfl⟩, tot, hR1, hs⟩
 clear tot hs hR1
 rintro tm g ⟨q2, hF, tot, hR1, hs⟩
 clear ds
 obtain ⟨ds, rfl⟩ := hF.open
 clear hF
 unfold F.coin_Split.c1 at hs
 refine CP.cond (b := q2) (by kernel_rfl) (fun h3 => ?_) (fun h3 => ?_)
 ·replace hs := of_if_t hs h3
  refine CP.seqR ?_
  refine WP.stl 2 ?_
  refine WP.dn ?_
  refine NX.then_n ?_
  refine CP.ret ?_
  refine NX.block_r ?_
  refine NX.then_r ?_
  refine NX.scope_r ?_
  replace hs := Option.some.inj hs
  obtain ⟨rfl, rfl⟩ := Prod.mk.inj hs
  exact NX.fin (v := .tuple #[.slice none 0 0, .int .i64 1]) (Res.still (by kernel_rfl)) tot htL ⟨none, 0, 0, rfl, (OwnS.nil _ _ _ _)⟩
 replace hs := of_if_f hs h3
 refine CP.skip ?_
 refine NX.block_n ?_
 refine NX.then_n ?_
 refine CP.seqR ?_
 refine WP.stl 1 ?_
 replace hs := Option.bind_eq_some_iff.1 hs
 obtain ⟨⟨x2, x3⟩, hk2, hs⟩ := hs
 dsimp only at hs
 have hcal2 := P.coin_weigh g l1 a1 n1 c1 hR1 x2 x3 hk2
 refine WP.callC hcal2 (by kernel_rfl) ?_
 rintro _ g2 st2 rfl
 replace hR1 := hR1.mono st2 (fun x => x)
 replace tot := tot.trans st2.pure
 refine WP.stl 5 ?_
 refine WP.dn ?_
 refine NX.then_n ?_
 refine CP.seq ?_
 refine CP.seqR ?_
 refine WP.stl 2 ?_
 refine WP.dn ?_
 refine NX.then_n ?_
 refine CP.cond (b := (x3 != 0)) (by kernel_rfl) (fun h4 => ?_) (fun h4 => ?_)
 ·replace hs := of_if_t hs h4
  refine CP.seqR ?_
  refine WP.stl 3 ?_
  refine WP.dn ?_
  refine NX.then_n ?_
  refine CP.ret ?_
  refine NX.then_r ?_
  refine NX.scope_r ?_
  replace hs := Option.some.inj hs
  obtain ⟨rfl, rfl⟩ := Prod.mk.inj hs
  exact NX.fin (v := .tuple #[.slice none 0 0, .int .i64 x3]) (Res.still (by kernel_rfl)) tot htL ⟨none, 0, 0, rfl, (OwnS.nil _ _ _ _)⟩
 replace hs := of_if_f hs h4
 refine CP.skip ?_
 refine NX.then_n ?_
 refine CP.seqR ?_
 refine WP.stl 2 ?_
 refine WP.dn ?_
 refine NX.then_n ?_
 refine CP.seqR ?_
 refine WP.stl 1 ?_
 refine WP.len (a := a1) (cp := c1) hR1.len (by kernel_rfl) ?_
 by_cases hc1 : (0 : Int) ≤ (l1.length : Int) ∧ (l1.length : Int) ≤ 17592186044416
 case neg => rw [if_neg hc1] at hs; cases hs
 replace hs := of_if_p hs hc1
 refine WP.make (kd := (Kd.int .i64)) (t + 1) (t := 24) (e := 3) (bytes := 8) (kl := .i64) (kc := .i64) (i := (l1.length : Int)) (by kernel_rfl) (by kernel_rfl) (by omega) (by omega) (by omega) (z := 0) (by intro zv hz; cases hz; exact (by exact rfl)) ?_
 intro g3 a2 st3 hR2
 replace hR1 := hR1.mono st3 (fun x => x)
 replace tot := tot.trans st3.pure
 refine WP.stl 1 ?_
 refine WP.dn ?_
 refine NX.then_n ?_
 refine CP.refr 84 [(0, .int .i64 x1), (1, .slice a1 n1 c1), (6, .int .i64 x2), (8, .int .i64 x1), (9, .slice a2 ((l1.length : Int).toNat) ((l1.length : Int).toNat))] (by kernel_rfl) (by kernel_rfl) ?_
 clear ds
 intro ds
 refine CP.seq ?_
 refine CP.seqR ?_
 refine WP.stl 1 ?_
 refine WP.len (a := a1) (cp := c1) hR1.len (by kernel_rfl) ?_
 refine WP.stl 1 ?_
 refine WP.dn ?_
 refine NX.then_n ?_
 refine CP.block ?_
 generalize fuel = k1 at hs
 refine CP.loop (fun k1 tm g => ∃ (x10 : Int) (l7 : List Int) (a8 : Option Addr) (n7 : Nat) (c7 : Nat) (x11 : Int), Fr 84 [(0, .int .i64 x1), (1, .slice a1 n1 c1), (6, .int .i64 x2), (8, .int .i64 x10), (9, .slice a8 n7 c7), (39, .slice a1 n1 c1), (40, .int .i64 (l1.length : Int)), (41, .int .i64 x11)] tm ∧ Step (fun l => NoM l ∨ t ≤ l) g0 g ∧ RdS (Kd.int .i64) g 3 a1 n1 c1 l1 ∧ OwnS (Kd.int .i64) g (t + 1) 3 a8 n7 c7 l7 ∧ F.coin_Split.l1 x1 l1 x2 k1 x10 l7 x11 = some (o1, o2)) k1 ?_ ?_ ?_
 ·exact ⟨x1, (List.replicate (l1.length : Int).toNat (0 : Int)), a2, (l1.length : Int).toNat, (l1.length : Int).toNat, 0, ⟨by kernel_rfl, by kernel_rfl⟩, tot, hR1, hR2, hs⟩
 ·rintro tm g ⟨x10, l7, a8, n7, c7, x11, hF, tot, hR1, hR8, hs⟩
  exact absurd hs (by simp [F.coin_Split.l1])
 clear tot hs hR1 hR2
 rintro k1 tm g ⟨x10, l7, a8, n7, c7, x11, hF, tot, hR1, hR8, hs⟩
 clear ds
 obtain ⟨ds, rfl⟩ := hF.open
 clear hF
 unfold F.coin_Split.l1 at hs
 refine CP.seqR ?_
 refine WP.stl 1 ?_
 refine WP.dn ?_
 refine NX.then_n ?_
 refine CP.seq ?_
 refine CP.cond (b := decide (x11 < (l1.length : Int))) (by kernel_rfl) (fun h19 => ?_) (fun h19 => ?_)
 ·replace hs := of_if_t hs h19
  refine CP.skip ?_
  refine NX.then_n ?_
  refine CP.seq ?_
  refine CP.block ?_
  refine CP.seqR ?_
  refine WP.stl 1 ?_
  by_cases hc22 : (0 : Int) ≤ x11 ∧ x11 < (l1.length : Int)
  case neg => rw [if_neg hc22] at hs; cases hs
  replace hs := of_if_p hs hc22
  obtain ⟨b19, u19, ha19⟩ := hR1.at hc22
  refine WP.indexA (t := 24) (e := 3) (sz := 1) (cap := c1) (k := .i64) (i := x11) hR1.len ha19 (by kernel_rfl) (by kernel_rfl) hc22 ?_
  obtain ⟨cs13, hcR13, hcV13⟩ := hR1.src.view (getI_some hc22) ha19
  replace hcR13 := Kd.o_int hcR13
  refine WP.loadV [[.int .i64 (getI l1 x11)]] [1] hcV13 hcR13 rfl (f := 0) (ty := 3) (agg := false) (size := 1) (rs := [[.int .i64 (getI l1 x11)]]) (v := .int .i64 (getI l1 x11)) (by kernel_rfl) (by kernel_rfl) (by kernel_rfl) (by kernel_rfl) ?_
  refine WP.stl 2 ?_
  refine WP.dn ?_
  refine NX.then_n ?_
  refine CP.seqR ?_
  refine WP.stl 6 ?_
  by_cases hc23 : x2 ≠ 0
  case neg => rw [if_neg hc23] at hs; cases hs
  replace hs := of_if_p hs hc23
  refine WP.quo (k := .i64) (x := (IntKind.i64.wrap (x1 * (getI l1 x11)))) (y := x2) (by kernel_rfl) hc23 ?_
  by_cases hc24 : (0 : Int) ≤ x11 ∧ x11 < (l7.length : Int)
  case neg => rw [if_neg hc24] at hs; cases hs
  replace hs := of_if_p hs hc24
  obtain ⟨b20, u20, ha20⟩ := hR8.at hc24
  refine WP.indexA (t := 24) (e := 3) (sz := 1) (cap := c7) (k := .i64) (i := x11) hR8.len ha20 (by kernel_rfl) (by kernel_rfl) hc24 ?_
  refine WP.storeO (ty := 3) (v := .int .i64 (IntKind.i64.wrap ((IntKind.i64.wrap (x1 * (getI l1 x11))).tdiv x2))) hR8 (by omega) (i := x11.toNat) (by first | omega | (simp only [setI_length] at *; omega)) ha20 (by kernel_rfl) (x := (IntKind.i64.wrap ((IntKind.i64.wrap (x1 * (getI l1 x11))).tdiv x2))) (by exact rfl) (by kernel_rfl) ?_
  intro g10 st10 hO7
  replace hR1 := hR1.mono st10 (WL.no1 (by omega))
  replace tot := tot.trans (st10.up1 (.inr (by omega)))
  clear hR8
  have hR8 : OwnS (Kd.int .i64) g10 (t + 1) 3 a8 n7 c7 (setI l7 x11 (IntKind.i64.wrap ((IntKind.i64.wrap (x1 * (getI l1 x11))).tdiv x2))) := hO7
  clear hO7
  refine WP.dn ?_
  refine NX.then_n ?_
  refine CP.refr 84 [(0, .int .i64 x1), (1, .slice a1 n1 c1), (6, .int .i64 x2), (8, .int .i64 x10), (9, .slice a8 n7 c7), (10, .int .i64 x11), (39, .slice a1 n1 c1), (40, .int .i64 (l1.length : Int)), (41, .int .i64 x11)] (by kernel_rfl) (by kernel_rfl) ?_
  clear ds
  intro ds
  refine CP.region ?_
  refine WP.stl 3 ?_
  by_cases hc25 : (0 : Int) ≤ x11 ∧ x11 < ((setI l7 x11 (IntKind.i64.wrap ((IntKind.i64.wrap (x1 * (getI l1 x11))).tdiv x2))).length : Int)
  case neg => rw [if_neg hc25] at hs; cases hs
  replace hs := of_if_p hs hc25
  obtain ⟨b21, u21, ha21⟩ := hR8.at (i := x11) (by first | exact hc25 | simpa only [setI_length] using hc25)
  refine WP.indexA (t := 24) (e := 3) (sz := 1) (cap := c7) (k := .i64) (i := x11) hR8.len ha21 (by kernel_rfl) (by kernel_rfl) hc25 ?_
  obtain ⟨cs14, hcR14, hcV14⟩ := hR8.src.view (getI_some hc25) ha21
  replace hcR14 := Kd.o_int hcR14
  refine WP.loadV [[.int .i64 (getI (setI l7 x11 (IntKind.i64.wrap ((IntKind.i64.wrap (x1 * (getI l1 x11))).tdiv x2))) x11)]] [1] hcV14 hcR14 rfl (f := 0) (ty := 3) (agg := false) (size := 1) (rs := [[.int .i64 (getI (setI l7 x11 (IntKind.i64.wrap ((IntKind.i64.wrap (x1 * (getI l1 x11))).tdiv x2))) x11)]]) (v := .int .i64 (getI (setI l7 x11 (IntKind.i64.wrap ((IntKind.i64.wrap (x1 * (getI l1 x11))).tdiv x2))) x11)) (by kernel_rfl) (by kernel_rfl) (by kernel_rfl) (by kernel_rfl) ?_
  refine WP.stl 2 ?_
  refine WP.dn ?_
  refine NX.block_n ?_
  refine NX.then_n ?_
  refine CP.region ?_
  refine WP.stl 2 ?_
  refine WP.dn ?_
  refine NX.post ?_
  exact ⟨(IntKind.i64.wrap (x10 - (getI (setI l7 x11 (IntKind.i64.wrap ((IntKind.i64.wrap (x1 * (getI l1 x11))).tdiv x2))) x11))), (setI l7 x11 (IntKind.i64.wrap ((IntKind.i64.wrap (x1 * (getI l1 x11))).tdiv x2))), a8, n7, c7, (IntKind.i64.wrap (x11 + 1)), ⟨by kernel_rfl, by kernel_rfl⟩, tot, hR1, hR8, hs⟩
 replace hs := of_if_f hs h19
 refine CP.exit ?_
 refine NX.then_e ?_
 refine NX.then_e ?_
 refine NX.block_s ?_
 refine NX.then_n ?_
 refine CP.seq ?_
 refine CP.label ?_
 refine NX.then_n ?_
 refine CP.cut (fun tm g => ∃ (l18 : List Int) (a19 : Option Addr) (n18 : Nat) (c18 : Nat), Fr 84 [(9, .slice a19 n18 c18)] tm ∧ Step (fun l => NoM l ∨ t ≤ l) g0 g ∧ OwnS (Kd.int .i64) g (t + 1) 3 a19 n18 c18 l18 ∧ (F.coin_Split.c2 l18) = some (o1, o2)) ?_ ?_
 ·refine CP.seqR ?_
  refine WP.stl 1 ?_
  refine WP.len (a := a1) (cp := c1) hR1.len (by kernel_rfl) ?_
  refine WP.stl 1 ?_
  refine WP.dn ?_
  refine NX.then_n ?_
  refine CP.block ?_
  generalize fuel = k2 at hs
  refine CP.loop (fun k2 tm g => ∃ (x27 : Int) (l20 : List Int) (a21 : Option Addr) (n20 : Nat) (c20 : Nat) (x28 : Int), Fr 84 [(8, .int .i64 x27), (9, .slice a21 n20 c20), (61, .slice a1 n1 c1), (62, .int .i64 (l1.length : Int)), (63, .int .i64 x28)] tm ∧ Step (fun l => NoM l ∨ t ≤ l) g0 g ∧ OwnS (Kd.int .i64) g (t + 1) 3 a21 n20 c20 l20 ∧ RdS (Kd.int .i64) g 3 a1 n1 c1 l1 ∧ F.coin_Split.l2 l1 k2 x27 l20 x28 = some (o1, o2)) k2 ?_ ?_ ?_
  ·exact ⟨x10, l7, a8, n7, c7, 0, ⟨by kernel_rfl, by kernel_rfl⟩, tot, hR8, hR1, hs⟩
  ·rintro tm g ⟨x27, l20, a21, n20, c20, x28, hF, tot, hR21, hR1, hs⟩
   exact absurd hs (by simp [F.coin_Split.l2])
  clear tot hs hR8 hR1
  rintro k2 tm g ⟨x27, l20, a21, n20, c20, x28, hF, tot, hR21, hR1, hs⟩
  clear ds
  obtain ⟨ds, rfl⟩ := hF.open
  clear hF
  unfold F.coin_Split.l2 at hs
  refine CP.seqR ?_
  refine WP.stl 1 ?_
  refine WP.dn ?_
  refine NX.then_n ?_
  refine CP.seq ?_
  refine CP.cond (b := decide (x28 < (l1.length : Int))) (by kernel_rfl) (fun h32 => ?_) (fun h32 => ?_)
  ·replace hs := of_if_t hs h32
   refine CP.skip ?_
   refine NX.then_n ?_
   refine CP.cut (fun tm g => ∃ (x32 : Int) (l23 : List Int) (a24 : Option Addr) (n23 : Nat) (c23 : Nat), Fr 84 [(8, .int .i64 x32), (9, .slice a24 n23 c23), (61, .slice a1 n1 c1), (62, .int .i64 (l1.length : Int)), (63, .int .i64 x28)] tm ∧ Step (fun l => NoM l ∨ t ≤ l) g0 g ∧ OwnS (Kd.int .i64) g (t + 1) 3 a24 n23 c23 l23 ∧ RdS (Kd.int .i64) g 3 a1 n1 c1 l1 ∧ (F.coin_Split.c3 (F.coin_Split.l2 l1 k2) x28 x32 l23) = some (o1, o2)) ?_ ?_
   ·refine CP.block ?_
    refine CP.seqR ?_
    refine WP.stl 1 ?_
    by_cases hc41 : (0 : Int) ≤ x28 ∧ x28 < (l1.length : Int)
    case neg => rw [if_neg hc41] at hs; cases hs
    replace hs := of_if_p hs hc41
    obtain ⟨b37, u37, ha37⟩ := hR1.at hc41
    refine WP.indexA (t := 24) (e := 3) (sz := 1) (cap := c1) (k := .i64) (i := x28) hR1.len ha37 (by kernel_rfl) (by kernel_rfl) hc41 ?_
    obtain ⟨cs25, hcR25, hcV25⟩ := hR1.src.view (getI_some hc41) ha37
    replace hcR25 := Kd.o_int hcR25
    refine WP.loadV [[.int .i64 (getI l1 x28)]] [1] hcV25 hcR25 rfl (f := 0) (ty := 3) (agg := false) (size := 1) (rs := [[.int .i64 (getI l1 x28)]]) (v := .int .i64 (getI l1 x28)) (by kernel_rfl) (by kernel_rfl) (by kernel_rfl) (by kernel_rfl) ?_
    refine WP.stl 2 ?_
    refine WP.dn ?_
    refine NX.then_n ?_
    refine CP.seq ?_
    refine CP.block ?_
    refine CP.seqR ?_
    refine WP.stl 3 ?_
    refine WP.dn ?_
    refine NX.then_n ?_
    refine CP.cond (b := (x27 == 0)) (by kernel_rfl) (fun h35 => ?_) (fun h35 => ?_)
    ·replace hs := of_if_t hs h35
     refine CP.exit ?_
     refine NX.block_o (by rfl) ?_
     refine NX.then_e ?_
     refine NX.block_o (by rfl) ?_
     refine NX.then_e ?_
     refine NX.then_e ?_
     refine NX.block_s ?_
     refine NX.post ?_
     exact ⟨l20, a21, n20, c20, ⟨by kernel_rfl, by kernel_rfl⟩, tot, hR21, hs⟩
    replace hs := of_if_f hs h35
    refine CP.seqR ?_
    refine WP.stl 3 ?_
    refine WP.dn ?_
    refine NX.then_n ?_
    refine CP.cond (b := ((getI l1 x28) == 0)) (by kernel_rfl) (fun h36 => ?_) (fun h36 => ?_)
    ·replace hs := of_if_t hs h36
     refine CP.exit ?_
     refine NX.block_o (by rfl) ?_
     refine NX.then_e ?_
     refine NX.block_s ?_
     refine NX.post ?_
     exact ⟨x27, l20, a21, n20, c20, ⟨by kernel_rfl, by kernel_rfl⟩, tot, hR21, hR1, hs⟩
    replace hs := of_if_f hs h36
    refine CP.skip ?_
    refine NX.block_n ?_
    refine NX.then_n ?_
    refine CP.seqR ?_
    refine WP.stl 2 ?_
    by_cases hc42 : (0 : Int) ≤ x28 ∧ x28 < (l20.length : Int)
    case neg => rw [if_neg hc42] at hs; cases hs
    replace hs := of_if_p hs hc42
    obtain ⟨b38, u38, ha38⟩ := hR21.at hc42
    refine WP.indexA (t := 24) (e := 3) (sz := 1) (cap := c20) (k := .i64) (i := x28) hR21.len ha38 (by kernel_rfl) (by kernel_rfl) hc42 ?_
    obtain ⟨cs26, hcR26, hcV26⟩ := hR21.src.view (getI_some hc42) ha38
    replace hcR26 := Kd.o_int hcR26
    refine WP.loadV [[.int .i64 (getI l20 x28)]] [1] hcV26 hcR26 rfl (f := 0) (ty := 3) (agg := false) (size := 1) (rs := [[.int .i64 (getI l20 x28)]]) (v := .int .i64 (getI l20 x28)) (by kernel_rfl) (by kernel_rfl) (by kernel_rfl) (by kernel_rfl) ?_
    refine WP.stl 1 ?_
    by_cases hc43 : (0 : Int) ≤ x28 ∧ x28 < (l20.length : Int)
    case neg => rw [if_neg hc43] at hs; cases hs
    replace hs := of_if_p hs hc43
    obtain ⟨b39, u39, ha39⟩ := hR21.at hc43
    refine WP.indexA (t := 24) (e := 3) (sz := 1) (cap := c20) (k := .i64) (i := x28) hR21.len ha39 (by kernel_rfl) (by kernel_rfl) hc43 ?_
    refine WP.storeO (ty := 3) (v := .int .i64 (IntKind.i64.wrap ((getI l20 x28) + 1))) hR21 (by omega) (i := x28.toNat) (by first | omega | (simp only [setI_length] at *; omega)) ha39 (by kernel_rfl) (x := (IntKind.i64.wrap ((getI l20 x28) + 1))) (by exact rfl) (by kernel_rfl) ?_
    intro g17 st17 hO13
    replace hR1 := hR1.mono st17 (WL.no1 (by omega))
    replace tot := tot.trans (st17.up1 (.inr (by omega)))
    clear hR21
    have hR21 : OwnS (Kd.int .i64) g17 (t + 1) 3 a21 n20 c20 (setI l20 x28 (IntKind.i64.wrap ((getI l20 x28) + 1))) := hO13
    clear hO13
    refine WP.dn ?_
    refine NX.then_n ?_
    refine CP.refr 84 [(8, .int .i64 x27), (9, .slice a21 n20 c20), (61, .slice a1 n1 c1), (62, .int .i64 (l1.length : Int)), (63, .int .i64 x28)] (by kernel_rfl) (by kernel_rfl) ?_
    clear ds
    intro ds
    refine CP.region ?_
    refine WP.stl 3 ?_
    refine WP.dn ?_
    refine NX.block_n ?_
    refine NX.post ?_
    exact ⟨(IntKind.i64.wrap (x27 - 1)), (setI l20 x28 (IntKind.i64.wrap ((getI l20 x28) + 1))), a21, n20, c20, ⟨by kernel_rfl, by kernel_rfl⟩, tot, hR21, hR1, hs⟩
   clear tot hs hR21 hR1
   rintro tm g ⟨x32, l23, a24, n23, c23, hF, tot, hR24, hR1, hs⟩
   clear ds
   obtain ⟨ds, rfl⟩ := hF.open
   clear hF
   unfold F.coin_Split.c3 at hs
   refine CP.region ?_
   refine WP.stl 2 ?_
   refine WP.dn ?_
   refine NX.post ?_
   exact ⟨x32, l23, a24, n23, c23, (IntKind.i64.wrap (x28 + 1)), ⟨by kernel_rfl, by kernel_rfl⟩, tot, hR24, hR1, hs⟩
  replace hs := of_if_f hs h32
  refine CP.exit ?_
  refine NX.then_e ?_
  refine NX.then_e ?_
  refine NX.block_s ?_
  refine NX.post ?_
  exact ⟨l20, a21, n20, c20, ⟨by kernel_rfl, by kernel_rfl⟩, tot, hR21, hs⟩
 clear tot hs hR1 hR8
 rintro tm g ⟨l18, a19, n18, c18, hF, tot, hR19, hs⟩
 clear ds
 obtain ⟨ds, rfl⟩ := hF.open
 clear hF
 unfold F.coin_Split.c2 at hs
 refine CP.seqR ?_
 refine WP.stl 3 ?_
 refine WP.dn ?_
 refine NX.then_n ?_
 refine CP.ret ?_
 refine NX.scope_r ?_
 obtain ⟨g13, hw1, st13, hnew⟩ := hR19.relab (by omega) r0
 refine NX.regw hw1 ?_
 replace tot := tot.trans (st13.up1 (.inr (by omega)))
 clear hR19
 have hR19 := hnew
 clear hnew
 replace hs := Option.some.inj hs
 obtain ⟨rfl, rfl⟩ := Prod.mk.inj hs
 exact NX.fin (v := .tuple #[.slice a19 n18 c18, .int .i64 0]) (Res.still (by kernel_rfl)) tot htL ⟨a19, n18, c18, rfl, hR19⟩
def F.punish_Shares.c3 (nx1 : (List Int) → Int → Option ((List Int) × Int)) (x4 : Int) (l10 : List Int) : Option ((List Int) × Int) := (nx1 l10 (IntKind.i64.wrap (x4 + 1)))
def F.punish_Shares.c4 (nx1 : (List Int) → Int → Option ((List Int) × Int)) (l5 : List Int) (x4 : Int) (q9 : Bool) : Option ((List Int) × Int) := (if q9 = true then (if (0 : Int) ≤ x4 ∧ x4 < (l5.length : Int) then (F.punish_Shares.c3 nx1 x4 (setI l5 x4 1)) else none) else (F.punish_Shares.c3 nx1 x4 l5))
def F.punish_Shares.c5 (x1 : Int) (l11 : List Int) : Option ((List Int) × Int) := ((F.coin_Split x1 l11).bind fun (l12, x7) => (some (l12, x7)))
def F.punish_Shares.l1 (x1 : Int) (x2 : Int) (l1 : List Bool) : Nat → (List Int) → Int → Option ((List Int) × Int)
 | 0, _, _ => none
 | k + 1, l5, x4 => (if decide (x4 < (l1.length : Int)) = true then (if (0 : Int) ≤ x4 ∧ x4 < (l1.length : Int) then (if (x4 != x2) = true then (F.punish_Shares.c4 (F.punish_Shares.l1 x1 x2 l1 k) l5 x4 (!(getI l1 x4))) else (F.punish_Shares.c4 (F.punish_Shares.l1 x1 x2 l1 k) l5 x4 false)) else none) else ((F.slices_Contains_int_int l5 1).bind fun q11 => (if (!q11) = true then (if (0 : Int) ≤ x2 ∧ x2 < (l5.length : Int) then (F.punish_Shares.c5 x1 (setI l5 x2 1)) else none) else (F.punish_Shares.c5 x1 l5))))
def F.punish_Shares.c2 (x1 : Int) (x2 : Int) (l1 : List Bool) (q3 : Bool) : Option ((List Int) × Int) := (if q3 = true then (some ([], 28)) else (if (0 : Int) ≤ (l1.length : Int) ∧ (l1.length : Int) ≤ 17592186044416 then (F.punish_Shares.l1 x1 x2 l1 fuel (List.replicate (l1.length : Int).toNat (0 : Int)) 0) else none))
def F.punish_Shares.c1 (x1 : Int) (x2 : Int) (l1 : List Bool) (q2 : Bool) : Option ((List Int) × Int) := (if q2 = true then (some ([], 3)) else (if decide (x2 < 0) = true then (F.punish_Shares.c2 x1 x2 l1 true) else (F.punish_Shares.c2 x1 x2 l1 (decide (x2 ≥ (l1.length : Int))))))
def F.punish_Shares (x1 : Int) (x2 : Int) (l1 : List Bool) : Option ((List Int) × Int) := ((F.coin_Right x1).bind fun q1 => (if (!q1) = true then (some ([], 2)) else (if decide ((l1.length : Int) < 2) = true then (F.punish_Shares.c1 x1 x2 l1 true) else (F.punish_Shares.c1 x1 x2 l1 (decide ((l1.length : Int) > 8))))))
theorem P.punish_Shares (g0 : GW) (r0 : Nat) (x1 : Int) (x2 : Int) (l1 : List Bool) (a1 : Option Addr) (n1 : Nat) (c1 : Nat) (hR1 : RdS Kd.bool g0 4 a1 n1 c1 l1) (o1 : List Int) (o2 : Int) (hs : F.punish_Shares x1 x2 l1 = some (o1, o2)) :
  Calls Try.prog 10 #[.int .i64 x1, .int .i64 x2, .slice a1 n1 c1] g0.w (Ret NoM g0 fun v g => ∃ (a_1 : Option Addr) (n_1 : Nat) (c_1 : Nat), v = .tuple #[.slice a_1 n_1 c_1, .int .i64 o2] ∧ OwnS (Kd.int .i64) g r0 3 a_1 n_1 c_1 o1) := by
 refine calls_of (args := [.int .i64 x1, .int .i64 x2, .slice a1 n1 c1]) Try.func10 rfl (r0 + 0) ?_
 intro t ht htL
 refine ⟨_, rfl, ?_⟩
 refine CP.refr 65 [(0, .int .i64 x1), (1, .int .i64 x2), (2, .slice a1 n1 c1)] (by kernel_rfl) (by kernel_rfl) ?_
 intro ds
 have tot : Step (fun l => NoM l ∨ t ≤ l) g0 g0 := Step.refl _ _
 unfold F.punish_Shares at hs
 refine CP.seqR ?_
 refine WP.stl 2 ?_
 refine WP.dn ?_
 refine NX.then_n ?_
 refine CP.seq ?_
 refine CP.block ?_
 refine CP.seqR ?_
 refine WP.stl 1 ?_
 replace hs := Option.bind_eq_some_iff.1 hs
 obtain ⟨q1, hk1, hs⟩ := hs
 have hcal1 := P.coin_Right g0 x1 q1 hk1
 refine WP.callC hcal1 (by kernel_rfl) ?_
 rintro _ g1 st1 rfl
 replace hR1 := hR1.mono st1 (fun x => x)
 replace tot := tot.trans st1.pure
 refine WP.stl 2 ?_
 refine WP.dn ?_
 refine NX.then_n ?_
 refine CP.cond (b := (!q1)) (by kernel_rfl) (fun h1 => ?_) (fun h1 => ?_)
 ·replace hs := of_if_t hs h1
  refine CP.seqR ?_
  refine WP.stl 2 ?_
  refine WP.dn ?_
  refine NX.then_n ?_
  refine CP.ret ?_
  refine NX.block_r ?_
  refine NX.then_r ?_
  replace hs := Option.some.inj hs
  obtain ⟨rfl, rfl⟩ := Prod.mk.inj hs
  exact NX.fin (v := .tuple #[.slice none 0 0, .int .i64 2]) (Res.still (by kernel_rfl)) tot htL ⟨none, 0, 0, rfl, (OwnS.nil _ _ _ _)⟩
 replace hs := of_if_f hs h1
 refine CP.cut (fun tm g => ∃ (q2 : Bool), Fr 65 [(0, .int .i64 x1), (1, .int .i64 x2), (2, .slice a1 n1 c1), (15, .bool q2)] tm ∧ Step (fun l => NoM l ∨ t ≤ l) g0 g ∧ RdS Kd.bool g 4 a1 n1 c1 l1 ∧ (F.punish_Shares.c1 x1 x2 l1 q2) = some (o1, o2)) ?_ ?_
 ·refine CP.region ?_
  refine WP.stl 1 ?_
  refine WP.len (a := a1) (cp := c1) hR1.len (by kernel_rfl) ?_
  refine WP.stl 2 ?_
  refine WP.guard 19 (b := decide ((l1.length : Int) < 2)) (by kernel_rfl) (fun h23 => ?_) (fun h23 => ?_)
  ·replace hs := of_if_t hs h23
   refine WP.stl 5 ?_
   refine WP.dn ?_
   refine NX.post ?_
   exact ⟨true, ⟨by kernel_rfl, by kernel_rfl⟩, tot, hR1, hs⟩
  replace hs := of_if_f hs h23
  refine WP.stl 1 ?_
  refine WP.len (a := a1) (cp := c1) hR1.len (by kernel_rfl) ?_
  refine WP.stl 3 ?_
  refine WP.dn ?_
  refine NX.post ?_
  exact ⟨decide ((l1.length : Int) > 8), ⟨by kernel_rfl, by kernel_rfl⟩, tot, hR1, hs⟩
 clear tot hs hR1
 rintro tm g ⟨q2, hF, tot, hR1, hs⟩
 clear ds
 obtain ⟨ds, rfl⟩ := hF.open
 clear hF
 unfold F.punish_Shares.c1 at hs
 refine CP.cond (b := q2) (by kernel_rfl) (fun h3 => ?_) (fun h3 => ?_)
 ·replace hs := of_if_t hs h3
  refine CP.seqR ?_
  refine WP.stl 2 ?_
  refine WP.dn ?_
  refine NX.then_n ?_
  refine CP.ret ?_
  refine NX.block_r ?_
  refine NX.then_r ?_
  replace hs := Option.some.inj hs
  obtain ⟨rfl, rfl⟩ := Prod.mk.inj hs
  exact NX.fin (v := .tuple #[.slice none 0 0, .int .i64 3]) (Res.still (by kernel_rfl)) tot htL ⟨none, 0, 0, rfl, (OwnS.nil _ _ _ _)⟩
 replace hs := of_if_f hs h3
 refine CP.cut (fun tm g => ∃ (q3 : Bool), Fr 65 [(0, .int .i64 x1), (1, .int .i64 x2), (2, .slice a1 n1 c1), (24, .bool q3)] tm ∧ Step (fun l => NoM l ∨ t ≤ l) g0 g ∧ RdS Kd.bool g 4 a1 n1 c1 l1 ∧ (F.punish_Shares.c2 x1 x2 l1 q3) = some (o1, o2)) ?_ ?_
 ·refine CP.region ?_
  refine WP.stl 3 ?_
  refine WP.guard 27 (b := decide (x2 < 0)) (by kernel_rfl) (fun h22 => ?_) (fun h22 => ?_)
  ·replace hs := of_if_t hs h22
   refine WP.stl 6 ?_
   refine WP.dn ?_
   refine NX.post ?_
   exact ⟨true, ⟨by kernel_rfl, by kernel_rfl⟩, tot, hR1, hs⟩
  replace hs := of_if_f hs h22
  refine WP.stl 2 ?_
  refine WP.len (a := a1) (cp := c1) hR1.len (by kernel_rfl) ?_
  refine WP.stl 3 ?_
  refine WP.dn ?_
  refine NX.post ?_
  exact ⟨decide (x2 ≥ (l1.length : Int)), ⟨by kernel_rfl, by kernel_rfl⟩, tot, hR1, hs⟩
 clear tot hs hR1
 rintro tm g ⟨q3, hF, tot, hR1, hs⟩
 clear ds
 obtain ⟨ds, rfl⟩ := hF.open
 clear hF
 unfold F.punish_Shares.c2 at hs
 refine CP.cond (b := q3) (by kernel_rfl) (fun h5 => ?_) (fun h5 => ?_)
 ·replace hs := of_if_t hs h5
  refine CP.seqR ?_
  refine WP.stl 2 ?_
  refine WP.dn ?_
  refine NX.then_n ?_
  refine CP.ret ?_
  refine NX.block_r ?_
  refine NX.then_r ?_
  replace hs := Option.some.inj hs
  obtain ⟨rfl, rfl⟩ := Prod.mk.inj hs
  exact NX.fin (v := .tuple #[.slice none 0 0, .int .i64 28]) (Res.still (by kernel_rfl)) tot htL ⟨none, 0, 0, rfl, (OwnS.nil _ _ _ _)⟩
 replace hs := of_if_f hs h5
 refine CP.skip ?_
 refine NX.block_n ?_
 refine NX.then_n ?_
 refine CP.seqR ?_
 refine WP.stl 1 ?_
 refine WP.len (a := a1) (cp := c1) hR1.len (by kernel_rfl) ?_
 by_cases hc1 : (0 : Int) ≤ (l1.length : Int) ∧ (l1.length : Int) ≤ 17592186044416
 case neg => rw [if_neg hc1] at hs; cases hs
 replace hs := of_if_p hs hc1
 refine WP.make (kd := (Kd.int .i64)) (t + 1) (t := 24) (e := 3) (bytes := 8) (kl := .i64) (kc := .i64) (i := (l1.length : Int)) (by kernel_rfl) (by kernel_rfl) (by omega) (by omega) (by omega) (z := 0) (by intro zv hz; cases hz; exact (by exact rfl)) ?_
 intro g2 a2 st2 hR2
 replace hR1 := hR1.mono st2 (fun x => x)
 replace tot := tot.trans st2.pure
 refine WP.stl 1 ?_
 refine WP.dn ?_
 refine NX.then_n ?_
 refine CP.seq ?_
 refine CP.seqR ?_
 refine WP.stl 1 ?_
 refine WP.len (a := a1) (cp := c1) hR1.len (by kernel_rfl) ?_
 refine WP.stl 1 ?_
 refine WP.dn ?_
 refine NX.then_n ?_
 refine CP.block ?_
 generalize fuel = k1 at hs
 refine CP.loop (fun k1 tm g => ∃ (l5 : List Int) (a6 : Option Addr) (n5 : Nat) (c5 : Nat) (x4 : Int), Fr 65 [(0, .int .i64 x1), (1, .int .i64 x2), (8, .slice a6 n5 c5), (36, .slice a1 n1 c1), (37, .int .i64 (l1.length : Int)), (38, .int .i64 x4)] tm ∧ Step (fun l => NoM l ∨ t ≤ l) g0 g ∧ OwnS (Kd.int .i64) g (t + 1) 3 a6 n5 c5 l5 ∧ RdS Kd.bool g 4 a1 n1 c1 l1 ∧ F.punish_Shares.l1 x1 x2 l1 k1 l5 x4 = some (o1, o2)) k1 ?_ ?_ ?_
 ·exact ⟨(List.replicate (l1.length : Int).toNat (0 : Int)), a2, (l1.length : Int).toNat, (l1.length : Int).toNat, 0, ⟨by kernel_rfl, by kernel_rfl⟩, tot, hR2, hR1, hs⟩
 ·rintro tm g ⟨l5, a6, n5, c5, x4, hF, tot, hR6, hR1, hs⟩
  exact absurd hs (by simp [F.punish_Shares.l1])
 clear tot hs hR2 hR1
 rintro k1 tm g ⟨l5, a6, n5, c5, x4, hF, tot, hR6, hR1, hs⟩
 clear ds
 obtain ⟨ds, rfl⟩ := hF.open
 clear hF
 unfold F.punish_Shares.l1 at hs
 refine CP.seqR ?_
 refine WP.stl 1 ?_
 refine WP.dn ?_
 refine NX.then_n ?_
 refine CP.seq ?_
 refine CP.cond (b := decide (x4 < (l1.length : Int))) (by kernel_rfl) (fun h14 => ?_) (fun h14 => ?_)
 ·replace hs := of_if_t hs h14
  refine CP.skip ?_
  refine NX.then_n ?_
  refine CP.cut (fun tm g => ∃ (l10 : List Int) (a11 : Option Addr) (n10 : Nat) (c10 : Nat), Fr 65 [(0, .int .i64 x1), (1, .int .i64 x2), (8, .slice a11 n10 c10), (36, .slice a1 n1 c1), (37, .int .i64 (l1.length : Int)), (38, .int .i64 x4)] tm ∧ Step (fun l => NoM l ∨ t ≤ l) g0 g ∧ OwnS (Kd.int .i64) g (t + 1) 3 a11 n10 c10 l10 ∧ RdS Kd.bool g 4 a1 n1 c1 l1 ∧ (F.punish_Shares.c3 (F.punish_Shares.l1 x1 x2 l1 k1) x4 l10) = some (o1, o2)) ?_ ?_
  ·refine CP.block ?_
   refine CP.seqR ?_
   refine WP.stl 1 ?_
   by_cases hc10 : (0 : Int) ≤ x4 ∧ x4 < (l1.length : Int)
   case neg => rw [if_neg hc10] at hs; cases hs
   replace hs := of_if_p hs hc10
   obtain ⟨b9, u9, ha9⟩ := hR1.at hc10
   refine WP.indexA (t := 22) (e := 4) (sz := 1) (cap := c1) (k := .i64) (i := x4) hR1.len ha9 (by kernel_rfl) (by kernel_rfl) hc10 ?_
   obtain ⟨cs4, hcR4, hcV4⟩ := hR1.src.view (getI_some hc10) ha9
   replace hcR4 := Kd.o_bool hcR4
   refine WP.loadV [[.bool (getI l1 x4)]] [1] hcV4 hcR4 rfl (f := 0) (ty := 4) (agg := false) (size := 1) (rs := [[.bool (getI l1 x4)]]) (v := .bool (getI l1 x4)) (by kernel_rfl) (by kernel_rfl) (by kernel_rfl) (by kernel_rfl) ?_
   refine WP.stl 2 ?_
   refine WP.dn ?_
   refine NX.then_n ?_
   refine CP.cut (fun tm g => ∃ (q9 : Bool), Fr 65 [(0, .int .i64 x1), (1, .int .i64 x2), (8, .slice a6 n5 c5), (9, .int .i64 x4), (36, .slice a1 n1 c1), (37, .int .i64 (l1.length : Int)), (38, .int .i64 x4), (49, .bool q9)] tm ∧ Step (fun l => NoM l ∨ t ≤ l) g0 g ∧ OwnS (Kd.int .i64) g (t + 1) 3 a6 n5 c5 l5 ∧ RdS Kd.bool g 4 a1 n1 c1 l1 ∧ (F.punish_Shares.c4 (F.punish_Shares.l1 x1 x2 l1 k1) l5 x4 q9) = some (o1, o2)) ?_ ?_
   ·refine CP.region ?_
    refine WP.stl 4 ?_
    refine WP.guard 46 (b := (x4 != x2)) (by kernel_rfl) (fun h19 => ?_) (fun h19 => ?_)
    ·replace hs := of_if_t hs h19
     refine WP.stl 3 ?_
     refine WP.dn ?_
     refine NX.post ?_
     exact ⟨(!(getI l1 x4)), ⟨by kernel_rfl, by kernel_rfl⟩, tot, hR6, hR1, hs⟩
    replace hs := of_if_f hs h19
    refine WP.stl 3 ?_
    refine WP.dn ?_
    refine NX.post ?_
    exact ⟨false, ⟨by kernel_rfl, by kernel_rfl⟩, tot, hR6, hR1, hs⟩
   clear tot hs hR6 hR1
   rintro tm g ⟨q9, hF, tot, hR6, hR1, hs⟩
   clear ds
   obtain ⟨ds, rfl⟩ := hF.open
   clear hF
   unfold F.punish_Shares.c4 at hs
   refine CP.cond (b := q9) (by kernel_rfl) (fun h18 => ?_) (fun h18 => ?_)
   ·replace hs := of_if_t hs h18
    refine CP.region ?_
    refine WP.stl 2 ?_
    by_cases hc11 : (0 : Int) ≤ x4 ∧ x4 < (l5.length : Int)
    case neg => rw [if_neg hc11] at hs; cases hs
    replace hs := of_if_p hs hc11
    obtain ⟨b10, u10, ha10⟩ := hR6.at hc11
    refine WP.indexA (t := 24) (e := 3) (sz := 1) (cap := c5) (k := .i64) (i := x4) hR6.len ha10 (by kernel_rfl) (by kernel_rfl) hc11 ?_
    refine WP.storeO (ty := 3) (v := .int .i64 1) hR6 (by omega) (i := x4.toNat) (by first | omega | (simp only [setI_length] at *; omega)) ha10 (by kernel_rfl) (x := 1) (by exact rfl) (by kernel_rfl) ?_
    intro g16 st16 hO8
    replace hR1 := hR1.mono st16 (WL.no1 (by omega))
    replace tot := tot.trans (st16.up1 (.inr (by omega)))
    clear hR6
    have hR6 : OwnS (Kd.int .i64) g16 (t + 1) 3 a6 n5 c5 (setI l5 x4 1) := hO8
    clear hO8
    refine WP.dn ?_
    refine NX.block_n ?_
    refine NX.post ?_
    exact ⟨(setI l5 x4 1), a6, n5, c5, ⟨by kernel_rfl, by kernel_rfl⟩, tot, hR6, hR1, hs⟩
   replace hs := of_if_f hs h18
   refine CP.skip ?_
   refine NX.block_n ?_
   refine NX.post ?_
   exact ⟨l5, a6, n5, c5, ⟨by kernel_rfl, by kernel_rfl⟩, tot, hR6, hR1, hs⟩
  clear tot hs hR6 hR1
  rintro tm g ⟨l10, a11, n10, c10, hF, tot, hR11, hR1, hs⟩
  clear ds
  obtain ⟨ds, rfl⟩ := hF.open
  clear hF
  unfold F.punish_Shares.c3 at hs
  refine CP.region ?_
  refine WP.stl 2 ?_
  refine WP.dn ?_
  refine NX.post ?_
  exact ⟨l10, a11, n10, c10, (IntKind.i64.wrap (x4 + 1)), ⟨by kernel_rfl, by kernel_rfl⟩, tot, hR11, hR1, hs⟩
 replace hs := of_if_f hs h14
 refine CP.exit ?_
 refine NX.then_e ?_
 refine NX.then_e ?_
 refine NX.block_s ?_
 refine NX.then_n ?_
 refine CP.cut (fun tm g => ∃ (l11 : List Int) (a12 : Option Addr) (n11 : Nat) (c11 : Nat), Fr 65 [(0, .int .i64 x1), (8, .slice a12 n11 c11)] tm ∧ Step (fun l => NoM l ∨ t ≤ l) g0 g ∧ OwnS (Kd.int .i64) g (t + 1) 3 a12 n11 c11 l11 ∧ (F.punish_Shares.c5 x1 l11) = some (o1, o2)) ?_ ?_
 ·refine CP.seqR ?_
  refine WP.stl 1 ?_
  replace hs := Option.bind_eq_some_iff.1 hs
  obtain ⟨q11, hk8, hs⟩ := hs
  have hS4 : 0 ∉ ([(t + 1)] : List Nat) := by simp <;> omega
  have stl4 := GW.lend_step g [(t + 1)]
  have hRl4 := hR6.lendTo hS4 (by simp)
  refine WP.regw (g' := GW.lend g [(t + 1)]) rfl ?_
  have hcal8 := P.slices_Contains_int_int (GW.lend g [(t + 1)]) l5 1 a6 n5 c5 hRl4 q11 hk8
  refine WP.callC hcal8 (by kernel_rfl) ?_
  rintro _ g23 st23 rfl
  have st24 := (GW.back_step st23).lentS
  have hO11 := hR6.backTo hS4 (by simp) st23 (fun x => x)
  refine WP.regw (g' := GW.back g g23 [(t + 1)]) rfl ?_
  generalize GW.back g g23 [(t + 1)] = g24 at *
  replace tot := tot.trans (st24.up1 (.inr (by omega)))
  clear hR6
  have hR6 : OwnS (Kd.int .i64) g24 (t + 1) 3 a6 n5 c5 l5 := hO11
  clear hO11
  refine WP.stl 1 ?_
  refine WP.dn ?_
  refine NX.then_n ?_
  refine CP.cond (b := (!q11)) (by kernel_rfl) (fun h21 => ?_) (fun h21 => ?_)
  ·replace hs := of_if_t hs h21
   refine CP.region ?_
   refine WP.stl 2 ?_
   by_cases hc13 : (0 : Int) ≤ x2 ∧ x2 < (l5.length : Int)
   case neg => rw [if_neg hc13] at hs; cases hs
   replace hs := of_if_p hs hc13
   obtain ⟨b12, u12, ha12⟩ := hR6.at hc13
   refine WP.indexA (t := 24) (e := 3) (sz := 1) (cap := c5) (k := .i64) (i := x2) hR6.len ha12 (by kernel_rfl) (by kernel_rfl) hc13 ?_
   refine WP.storeO (ty := 3) (v := .int .i64 1) hR6 (by omega) (i := x2.toNat) (by first | omega | (simp only [setI_length] at *; omega)) ha12 (by kernel_rfl) (x := 1) (by exact rfl) (by kernel_rfl) ?_
   intro g25 st25 hO12
   replace tot := tot.trans (st25.up1 (.inr (by omega)))
   clear hR6
   have hR6 : OwnS (Kd.int .i64) g25 (t + 1) 3 a6 n5 c5 (setI l5 x2 1) := hO12
   clear hO12
   refine WP.dn ?_
   refine NX.post ?_
   exact ⟨(setI l5 x2 1), a6, n5, c5, ⟨by kernel_rfl, by kernel_rfl⟩, tot, hR6, hs⟩
  replace hs := of_if_f hs h21
  refine CP.skip ?_
  refine NX.post ?_
  exact ⟨l5, a6, n5, c5, ⟨by kernel_rfl, by kernel_rfl⟩, tot, hR6, hs⟩
 clear tot hs hR6
 rintro tm g ⟨l11, a12, n11, c11, hF, tot, hR12, hs⟩
 clear ds
 obtain ⟨ds, rfl⟩ := hF.open
 clear hF
 unfold F.punish_Shares.c5 at hs
 refine CP.seqR ?_
 refine WP.stl 2 ?_
 replace hs := Option.bind_eq_some_iff.1 hs
 obtain ⟨⟨l12, x7⟩, hk7, hs⟩ := hs
 dsimp only at hs
 obtain ⟨g21, hw3, st21, hnew⟩ := hR12.freeze (by omega)
 refine WP.regw hw3 ?_
 replace tot := tot.trans (st21.up1 (.inr (by omega)))
 clear hR12
 have hR12 := hnew
 clear hnew
 have hcal7 := P.coin_Split g21 (t + 4) x1 l11 a12 n11 c11 hR12 l12 x7 hk7
 refine WP.callC hcal7 (by kernel_rfl) ?_
 rintro _ g20 st20 ⟨a13, n12, c12, rfl, hR13⟩
 replace hR12 := hR12.mono st20 (fun x => x)
 replace tot := tot.trans st20.pure
 refine WP.stl 4 ?_
 refine WP.dn ?_
 refine NX.then_n ?_
 refine CP.ret ?_
 obtain ⟨g22, hw4, st22, hnew⟩ := hR13.relab (by omega) r0
 refine NX.regw hw4 ?_
 replace tot := tot.trans (st22.up1 (.inr (by omega)))
 clear hR13
 have hR13 := hnew
 clear hnew
 replace hs := Option.some.inj hs
 obtain ⟨rfl, rfl⟩ := Prod.mk.inj hs
 exact NX.fin (v := .tuple #[.slice a13 n12 c12, .int .i64 x7]) (Res.still (by kernel_rfl)) tot htL ⟨a13, n12, c12, rfl, hR13⟩
def N.baizeref34_Ints_0 : List (List Nat) := [[], [], [0, 1], [0, 1, 2], [], [], [4, 5], [4, 5, 6], [0, 1, 2, 3, 4, 5, 6, 7]]
def F.baizeref34_Ints.l1 (l1 : List Int) (l2 : List Int) : Nat → Int → Option (Bool)
 | 0, _ => none
 | k + 1, x1 => (if decide (x1 < (l1.length : Int)) = true then (if (0 : Int) ≤ x1 ∧ x1 < (l1.length : Int) then (if (0 : Int) ≤ x1 ∧ x1 < (l2.length : Int) then (if ((getI l1 x1) != (getI l2 x1)) = true then (some false) else (F.baizeref34_Ints.l1 l1 l2 k (IntKind.i64.wrap (x1 + 1)))) else none) else none) else (some true))
def F.baizeref34_Ints (l1 : List Int) (l2 : List Int) : Option (Bool) := (if ((l1.length : Int) != (l2.length : Int)) = true then (some false) else (F.baizeref34_Ints.l1 l1 l2 fuel 0))
theorem P.baizeref34_Ints (g0 : GW) (l1 : List Int) (l2 : List Int) (a1 : Option Addr) (n1 : Nat) (c1 : Nat) (a2 : Option Addr) (n2 : Nat) (c2 : Nat) (hR1 : RdS (Kd.int .i64) g0 3 a1 n1 c1 l1) (hR2 : RdS (Kd.int .i64) g0 3 a2 n2 c2 l2) (o1 : Bool) (hs : F.baizeref34_Ints l1 l2 = some o1) :
  Calls Try.prog 12 #[.slice a1 n1 c1, .slice a2 n2 c2] g0.w (Ret NoM g0 fun v g => v = .bool o1) := by
 refine calls_of (args := [.slice a1 n1 c1, .slice a2 n2 c2]) Try.func12 rfl (0) ?_
 intro t ht htL
 refine ⟨_, rfl, ?_⟩
 refine CP.refr 26 [(0, .slice a1 n1 c1), (1, .slice a2 n2 c2)] (by kernel_rfl) (by kernel_rfl) ?_
 intro ds
 have tot : Step (fun l => NoM l ∨ t ≤ l) g0 g0 := Step.refl _ _
 unfold F.baizeref34_Ints at hs
 refine CP.seqR ?_
 refine WP.stl 1 ?_
 refine WP.dn ?_
 refine NX.then_n ?_
 refine CP.seq ?_
 refine CP.seqR ?_
 refine WP.stl 1 ?_
 refine WP.len (a := a1) (cp := c1) hR1.len (by kernel_rfl) ?_
 refine WP.stl 1 ?_
 refine WP.len (a := a2) (cp := c2) hR2.len (by kernel_rfl) ?_
 refine WP.stl 1 ?_
 refine WP.dn ?_
 refine NX.then_n ?_
 refine CP.cond (b := ((l1.length : Int) != (l2.length : Int))) (by kernel_rfl) (fun h1 => ?_) (fun h1 => ?_)
 ·replace hs := of_if_t hs h1
  refine CP.seqR ?_
  refine WP.stl 1 ?_
  refine WP.dn ?_
  refine NX.then_n ?_
  refine CP.ret ?_
  refine NX.then_r ?_
  replace hs := Option.some.inj hs
  obtain rfl := hs
  exact NX.fin (v := .bool false) (Res.still (by kernel_rfl)) tot htL rfl
 replace hs := of_if_f hs h1
 refine CP.skip ?_
 refine NX.then_n ?_
 refine CP.seq ?_
 refine CP.seqR ?_
 refine WP.stl 1 ?_
 refine WP.dn ?_
 refine NX.then_n ?_
 refine CP.block ?_
 generalize fuel = k1 at hs
 refine CP.loop (fun k1 tm g => ∃ (x1 : Int), Fr 26 [(0, .slice a1 n1 c1), (1, .slice a2 n2 c2), (5, .int .i64 x1)] tm ∧ Step (fun l => NoM l ∨ t ≤ l) g0 g ∧ RdS (Kd.int .i64) g 3 a1 n1 c1 l1 ∧ RdS (Kd.int .i64) g 3 a2 n2 c2 l2 ∧ F.baizeref34_Ints.l1 l1 l2 k1 x1 = some o1) k1 ?_ ?_ ?_
 ·exact ⟨0, ⟨by kernel_rfl, by kernel_rfl⟩, tot, hR1, hR2, hs⟩
 ·rintro tm g ⟨x1, hF, tot, hR1, hR2, hs⟩
  exact absurd hs (by simp [F.baizeref34_Ints.l1])
 clear tot hs hR1 hR2
 rintro k1 tm g ⟨x1, hF, tot, hR1, hR2, hs⟩
 clear ds
 obtain ⟨ds, rfl⟩ := hF.open
 clear hF
 unfold F.baizeref34_Ints.l1 at hs
 refine CP.seq ?_
 refine CP.seqR ?_
 refine WP.stl 2 ?_
 refine WP.len (a := a1) (cp := c1) hR1.len (by kernel_rfl) ?_
 refine WP.stl 1 ?_
 refine WP.dn ?_
 refine NX.then_n ?_
 refine CP.cond (b := decide (x1 < (l1.length : Int))) (by kernel_rfl) (fun h6 => ?_) (fun h6 => ?_)
 ·replace hs := of_if_t hs h6
  refine CP.skip ?_
  refine NX.then_n ?_
  refine CP.seq ?_
  refine CP.block ?_
  refine CP.seq ?_
  by_cases hc5 : (0 : Int) ≤ x1 ∧ x1 < (l1.length : Int)
  case neg => rw [if_neg hc5] at hs; cases hs
  replace hs := of_if_p hs hc5
  by_cases hc6 : (0 : Int) ≤ x1 ∧ x1 < (l2.length : Int)
  case neg => rw [if_neg hc6] at hs; cases hs
  replace hs := of_if_p hs hc6
  obtain ⟨b5, u5, ha5⟩ := hR1.at hc5
  obtain ⟨b6, u6, ha6⟩ := hR2.at hc6
  refine CP.drawL (by kernel_rfl) [2, 3, 6, 7] N.baizeref34_Ints_0 [⟨none, [], [], fun l g => RdS (Kd.int .i64) g 3 a1 n1 c1 l1⟩, ⟨none, [], [], fun l g => RdS (Kd.int .i64) g 3 a2 n2 c2 l2⟩, ⟨some 0, [], [0], fun l g => l.getD 0 undef = .pointer (some ⟨b5, u5 + x1.toNat * 1, none⟩)⟩, ⟨some 1, [], [1], fun l g => l.getD 0 undef = .int .i64 (getI l1 x1)⟩, ⟨some 2, [], [2], fun l g => l.getD 0 undef = .pointer (some ⟨b6, u6 + x1.toNat * 1, none⟩)⟩, ⟨some 3, [], [3], fun l g => l.getD 0 undef = .int .i64 (getI l2 x1)⟩] [[], [], [], []] [] [0, 1, 4, 5] [8] (by kernel_rfl) (by simp) (by simp) ⟨fun _ _ _ _ st h0 hl hj hR1 => (RdS.mono (e := 3) hR1 st h0), fun _ _ _ _ st h0 hl hj hR2 => (RdS.mono (e := 3) hR2 st h0), fun _ _ _ _ st h0 hl hj e0 => e0, fun _ _ _ _ st h0 hl hj e1 => e1, fun _ _ _ _ st h0 hl hj e2 => e2, fun _ _ _ _ st h0 hl hj e3 => e3, tv⟩ ⟨hR1, hR2, tv, tv, tv, tv, tv⟩ (by kernel_rfl) (fun vs => by kernel_rfl) ?_ ?_ ?_
  ·intro j hj
   have hq : j = 0 := by have h : j < 1 := hj; omega
   rcases hq with rfl
   ·intro vs gq stq hl hf
    obtain ⟨v0, v1, v2, v3, rfl⟩ := len_k4 hl
    have e1 := (show v1 = .int .i64 (getI l1 x1) from hf _ (memI 3 rfl) (by kernel_rfl))
    subst e1
    have e3 := (show v3 = .int .i64 (getI l2 x1) from hf _ (memI 5 rfl) (by kernel_rfl))
    subst e3
    show Option.isSome _ = true
    kernel_rfl
  ·intro j hj
   have hq : j = 0 ∨ j = 1 ∨ j = 2 ∨ j = 3 := by have h : j < 4 := hj; omega
   rcases hq with rfl | rfl | rfl | rfl
   ·intro vs gq stq hl hf
    obtain ⟨v0, v1, v2, v3, rfl⟩ := len_k4 hl
    have hR1 := (show RdS (Kd.int .i64) gq 3 a1 n1 c1 l1 from hf _ (memI 0 rfl) (by kernel_rfl))
    refine WP.indexA (t := 24) (e := 3) (sz := 1) (cap := c1) (k := .i64) (i := x1) hR1.len ha5 (by kernel_rfl) (by kernel_rfl) hc5 ?_
    refine WP.dn (Shown.ok (v := .pointer (some ⟨b5, u5 + x1.toNat * 1, none⟩)) (by kernel_rfl) (Step.refl _ _) ?_)
    exact ⟨tv, tv, rfl, tv, tv, tv, tv⟩
   ·intro vs gq stq hl hf
    obtain ⟨v0, v1, v2, v3, rfl⟩ := len_k4 hl
    have hR1 := (show RdS (Kd.int .i64) gq 3 a1 n1 c1 l1 from hf _ (memI 0 rfl) (by kernel_rfl))
    have e0 := (show v0 = .pointer (some ⟨b5, u5 + x1.toNat * 1, none⟩) from hf _ (memI 2 rfl) (by kernel_rfl))
    subst e0
    obtain ⟨cs5, hcR5, hcV5⟩ := hR1.src.view (getI_some hc5) ha5
    replace hcR5 := Kd.o_int hcR5
    refine WP.loadV [[.int .i64 (getI l1 x1)]] [1] hcV5 hcR5 rfl (f := 0) (ty := 3) (agg := false) (size := 1) (rs := [[.int .i64 (getI l1 x1)]]) (v := .int .i64 (getI l1 x1)) (by kernel_rfl) (by kernel_rfl) (by kernel_rfl) (by kernel_rfl) ?_
    refine WP.dn (Shown.ok (v := .int .i64 (getI l1 x1)) (by kernel_rfl) (Step.refl _ _) ?_)
    exact ⟨tv, tv, tv, rfl, tv, tv, tv⟩
   ·intro vs gq stq hl hf
    obtain ⟨v0, v1, v2, v3, rfl⟩ := len_k4 hl
    have hR2 := (show RdS (Kd.int .i64) gq 3 a2 n2 c2 l2 from hf _ (memI 1 rfl) (by kernel_rfl))
    refine WP.indexA (t := 24) (e := 3) (sz := 1) (cap := c2) (k := .i64) (i := x1) hR2.len ha6 (by kernel_rfl) (by kernel_rfl) hc6 ?_
    refine WP.dn (Shown.ok (v := .pointer (some ⟨b6, u6 + x1.toNat * 1, none⟩)) (by kernel_rfl) (Step.refl _ _) ?_)
    exact ⟨tv, tv, tv, tv, rfl, tv, tv⟩
   ·intro vs gq stq hl hf
    obtain ⟨v0, v1, v2, v3, rfl⟩ := len_k4 hl
    have hR2 := (show RdS (Kd.int .i64) gq 3 a2 n2 c2 l2 from hf _ (memI 1 rfl) (by kernel_rfl))
    have e2 := (show v2 = .pointer (some ⟨b6, u6 + x1.toNat * 1, none⟩) from hf _ (memI 4 rfl) (by kernel_rfl))
    subst e2
    obtain ⟨cs6, hcR6, hcV6⟩ := hR2.src.view (getI_some hc6) ha6
    replace hcR6 := Kd.o_int hcR6
    refine WP.loadV [[.int .i64 (getI l2 x1)]] [1] hcV6 hcR6 rfl (f := 0) (ty := 3) (agg := false) (size := 1) (rs := [[.int .i64 (getI l2 x1)]]) (v := .int .i64 (getI l2 x1)) (by kernel_rfl) (by kernel_rfl) (by kernel_rfl) (by kernel_rfl) ?_
    refine WP.dn (Shown.ok (v := .int .i64 (getI l2 x1)) (by kernel_rfl) (Step.refl _ _) ?_)
    exact ⟨tv, tv, tv, tv, tv, rfl, tv⟩
  intro vs g1 st1 hl hf
  obtain ⟨v0, v1, v2, v3, rfl⟩ := len_k4 hl
  have e1 := (show v1 = .int .i64 (getI l1 x1) from hf _ (memI 3 rfl) (by kernel_rfl))
  subst e1
  have e3 := (show v3 = .int .i64 (getI l2 x1) from hf _ (memI 5 rfl) (by kernel_rfl))
  subst e3
  replace hR1 := hR1.mono st1.toNo (fun x => x)
  replace hR2 := hR2.mono st1.toNo (fun x => x)
  replace tot := tot.trans st1.toNo.pure
  refine NX.then_n ?_
  refine CP.refr 26 [(0, .slice a1 n1 c1), (1, .slice a2 n2 c2), (5, .int .i64 x1), (25, .bool ((getI l1 x1) != (getI l2 x1)))] (by kernel_rfl) (by kernel_rfl) ?_
  clear ds
  intro ds
  refine CP.cond (b := ((getI l1 x1) != (getI l2 x1))) (by kernel_rfl) (fun h7 => ?_) (fun h7 => ?_)
  ·replace hs := of_if_t hs h7
   refine CP.seqR ?_
   refine WP.stl 1 ?_
   refine WP.dn ?_
   refine NX.then_n ?_
   refine CP.ret ?_
   refine NX.block_r ?_
   refine NX.then_r ?_
   refine NX.then_r ?_
   refine NX.block_r ?_
   refine NX.then_r ?_
   replace hs := Option.some.inj hs
   obtain rfl := hs
   exact NX.fin (v := .bool false) (Res.still (by kernel_rfl)) tot htL rfl
  replace hs := of_if_f hs h7
  refine CP.skip ?_
  refine NX.block_n ?_
  refine NX.then_n ?_
  refine CP.region ?_
  refine WP.stl 3 ?_
  refine WP.dn ?_
  refine NX.post ?_
  exact ⟨(IntKind.i64.wrap (x1 + 1)), ⟨by kernel_rfl, by kernel_rfl⟩, tot, hR1, hR2, hs⟩
 replace hs := of_if_f hs h6
 refine CP.exit ?_
 refine NX.then_e ?_
 refine NX.then_e ?_
 refine NX.block_s ?_
 refine NX.then_n ?_
 refine CP.seqR ?_
 refine WP.stl 1 ?_
 refine WP.dn ?_
 refine NX.then_n ?_
 refine CP.ret ?_
 replace hs := Option.some.inj hs
 obtain rfl := hs
 exact NX.fin (v := .bool true) (Res.still (by kernel_rfl)) tot htL rfl
def F.baizelaw34_known.c1 (q4 : Bool) : Option (Bool) := (some q4)
def F.baizelaw34_known : Option (Bool) := ((F.punish_Shares 7 1 ([false, false, false])).bind fun (l1, x1) => ((F.punish_Shares 7 1 ([true, false, false])).bind fun (l2, x2) => ((F.punish_Shares 7 1 ([true, false, true])).bind fun (l3, x3) => (if (x1 == 0) = true then (if (x2 == 0) = true then (if (x3 == 0) = true then ((F.baizeref34_Ints l1 ([4, 0, 3])).bind fun q5 => (if q5 = true then ((F.baizeref34_Ints l2 ([0, 0, 7])).bind fun q6 => (if q6 = true then ((F.baizeref34_Ints l3 ([0, 7, 0])).bind fun q7 => (F.baizelaw34_known.c1 q7)) else (F.baizelaw34_known.c1 false))) else (F.baizelaw34_known.c1 false))) else (F.baizelaw34_known.c1 false)) else (F.baizelaw34_known.c1 false)) else (F.baizelaw34_known.c1 false)))))
theorem P.baizelaw34_known (g0 : GW) (o1 : Bool) (hs : F.baizelaw34_known = some o1) :
  Calls Try.prog 9 #[] g0.w (Ret NoM g0 fun v g => v = .bool o1) := by
 refine calls_of (args := []) Try.func9 rfl (0) ?_
 intro t ht htL
 refine ⟨_, rfl, ?_⟩
 refine CP.refr 47 [] (by kernel_rfl) (by kernel_rfl) ?_
 intro ds
 have tot : Step (fun l => NoM l ∨ t ≤ l) g0 g0 := Step.refl _ _
 unfold F.baizelaw34_known at hs
 refine CP.seqR ?_
 refine WP.stl 1 ?_
 refine WP.dn ?_
 refine NX.then_n ?_
 refine CP.seqR ?_
 refine WP.mkSl (kd := Kd.bool) (t := 22) (e := 4) (bytes := 1) (t + 1) [.bool false, .bool false, .bool false] [false, false, false] (by kernel_rfl) (by kernel_rfl) (Nat.le_of_ble_eq_true rfl) (Nat.le_of_ble_eq_true rfl) (all_cons rfl (all_cons rfl (all_cons rfl all_nil))) (⟨_, _, rfl, (by exact rfl), ⟨_, _, rfl, (by exact rfl), ⟨_, _, rfl, (by exact rfl), rfl⟩⟩⟩) rfl ?_
 intro g1 a1 st1 hR1
 replace tot := tot.trans st1.pure
 replace hs := Option.bind_eq_some_iff.1 hs
 obtain ⟨⟨l1, x1⟩, hk1, hs⟩ := hs
 dsimp only at hs
 obtain ⟨g3, hw1, st3, hnew⟩ := hR1.freeze (by omega)
 refine WP.regw hw1 ?_
 replace tot := tot.trans (st3.up1 (.inr (by omega)))
 clear hR1
 have hR1 := hnew
 clear hnew
 have hcal1 := P.punish_Shares g3 (t + 2) 7 1 ([false, false, false]) a1 3 3 hR1 l1 x1 hk1
 refine WP.callC hcal1 (by kernel_rfl) ?_
 rintro _ g2 st2 ⟨a2, n1, c1, rfl, hR2⟩
 replace hR1 := hR1.mono st2 (fun x => x)
 replace tot := tot.trans st2.pure
 refine WP.stl 5 ?_
 refine WP.dn ?_
 refine NX.then_n ?_
 refine CP.seqR ?_
 refine WP.mkSl (kd := Kd.bool) (t := 22) (e := 4) (bytes := 1) (t + 3) [.bool true, .bool false, .bool false] [true, false, false] (by kernel_rfl) (by kernel_rfl) (Nat.le_of_ble_eq_true rfl) (Nat.le_of_ble_eq_true rfl) (all_cons rfl (all_cons rfl (all_cons rfl all_nil))) (⟨_, _, rfl, (by exact rfl), ⟨_, _, rfl, (by exact rfl), ⟨_, _, rfl, (by exact rfl), rfl⟩⟩⟩) rfl ?_
 intro g4 a3 st4 hR3
 replace hR2 := hR2.mono st4 (fun x => x) (fun x => x)
 replace tot := tot.trans st4.pure
 replace hs := Option.bind_eq_some_iff.1 hs
 obtain ⟨⟨l2, x2⟩, hk2, hs⟩ := hs
 dsimp only at hs
 obtain ⟨g6, hw2, st6, hnew⟩ := hR3.freeze (by omega)
 refine WP.regw hw2 ?_
 replace hR2 := hR2.mono st6 (WL.no1 (by omega)) (WL.no1 (by omega))
 replace tot := tot.trans (st6.up1 (.inr (by omega)))
 clear hR3
 have hR3 := hnew
 clear hnew
 have hcal2 := P.punish_Shares g6 (t + 4) 7 1 ([true, false, false]) a3 3 3 hR3 l2 x2 hk2
 refine WP.callC hcal2 (by kernel_rfl) ?_
 rintro _ g5 st5 ⟨a4, n2, c2, rfl, hR4⟩
 replace hR2 := hR2.mono st5 (fun x => x) (fun x => x)
 replace hR3 := hR3.mono st5 (fun x => x)
 replace tot := tot.trans st5.pure
 refine WP.stl 5 ?_
 refine WP.dn ?_
 refine NX.then_n ?_
 refine CP.refr 47 [(1, .slice a2 n1 c1), (2, .int .i64 x1), (3, .slice a4 n2 c2), (4, .int .i64 x2)] (by kernel_rfl) (by kernel_rfl) ?_
 clear ds
 intro ds
 refine CP.seqR ?_
 refine WP.mkSl (kd := Kd.bool) (t := 22) (e := 4) (bytes := 1) (t + 5) [.bool true, .bool false, .bool true] [true, false, true] (by kernel_rfl) (by kernel_rfl) (Nat.le_of_ble_eq_true rfl) (Nat.le_of_ble_eq_true rfl) (all_cons rfl (all_cons rfl (all_cons rfl all_nil))) (⟨_, _, rfl, (by exact rfl), ⟨_, _, rfl, (by exact rfl), ⟨_, _, rfl, (by exact rfl), rfl⟩⟩⟩) rfl ?_
 intro g7 a5 st7 hR5
 replace hR2 := hR2.mono st7 (fun x => x) (fun x => x)
 replace hR4 := hR4.mono st7 (fun x => x) (fun x => x)
 replace tot := tot.trans st7.pure
 replace hs := Option.bind_eq_some_iff.1 hs
 obtain ⟨⟨l3, x3⟩, hk3, hs⟩ := hs
 dsimp only at hs
 obtain ⟨g9, hw3, st9, hnew⟩ := hR5.freeze (by omega)
 refine WP.regw hw3 ?_
 replace hR2 := hR2.mono st9 (WL.no1 (by omega)) (WL.no1 (by omega))
 replace hR4 := hR4.mono st9 (WL.no1 (by omega)) (WL.no1 (by omega))
 replace tot := tot.trans (st9.up1 (.inr (by omega)))
 clear hR5
 have hR5 := hnew
 clear hnew
 have hcal3 := P.punish_Shares g9 (t + 6) 7 1 ([true, false, true]) a5 3 3 hR5 l3 x3 hk3
 refine WP.callC hcal3 (by kernel_rfl) ?_
 rintro _ g8 st8 ⟨a6, n3, c3, rfl, hR6⟩
 replace hR2 := hR2.mono st8 (fun x => x) (fun x => x)
 replace hR4 := hR4.mono st8 (fun x => x) (fun x => x)
 replace hR5 := hR5.mono st8 (fun x => x)
 replace tot := tot.trans st8.pure
 refine WP.stl 5 ?_
 refine WP.dn ?_
 refine NX.then_n ?_
 refine CP.cut (fun tm g => ∃ (q4 : Bool), Fr 47 [(0, .bool q4)] tm ∧ Step (fun l => NoM l ∨ t ≤ l) g0 g ∧ (F.baizelaw34_known.c1 q4) = some o1) ?_ ?_
 ·refine CP.region ?_
  refine WP.stl 3 ?_
  refine WP.guard 24 (b := (x1 == 0)) (by kernel_rfl) (fun h6 => ?_) (fun h6 => ?_)
  ·replace hs := of_if_t hs h6
   refine WP.stl 4 ?_
   refine WP.guard 28 (b := (x2 == 0)) (by kernel_rfl) (fun h7 => ?_) (fun h7 => ?_)
   ·replace hs := of_if_t hs h7
    refine WP.stl 4 ?_
    refine WP.guard 32 (b := (x3 == 0)) (by kernel_rfl) (fun h8 => ?_) (fun h8 => ?_)
    ·replace hs := of_if_t hs h8
     refine WP.stl 1 ?_
     refine WP.mkSl (kd := (Kd.int .i64)) (t := 24) (e := 3) (bytes := 8) (t + 10) [.int .i64 4, .int .i64 0, .int .i64 3] [4, 0, 3] (by kernel_rfl) (by kernel_rfl) (Nat.le_of_ble_eq_true rfl) (Nat.le_of_ble_eq_true rfl) (all_cons rfl (all_cons rfl (all_cons rfl all_nil))) (⟨_, _, rfl, (by exact rfl), ⟨_, _, rfl, (by exact rfl), ⟨_, _, rfl, (by exact rfl), rfl⟩⟩⟩) rfl ?_
     intro g19 a10 st19 hR10
     replace hR2 := hR2.mono st19 (fun x => x) (fun x => x)
     replace hR4 := hR4.mono st19 (fun x => x) (fun x => x)
     replace hR6 := hR6.mono st19 (fun x => x) (fun x => x)
     replace tot := tot.trans st19.pure
     replace hs := Option.bind_eq_some_iff.1 hs
     obtain ⟨q5, hk7, hs⟩ := hs
     have hS4 : 0 ∉ ([(t + 2), (t + 10)] : List Nat) := by simp <;> omega
     have stl4 := GW.lend_step g19 [(t + 2), (t + 10)]
     have hRl7 := hR2.lendTo hS4 (by simp)
     have hRl8 := hR10.lendTo hS4 (by simp)
     refine WP.regw (g' := GW.lend g19 [(t + 2), (t + 10)]) rfl ?_
     have hcal7 := P.baizeref34_Ints (GW.lend g19 [(t + 2), (t + 10)]) l1 ([4, 0, 3]) a2 n1 c1 a10 3 3 hRl7 hRl8 q5 hk7
     refine WP.callC hcal7 (by kernel_rfl) ?_
     rintro _ g20 st20 rfl
     have st21 := (GW.back_step st20).lentS
     have hO7 := hR2.backTo hS4 (by simp) st20 (fun x => x)
     have hO8 := hR10.backTo hS4 (by simp) st20 (fun x => x)
     refine WP.regw (g' := GW.back g19 g20 [(t + 2), (t + 10)]) rfl ?_
     generalize GW.back g19 g20 [(t + 2), (t + 10)] = g21 at *
     replace hR4 := hR4.mono st21 (WL.no2 (by omega) (by omega)) (WL.no2 (by omega) (by omega))
     replace hR6 := hR6.mono st21 (WL.no2 (by omega) (by omega)) (WL.no2 (by omega) (by omega))
     replace tot := tot.trans (st21.up2 (.inr (by omega)) (.inr (by omega)))
     clear hR2
     have hR2 : OwnS (Kd.int .i64) g21 (t + 2) 3 a2 n1 c1 l1 := hO7
     clear hO7
     clear hR10
     have hR10 : OwnS (Kd.int .i64) g21 (t + 10) 3 a10 3 3 ([4, 0, 3]) := hO8
     clear hO8
     refine WP.stl 2 ?_
     refine WP.guard 37 (b := q5) (by kernel_rfl) (fun h9 => ?_) (fun h9 => ?_)
     ·replace hs := of_if_t hs h9
      refine WP.stl 1 ?_
      refine WP.mkSl (kd := (Kd.int .i64)) (t := 24) (e := 3) (bytes := 8) (t + 11) [.int .i64 0, .int .i64 0, .int .i64 7] [0, 0, 7] (by kernel_rfl) (by kernel_rfl) (Nat.le_of_ble_eq_true rfl) (Nat.le_of_ble_eq_true rfl) (all_cons rfl (all_cons rfl (all_cons rfl all_nil))) (⟨_, _, rfl, (by exact rfl), ⟨_, _, rfl, (by exact rfl), ⟨_, _, rfl, (by exact rfl), rfl⟩⟩⟩) rfl ?_
      intro g22 a11 st22 hR11
      replace hR2 := hR2.mono st22 (fun x => x) (fun x => x)
      replace hR4 := hR4.mono st22 (fun x => x) (fun x => x)
      replace hR6 := hR6.mono st22 (fun x => x) (fun x => x)
      replace hR10 := hR10.mono st22 (fun x => x) (fun x => x)
      replace tot := tot.trans st22.pure
      replace hs := Option.bind_eq_some_iff.1 hs
      obtain ⟨q6, hk8, hs⟩ := hs
      have hS5 : 0 ∉ ([(t + 4), (t + 11)] : List Nat) := by simp <;> omega
      have stl5 := GW.lend_step g22 [(t + 4), (t + 11)]
      have hRl9 := hR4.lendTo hS5 (by simp)
      have hRl10 := hR11.lendTo hS5 (by simp)
      refine WP.regw (g' := GW.lend g22 [(t + 4), (t + 11)]) rfl ?_
      have hcal8 := P.baizeref34_Ints (GW.lend g22 [(t + 4), (t + 11)]) l2 ([0, 0, 7]) a4 n2 c2 a11 3 3 hRl9 hRl10 q6 hk8
      refine WP.callC hcal8 (by kernel_rfl) ?_
      rintro _ g23 st23 rfl
      have st24 := (GW.back_step st23).lentS
      have hO9 := hR4.backTo hS5 (by simp) st23 (fun x => x)
      have hO10 := hR11.backTo hS5 (by simp) st23 (fun x => x)
      refine WP.regw (g' := GW.back g22 g23 [(t + 4), (t + 11)]) rfl ?_
      generalize GW.back g22 g23 [(t + 4), (t + 11)] = g24 at *
      replace hR2 := hR2.mono st24 (WL.no2 (by omega) (by omega)) (WL.no2 (by omega) (by omega))
      replace hR6 := hR6.mono st24 (WL.no2 (by omega) (by omega)) (WL.no2 (by omega) (by omega))
      replace hR10 := hR10.mono st24 (WL.no2 (by omega) (by omega)) (WL.no2 (by omega) (by omega))
      replace tot := tot.trans (st24.up2 (.inr (by omega)) (.inr (by omega)))
      clear hR4
      have hR4 : OwnS (Kd.int .i64) g24 (t + 4) 3 a4 n2 c2 l2 := hO9
      clear hO9
      clear hR11
      have hR11 : OwnS (Kd.int .i64) g24 (t + 11) 3 a11 3 3 ([0, 0, 7]) := hO10
      clear hO10
      refine WP.stl 2 ?_
      refine WP.guard 42 (b := q6) (by kernel_rfl) (fun h10 => ?_) (fun h10 => ?_)
      ·replace hs := of_if_t hs h10
       refine WP.stl 1 ?_
       refine WP.mkSl (kd := (Kd.int .i64)) (t := 24) (e := 3) (bytes := 8) (t + 12) [.int .i64 0, .int .i64 7, .int .i64 0] [0, 7, 0] (by kernel_rfl) (by kernel_rfl) (Nat.le_of_ble_eq_true rfl) (Nat.le_of_ble_eq_true rfl) (all_cons rfl (all_cons rfl (all_cons rfl all_nil))) (⟨_, _, rfl, (by exact rfl), ⟨_, _, rfl, (by exact rfl), ⟨_, _, rfl, (by exact rfl), rfl⟩⟩⟩) rfl ?_
       intro g25 a12 st25 hR12
       replace hR2 := hR2.mono st25 (fun x => x) (fun x => x)
       replace hR4 := hR4.mono st25 (fun x => x) (fun x => x)
       replace hR6 := hR6.mono st25 (fun x => x) (fun x => x)
       replace hR10 := hR10.mono st25 (fun x => x) (fun x => x)
       replace hR11 := hR11.mono st25 (fun x => x) (fun x => x)
       replace tot := tot.trans st25.pure
       replace hs := Option.bind_eq_some_iff.1 hs
       obtain ⟨q7, hk9, hs⟩ := hs
       have hS6 : 0 ∉ ([(t + 6), (t + 12)] : List Nat) := by simp <;> omega
       have stl6 := GW.lend_step g25 [(t + 6), (t + 12)]
       have hRl11 := hR6.lendTo hS6 (by simp)
       have hRl12 := hR12.lendTo hS6 (by simp)
       refine WP.regw (g' := GW.lend g25 [(t + 6), (t + 12)]) rfl ?_
       have hcal9 := P.baizeref34_Ints (GW.lend g25 [(t + 6), (t + 12)]) l3 ([0, 7, 0]) a6 n3 c3 a12 3 3 hRl11 hRl12 q7 hk9
       refine WP.callC hcal9 (by kernel_rfl) ?_
       rintro _ g26 st26 rfl
       have st27 := (GW.back_step st26).lentS
       have hO11 := hR6.backTo hS6 (by simp) st26 (fun x => x)
       have hO12 := hR12.backTo hS6 (by simp) st26 (fun x => x)
       refine WP.regw (g' := GW.back g25 g26 [(t + 6), (t + 12)]) rfl ?_
       generalize GW.back g25 g26 [(t + 6), (t + 12)] = g27 at *
       replace hR2 := hR2.mono st27 (WL.no2 (by omega) (by omega)) (WL.no2 (by omega) (by omega))
       replace hR4 := hR4.mono st27 (WL.no2 (by omega) (by omega)) (WL.no2 (by omega) (by omega))
       replace hR10 := hR10.mono st27 (WL.no2 (by omega) (by omega)) (WL.no2 (by omega) (by omega))
       replace hR11 := hR11.mono st27 (WL.no2 (by omega) (by omega)) (WL.no2 (by omega) (by omega))
       replace tot := tot.trans (st27.up2 (.inr (by omega)) (.inr (by omega)))
       clear hR6
       have hR6 : OwnS (Kd.int .i64) g27 (t + 6) 3 a6 n3 c3 l3 := hO11
       clear hO11
       clear hR12
       have hR12 : OwnS (Kd.int .i64) g27 (t + 12) 3 a12 3 3 ([0, 7, 0]) := hO12
       clear hO12
       refine WP.stl 2 ?_
       refine WP.dn ?_
       refine NX.post ?_
       exact ⟨q7, ⟨by kernel_rfl, by kernel_rfl⟩, tot, hs⟩
      replace hs := of_if_f hs h10
      refine WP.stl 5 ?_
      refine WP.dn ?_
      refine NX.post ?_
      exact ⟨false, ⟨by kernel_rfl, by kernel_rfl⟩, tot, hs⟩
     replace hs := of_if_f hs h9
     refine WP.stl 10 ?_
     refine WP.dn ?_
     refine NX.post ?_
     exact ⟨false, ⟨by kernel_rfl, by kernel_rfl⟩, tot, hs⟩
    replace hs := of_if_f hs h8
    refine WP.stl 15 ?_
    refine WP.dn ?_
    refine NX.post ?_
    exact ⟨false, ⟨by kernel_rfl, by kernel_rfl⟩, tot, hs⟩
   replace hs := of_if_f hs h7
   refine WP.stl 19 ?_
   refine WP.dn ?_
   refine NX.post ?_
   exact ⟨false, ⟨by kernel_rfl, by kernel_rfl⟩, tot, hs⟩
  replace hs := of_if_f hs h6
  refine WP.stl 23 ?_
  refine WP.dn ?_
  refine NX.post ?_
  exact ⟨false, ⟨by kernel_rfl, by kernel_rfl⟩, tot, hs⟩
 clear tot hs hR2 hR4 hR6
 rintro tm g ⟨q4, hF, tot, hs⟩
 clear ds
 obtain ⟨ds, rfl⟩ := hF.open
 clear hF
 unfold F.baizelaw34_known.c1 at hs
 refine CP.ret ?_
 replace hs := Option.some.inj hs
 obtain rfl := hs
 exact NX.fin (v := .bool q4) (Res.still (by kernel_rfl)) tot htL rfl
def F.notary_NewBook : Option ((List (S_notary_entry × Int))) := (some ([] : (List (S_notary_entry × Int))))
theorem P.notary_NewBook (g0 : GW) (r0 : Nat) (r1 : Nat) (o1 : (List (S_notary_entry × Int))) (hs : F.notary_NewBook = some o1) :
  Calls Try.prog 21 #[] g0.w (Ret NoM g0 fun v g => ∃ (b_1 : Nat) (b_2 : Nat), v = .pointer (some ⟨b_1, 0, none⟩) ∧ Box g r0 b_1 121 [[.slice none 0 0], [.map (some b_2)]] [1, 1] ∧ MapB g r1 b_2 kv_S_notary_entry (Value.int .i64) o1) := by
 refine calls_of (args := []) Try.func21 rfl (r0 + r1 + 0) ?_
 intro t ht htL
 refine ⟨_, rfl, ?_⟩
 refine CP.refr 4 [] (by kernel_rfl) (by kernel_rfl) ?_
 intro ds
 have tot : Step (fun l => NoM l ∨ t ≤ l) g0 g0 := Step.refl _ _
 unfold F.notary_NewBook at hs
 refine CP.seqR ?_
 refine WP.stl 1 ?_
 refine WP.dn ?_
 refine NX.then_n ?_
 refine CP.seqR ?_
 refine WP.mkMap (t + 1) kv_S_notary_entry (Value.int .i64) (by kernel_rfl) ?_
 intro g1 b1 st1 hB1
 replace tot := tot.trans st1.pure
 refine WP.stl 1 ?_
 refine WP.alloc (T := 121) (t + 2) [[.slice none 0 0], [.map (some b1)]] [1, 1] (by kernel_rfl) rfl ?_
 intro g2 b2 st2 hB2
 replace hB1 := hB1.mono st2 (fun x => x)
 replace tot := tot.trans st2.pure
 refine WP.stl 1 ?_
 refine WP.dn ?_
 refine NX.then_n ?_
 refine CP.ret ?_
 obtain ⟨g3, hw1, st3, hnew⟩ := hB2.relab r0
 refine NX.regw hw1 ?_
 replace hB1 := hB1.mono st3 (WL.no1 (by omega))
 replace tot := tot.trans (st3.up1 (.inr (by omega)))
 clear hB2
 have hB2 := hnew
 clear hnew
 obtain ⟨g4, hw2, st4, hnew⟩ := hB1.relab r1
 refine NX.regw hw2 ?_
 replace hB2 := hB2.mono st4 (WL.no1 (by omega))
 replace tot := tot.trans (st4.up1 (.inr (by omega)))
 clear hB1
 have hB1 := hnew
 clear hnew
 replace hs := Option.some.inj hs
 obtain rfl := hs
 exact NX.fin (v := .pointer (some ⟨b2, 0, none⟩)) (Res.still (by kernel_rfl)) tot htL ⟨b2, b1, rfl, hB2, hB1⟩
def N.baizelaw34_Of_0 : List (List Nat) := [[], [0], [], [2], [], [4], [0, 1, 2, 3, 4, 5], [], [7], [], [9], [], [11], [], [13], [7, 8, 9, 10, 11, 12, 13, 14], [], [], [0, 1, 2, 3, 4, 5, 6, 16, 17], [0, 1, 2, 3, 4, 5, 6, 7, 8, 9, 10, 11, 12, 13, 14, 15, 16, 17, 18]]
def F.baizelaw34_Of.c1 (x1 : Int) (l2 : List Int) (d3 : Arr Int 8) (x3 : Int) (l3 : List Int) (d4 : Arr Int 8) (x4 : Int) (d5 : Arr Int 8) (l4 : List Int) : Option (Int × (Arr Int 8) × Int × (List Int) × (Arr Int 8) × Int × (Arr Int 8) × (List Int) × (List Int)) := (some (x1, d3, x3, l3, d4, x4, d5, l4, l2))
def F.baizelaw34_Of (x1 : Int) (d1 : Arr Int 8) (x2 : Int) (d2 : Arr Int 8) (l1 : List Int) (l2 : List Int) (q1 : Bool) : Option (Int × (Arr Int 8) × Int × (List Int) × (Arr Int 8) × Int × (Arr Int 8) × (List Int) × (List Int)) := (if (x1 == 0) = true then (if q1 = true then (F.baizelaw34_Of.c1 x1 l2 d1 x2 l1 (zA 8) 1 (zA 8) ([])) else (F.baizelaw34_Of.c1 x1 l2 d1 x2 l1 (zA 8) 0 (zA 8) ([]))) else (if q1 = true then (F.baizelaw34_Of.c1 x1 l2 (zA 8) 0 ([0]) d1 x2 d2 l1) else (F.baizelaw34_Of.c1 x1 l2 (zA 8) 0 ([]) d1 x2 d2 l1)))
theorem P.baizelaw34_Of (g0 : GW) (x1 : Int) (d1 : Arr Int 8) (x2 : Int) (d2 : Arr Int 8) (l1 : List Int) (l2 : List Int) (q1 : Bool) (a1 : Option Addr) (n1 : Nat) (c1 : Nat) (a2 : Option Addr) (n2 : Nat) (c2 : Nat) (hR1 : RdS (Kd.int .u8) g0 5 a1 n1 c1 l1) (hR2 : RdS (Kd.int .u8) g0 5 a2 n2 c2 l2) (o1 : Int) (o2 : Arr Int 8) (o3 : Int) (o4 : List Int) (o5 : Arr Int 8) (o6 : Int) (o7 : Arr Int 8) (o8 : List Int) (o9 : List Int) (hs : F.baizelaw34_Of x1 d1 x2 d2 l1 l2 q1 = some (o1, o2, o3, o4, o5, o6, o7, o8, o9)) :
  Calls Try.prog 13 #[AG [[.int .i64 x1], encA .u8 d1, [.int .i64 x2], encA .u8 d2, [.slice a1 n1 c1], [.slice a2 n2 c2], [.bool q1]]] g0.w (Ret NoM g0 fun v g => ∃ (a_1 : Option Addr) (n_1 : Nat) (c_1 : Nat) (a_4 : Option Addr) (n_4 : Nat) (c_4 : Nat) (a_7 : Option Addr) (n_7 : Nat) (c_7 : Nat), v = AG [[.int .i64 o1], encA .u8 o2, [.int .i64 o3], [.slice a_1 n_1 c_1], encA .u8 o5, [.int .i64 o6], encA .u8 o7, [.slice a_4 n_4 c_4], [.slice a_7 n_7 c_7]] ∧ RdS (Kd.int .u8) g 5 a_1 n_1 c_1 o4 ∧ RdS (Kd.int .u8) g 5 a_4 n_4 c_4 o8 ∧ RdS (Kd.int .u8) g 5 a_7 n_7 c_7 o9) := by
 refine calls_of (args := [AG [[.int .i64 x1], encA .u8 d1, [.int .i64 x2], encA .u8 d2, [.slice a1 n1 c1], [.slice a2 n2 c2], [.bool q1]]]) Try.func13 rfl (0) ?_
 intro t ht htL
 refine ⟨_, rfl, ?_⟩
 refine CP.refr 44 [(0, AG [[.int .i64 x1], encA .u8 d1, [.int .i64 x2], encA .u8 d2, [.slice a1 n1 c1], [.slice a2 n2 c2], [.bool q1]])] (by kernel_rfl) (by kernel_rfl) ?_
 intro ds
 have tot : Step (fun l => NoM l ∨ t ≤ l) g0 g0 := Step.refl _ _
 unfold F.baizelaw34_Of at hs
 refine CP.seqR ?_
 refine WP.alloc (T := 35) (t + 1) [[.int .i64 x1], encA .u8 d1, [.int .i64 x2], encA .u8 d2, [.slice a1 n1 c1], [.slice a2 n2 c2], [.bool q1]] [1, 8, 1, 8, 1, 1, 1] (by kernel_rfl) (by simp [len_encA]) ?_
 intro g1 b1 st1 hB1
 replace hR1 := hR1.mono st1 (fun x => x)
 replace hR2 := hR2.mono st1 (fun x => x)
 replace tot := tot.trans st1.pure
 refine WP.alloc (T := 43) (t + 2) [[.int .i64 0], encA .u8 (zA 8), [.int .i64 0], [.slice none 0 0], encA .u8 (zA 8), [.int .i64 0], encA .u8 (zA 8), [.slice none 0 0], [.slice none 0 0]] [1, 8, 1, 1, 8, 1, 8, 1, 1] (by kernel_rfl) (by simp [len_encA]) ?_
 intro g2 b2 st2 hB2
 replace hR1 := hR1.mono st2 (fun x => x)
 replace hR2 := hR2.mono st2 (fun x => x)
 replace hB1 := hB1.mono st2 (fun x => x)
 replace tot := tot.trans st2.pure
 refine WP.dn ?_
 refine NX.then_n ?_
 refine CP.seqR ?_
 refine WP.stl 1 ?_
 refine WP.loadB (v := .int .i64 x1) hB1 (by kernel_rfl) (by kernel_rfl) ?_
 refine WP.stl 1 ?_
 refine WP.loadB (v := .slice a2 n2 c2) hB1 (by kernel_rfl) (by kernel_rfl) ?_
 refine WP.buildS (places := #[(0, 1), (1, 10), (11, 18), (29, 1)]) (t := 43) [[.int .i64 0], encA .u8 (zA 8), [.int .i64 0], [.slice none 0 0], encA .u8 (zA 8), [.int .i64 0], encA .u8 (zA 8), [.slice none 0 0], [.slice none 0 0]] [1, 8, 1, 1, 8, 1, 8, 1, 1] (by kernel_rfl) (by kernel_rfl) (by simp [len_encA]) (by kernel_rfl) ((.cons (i := 0) (off := 0) (v := .int .i64 x1) (mid := [[.int .i64 x1], encA .u8 (zA 8), [.int .i64 0], [.slice none 0 0], encA .u8 (zA 8), [.int .i64 0], encA .u8 (zA 8), [.slice none 0 0], [.slice none 0 0]]) [[.int .i64 x1]] [1] (by kernel_rfl) (by kernel_rfl) rfl (by kernel_rfl) (.cons (i := 3) (off := 29) (v := .slice a2 n2 c2) (mid := [[.int .i64 x1], encA .u8 (zA 8), [.int .i64 0], [.slice none 0 0], encA .u8 (zA 8), [.int .i64 0], encA .u8 (zA 8), [.slice none 0 0], [.slice a2 n2 c2]]) [[.slice a2 n2 c2]] [1] (by kernel_rfl) (by kernel_rfl) rfl (by kernel_rfl) .nil))) ?_
 refine WP.alloc (T := 43) (t + 3) [[.int .i64 0], encA .u8 (zA 8), [.int .i64 0], [.slice none 0 0], encA .u8 (zA 8), [.int .i64 0], encA .u8 (zA 8), [.slice none 0 0], [.slice none 0 0]] [1, 8, 1, 1, 8, 1, 8, 1, 1] (by kernel_rfl) (by simp [len_encA]) ?_
 intro g3 b3 st3 hB3
 replace hB1 := hB1.mono st3 (fun x => x)
 replace hR1 := hR1.mono st3 (fun x => x)
 replace hR2 := hR2.mono st3 (fun x => x)
 replace hB2 := hB2.mono st3 (fun x => x)
 replace tot := tot.trans st3.pure
 refine WP.storeB (ty := 43) (off := 0) (v := AG [[.int .i64 x1], encA .u8 (zA 8), [.int .i64 0], [.slice none 0 0], encA .u8 (zA 8), [.int .i64 0], encA .u8 (zA 8), [.slice none 0 0], [.slice a2 n2 c2]]) hB3 [[.int .i64 x1], encA .u8 (zA 8), [.int .i64 0], [.slice none 0 0], encA .u8 (zA 8), [.int .i64 0], encA .u8 (zA 8), [.slice none 0 0], [.slice a2 n2 c2]] [1, 8, 1, 1, 8, 1, 8, 1, 1] (by kernel_rfl) (by kernel_rfl) (by simp [len_encA]) (by kernel_rfl) [[.int .i64 x1], encA .u8 (zA 8), [.int .i64 0], [.slice none 0 0], encA .u8 (zA 8), [.int .i64 0], encA .u8 (zA 8), [.slice none 0 0], [.slice a2 n2 c2]] (by kernel_rfl) (.one rfl (.arr (.one rfl (.one rfl (.arr (.one rfl (.arr (.one rfl (.one rfl .nil))))))))) ?_
 intro g4 st4 hB4
 replace hB1 := hB1.mono st4 (WL.no1 (by omega))
 replace hR1 := hR1.mono st4 (WL.no1 (by omega))
 replace hR2 := hR2.mono st4 (WL.no1 (by omega))
 replace hB2 := hB2.mono st4 (WL.no1 (by omega))
 replace tot := tot.trans (st4.up1 (.inr (by omega)))
 clear hB3
 have hB3 := hB4
 clear hB4
 refine WP.dn ?_
 refine NX.then_n ?_
 refine CP.seq ?_
 refine CP.drawL (by kernel_rfl) [1, 3, 5, 6, 8, 10, 12, 14, 15, 16, 17, 18, 19] N.baizelaw34_Of_0 [⟨none, [], [], fun l g => Box g (t + 1) b1 35 [[.int .i64 x1], encA .u8 d1, [.int .i64 x2], encA .u8 d2, [.slice a1 n1 c1], [.slice a2 n2 c2], [.bool q1]] [1, 8, 1, 8, 1, 1, 1]⟩, ⟨none, [], [], fun l g => RdS (Kd.int .u8) g 5 a1 n1 c1 l1⟩, ⟨some 0, [], [0], fun l g => l.getD 0 undef = AG [encA .u8 d1]⟩, ⟨some 1, [], [1], fun l g => l.getD 0 undef = .int .i64 x2⟩, ⟨some 2, [], [2], fun l g => l.getD 0 undef = .slice a1 n1 c1⟩, ⟨some 3, [], [3], fun l g => l.getD 0 undef = AG [encA .u8 d1, [.int .i64 x2], [.slice a1 n1 c1]]⟩, ⟨some 4, [], [4], fun l g => l.getD 0 undef = AG [encA .u8 d1]⟩, ⟨some 5, [], [5], fun l g => l.getD 0 undef = .int .i64 x2⟩, ⟨some 6, [], [6], fun l g => l.getD 0 undef = AG [encA .u8 d2]⟩, ⟨some 7, [], [7], fun l g => l.getD 0 undef = .slice a1 n1 c1⟩, ⟨some 8, [], [8], fun l g => l.getD 0 undef = AG [encA .u8 d1, [.int .i64 x2], encA .u8 d2, [.slice a1 n1 c1]]⟩, ⟨some 9, [0], [9], fun l g => ∃ (b4 : Nat), l.getD 0 undef = .pointer (some ⟨b4, 0, none⟩) ∧ Box g (t + 4) b4 39 [encA .u8 (zA 8), [.int .i64 0], [.slice none 0 0]] [8, 1, 1]⟩, ⟨some 10, [1], [10], fun l g => ∃ (b5 : Nat), l.getD 0 undef = .pointer (some ⟨b5, 0, none⟩) ∧ Box g (t + 5) b5 41 [encA .u8 (zA 8), [.int .i64 0], encA .u8 (zA 8), [.slice none 0 0]] [8, 1, 8, 1]⟩, ⟨some 11, [0], [9], fun l g => ∃ (b4 : Nat), l.getD 0 undef = .pointer (some ⟨b4, 0, none⟩) ∧ Box g (t + 4) b4 39 [encA .u8 d1, [.int .i64 x2], [.slice a1 n1 c1]] [8, 1, 1]⟩, ⟨some 12, [1], [10], fun l g => ∃ (b5 : Nat), l.getD 0 undef = .pointer (some ⟨b5, 0, none⟩) ∧ Box g (t + 5) b5 41 [encA .u8 d1, [.int .i64 x2], encA .u8 d2, [.slice a1 n1 c1]] [8, 1, 8, 1]⟩] [[], [], [], [], [], [], [], [], [], [], [], [0], [1]] [(t + 4), (t + 5)] [0, 2, 4, 7, 9, 11, 13] [] (by kernel_rfl) (by simp <;> omega) (by simp <;> omega) ⟨fun _ _ _ _ st h0 hl hj hB1 => (hB1.mono st (fun h => absurd (hl _ h) (by simp <;> omega))), fun _ _ _ _ st h0 hl hj hR1 => (RdS.mono (e := 5) hR1 st h0), fun _ _ _ _ st h0 hl hj e0 => e0, fun _ _ _ _ st h0 hl hj e1 => e1, fun _ _ _ _ st h0 hl hj e2 => e2, fun _ _ _ _ st h0 hl hj e3 => e3, fun _ _ _ _ st h0 hl hj e4 => e4, fun _ _ _ _ st h0 hl hj e5 => e5, fun _ _ _ _ st h0 hl hj e6 => e6, fun _ _ _ _ st h0 hl hj e7 => e7, fun _ _ _ _ st h0 hl hj e8 => e8, fun _ _ _ _ st h0 hl hj ⟨b4, e9, hB5⟩ => ⟨b4, e9, (hB5.mono st (hj 0 (by simp) _ rfl))⟩, fun _ _ _ _ st h0 hl hj ⟨b5, e10, hB6⟩ => ⟨b5, e10, (hB6.mono st (hj 1 (by simp) _ rfl))⟩, fun _ _ _ _ st h0 hl hj ⟨b4, e9, hB5⟩ => ⟨b4, e9, (hB5.mono st (hj 0 (by simp) _ rfl))⟩, fun _ _ _ _ st h0 hl hj ⟨b5, e10, hB6⟩ => ⟨b5, e10, (hB6.mono st (hj 1 (by simp) _ rfl))⟩, tv⟩ ⟨hB1, hR1, tv, tv, tv, tv, tv, tv, tv, tv, tv, tv, tv, tv, tv, tv⟩ (by kernel_rfl) (fun vs => by kernel_rfl) ?_ ?_ ?_
 ·intro j hj; exact absurd hj (by simp)
 ·intro j hj
  have hq : j = 0 ∨ j = 1 ∨ j = 2 ∨ j = 3 ∨ j = 4 ∨ j = 5 ∨ j = 6 ∨ j = 7 ∨ j = 8 ∨ j = 9 ∨ j = 10 ∨ j = 11 ∨ j = 12 := by have h : j < 13 := hj; omega
  rcases hq with rfl | rfl | rfl | rfl | rfl | rfl | rfl | rfl | rfl | rfl | rfl | rfl | rfl
  ·intro vs gq stq hl hf
   obtain ⟨v0, v1, v2, v3, v4, v5, v6, v7, v8, v9, v10, v11, v12, rfl⟩ := len_k13 hl
   have hB1 := (show Box gq (t + 1) b1 35 [[.int .i64 x1], encA .u8 d1, [.int .i64 x2], encA .u8 d2, [.slice a1 n1 c1], [.slice a2 n2 c2], [.bool q1]] [1, 8, 1, 8, 1, 1, 1] from hf _ (memI 0 rfl) (by kernel_rfl))
   refine WP.loadB (v := AG [encA .u8 d1]) hB1 (by kernel_rfl) (by kernel_rfl) ?_
   refine WP.dn (Shown.ok (v := AG [encA .u8 d1]) (by kernel_rfl) (Step.refl _ _) ?_)
   exact ⟨tv, tv, rfl, tv, tv, tv, tv, tv, tv, tv, tv, tv, tv, tv, tv, tv⟩
  ·intro vs gq stq hl hf
   obtain ⟨v0, v1, v2, v3, v4, v5, v6, v7, v8, v9, v10, v11, v12, rfl⟩ := len_k13 hl
   have hB1 := (show Box gq (t + 1) b1 35 [[.int .i64 x1], encA .u8 d1, [.int .i64 x2], encA .u8 d2, [.slice a1 n1 c1], [.slice a2 n2 c2], [.bool q1]] [1, 8, 1, 8, 1, 1, 1] from hf _ (memI 0 rfl) (by kernel_rfl))
   refine WP.loadB (v := .int .i64 x2) hB1 (by kernel_rfl) (by kernel_rfl) ?_
   refine WP.dn (Shown.ok (v := .int .i64 x2) (by kernel_rfl) (Step.refl _ _) ?_)
   exact ⟨tv, tv, tv, rfl, tv, tv, tv, tv, tv, tv, tv, tv, tv, tv, tv, tv⟩
  ·intro vs gq stq hl hf
   obtain ⟨v0, v1, v2, v3, v4, v5, v6, v7, v8, v9, v10, v11, v12, rfl⟩ := len_k13 hl
   have hB1 := (show Box gq (t + 1) b1 35 [[.int .i64 x1], encA .u8 d1, [.int .i64 x2], encA .u8 d2, [.slice a1 n1 c1], [.slice a2 n2 c2], [.bool q1]] [1, 8, 1, 8, 1, 1, 1] from hf _ (memI 0 rfl) (by kernel_rfl))
   refine WP.loadB (v := .slice a1 n1 c1) hB1 (by kernel_rfl) (by kernel_rfl) ?_
   refine WP.dn (Shown.ok (v := .slice a1 n1 c1) (by kernel_rfl) (Step.refl _ _) ?_)
   exact ⟨tv, tv, tv, tv, rfl, tv, tv, tv, tv, tv, tv, tv, tv, tv, tv, tv⟩
  ·intro vs gq stq hl hf
   obtain ⟨v0, v1, v2, v3, v4, v5, v6, v7, v8, v9, v10, v11, v12, rfl⟩ := len_k13 hl
   have hR1 := (show RdS (Kd.int .u8) gq 5 a1 n1 c1 l1 from hf _ (memI 1 rfl) (by kernel_rfl))
   have e0 := (show v0 = AG [encA .u8 d1] from hf _ (memI 2 rfl) (by kernel_rfl))
   subst e0
   have e1 := (show v1 = .int .i64 x2 from hf _ (memI 3 rfl) (by kernel_rfl))
   subst e1
   have e2 := (show v2 = .slice a1 n1 c1 from hf _ (memI 4 rfl) (by kernel_rfl))
   subst e2
   refine WP.buildS (places := #[(0, 8), (8, 1), (9, 1)]) (t := 39) [encA .u8 (zA 8), [.int .i64 0], [.slice none 0 0]] [8, 1, 1] (by kernel_rfl) (by kernel_rfl) (by simp [len_encA]) (by kernel_rfl) ((.cons (i := 0) (off := 0) (v := AG [encA .u8 d1]) (mid := [encA .u8 d1, [.int .i64 0], [.slice none 0 0]]) [encA .u8 d1] [8] (by kernel_rfl) (by kernel_rfl) (by simp [len_encA]) (by kernel_rfl) (.cons (i := 1) (off := 8) (v := .int .i64 x2) (mid := [encA .u8 d1, [.int .i64 x2], [.slice none 0 0]]) [[.int .i64 x2]] [1] (by kernel_rfl) (by kernel_rfl) rfl (by kernel_rfl) (.cons (i := 2) (off := 9) (v := .slice a1 n1 c1) (mid := [encA .u8 d1, [.int .i64 x2], [.slice a1 n1 c1]]) [[.slice a1 n1 c1]] [1] (by kernel_rfl) (by kernel_rfl) rfl (by kernel_rfl) .nil)))) ?_
   refine WP.dn (Shown.ok (v := AG [encA .u8 d1, [.int .i64 x2], [.slice a1 n1 c1]]) (by kernel_rfl) (Step.refl _ _) ?_)
   exact ⟨tv, tv, tv, tv, tv, rfl, tv, tv, tv, tv, tv, tv, tv, tv, tv, tv⟩
  ·intro vs gq stq hl hf
   obtain ⟨v0, v1, v2, v3, v4, v5, v6, v7, v8, v9, v10, v11, v12, rfl⟩ := len_k13 hl
   have hB1 := (show Box gq (t + 1) b1 35 [[.int .i64 x1], encA .u8 d1, [.int .i64 x2], encA .u8 d2, [.slice a1 n1 c1], [.slice a2 n2 c2], [.bool q1]] [1, 8, 1, 8, 1, 1, 1] from hf _ (memI 0 rfl) (by kernel_rfl))
   refine WP.loadB (v := AG [encA .u8 d1]) hB1 (by kernel_rfl) (by kernel_rfl) ?_
   refine WP.dn (Shown.ok (v := AG [encA .u8 d1]) (by kernel_rfl) (Step.refl _ _) ?_)
   exact ⟨tv, tv, tv, tv, tv, tv, rfl, tv, tv, tv, tv, tv, tv, tv, tv, tv⟩
  ·intro vs gq stq hl hf
   obtain ⟨v0, v1, v2, v3, v4, v5, v6, v7, v8, v9, v10, v11, v12, rfl⟩ := len_k13 hl
   have hB1 := (show Box gq (t + 1) b1 35 [[.int .i64 x1], encA .u8 d1, [.int .i64 x2], encA .u8 d2, [.slice a1 n1 c1], [.slice a2 n2 c2], [.bool q1]] [1, 8, 1, 8, 1, 1, 1] from hf _ (memI 0 rfl) (by kernel_rfl))
   refine WP.loadB (v := .int .i64 x2) hB1 (by kernel_rfl) (by kernel_rfl) ?_
   refine WP.dn (Shown.ok (v := .int .i64 x2) (by kernel_rfl) (Step.refl _ _) ?_)
   exact ⟨tv, tv, tv, tv, tv, tv, tv, rfl, tv, tv, tv, tv, tv, tv, tv, tv⟩
  ·intro vs gq stq hl hf
   obtain ⟨v0, v1, v2, v3, v4, v5, v6, v7, v8, v9, v10, v11, v12, rfl⟩ := len_k13 hl
   have hB1 := (show Box gq (t + 1) b1 35 [[.int .i64 x1], encA .u8 d1, [.int .i64 x2], encA .u8 d2, [.slice a1 n1 c1], [.slice a2 n2 c2], [.bool q1]] [1, 8, 1, 8, 1, 1, 1] from hf _ (memI 0 rfl) (by kernel_rfl))
   refine WP.loadB (v := AG [encA .u8 d2]) hB1 (by kernel_rfl) (by kernel_rfl) ?_
   refine WP.dn (Shown.ok (v := AG [encA .u8 d2]) (by kernel_rfl) (Step.refl _ _) ?_)
   exact ⟨tv, tv, tv, tv, tv, tv, tv, tv, rfl, tv, tv, tv, tv, tv, tv, tv⟩
  ·intro vs gq stq hl hf
   obtain ⟨v0, v1, v2, v3, v4, v5, v6, v7, v8, v9, v10, v11, v12, rfl⟩ := len_k13 hl
   have hB1 := (show Box gq (t + 1) b1 35 [[.int .i64 x1], encA .u8 d1, [.int .i64 x2], encA .u8 d2, [.slice a1 n1 c1], [.slice a2 n2 c2], [.bool q1]] [1, 8, 1, 8, 1, 1, 1] from hf _ (memI 0 rfl) (by kernel_rfl))
   refine WP.loadB (v := .slice a1 n1 c1) hB1 (by kernel_rfl) (by kernel_rfl) ?_
   refine WP.dn (Shown.ok (v := .slice a1 n1 c1) (by kernel_rfl) (Step.refl _ _) ?_)
   exact ⟨tv, tv, tv, tv, tv, tv, tv, tv, tv, rfl, tv, tv, tv, tv, tv, tv⟩
  ·intro vs gq stq hl hf
   obtain ⟨v0, v1, v2, v3, v4, v5, v6, v7, v8, v9, v10, v11, v12, rfl⟩ := len_k13 hl
   have hR1 := (show RdS (Kd.int .u8) gq 5 a1 n1 c1 l1 from hf _ (memI 1 rfl) (by kernel_rfl))
   have e4 := (show v4 = AG [encA .u8 d1] from hf _ (memI 6 rfl) (by kernel_rfl))
   subst e4
   have e5 := (show v5 = .int .i64 x2 from hf _ (memI 7 rfl) (by kernel_rfl))
   subst e5
   have e6 := (show v6 = AG [encA .u8 d2] from hf _ (memI 8 rfl) (by kernel_rfl))
   subst e6
   have e7 := (show v7 = .slice a1 n1 c1 from hf _ (memI 9 rfl) (by kernel_rfl))
   subst e7
   refine WP.buildS (places := #[(0, 8), (8, 1), (9, 8), (17, 1)]) (t := 41) [encA .u8 (zA 8), [.int .i64 0], encA .u8 (zA 8), [.slice none 0 0]] [8, 1, 8, 1] (by kernel_rfl) (by kernel_rfl) (by simp [len_encA]) (by kernel_rfl) ((.cons (i := 0) (off := 0) (v := AG [encA .u8 d1]) (mid := [encA .u8 d1, [.int .i64 0], encA .u8 (zA 8), [.slice none 0 0]]) [encA .u8 d1] [8] (by kernel_rfl) (by kernel_rfl) (by simp [len_encA]) (by kernel_rfl) (.cons (i := 1) (off := 8) (v := .int .i64 x2) (mid := [encA .u8 d1, [.int .i64 x2], encA .u8 (zA 8), [.slice none 0 0]]) [[.int .i64 x2]] [1] (by kernel_rfl) (by kernel_rfl) rfl (by kernel_rfl) (.cons (i := 2) (off := 9) (v := AG [encA .u8 d2]) (mid := [encA .u8 d1, [.int .i64 x2], encA .u8 d2, [.slice none 0 0]]) [encA .u8 d2] [8] (by kernel_rfl) (by kernel_rfl) (by simp [len_encA]) (by kernel_rfl) (.cons (i := 3) (off := 17) (v := .slice a1 n1 c1) (mid := [encA .u8 d1, [.int .i64 x2], encA .u8 d2, [.slice a1 n1 c1]]) [[.slice a1 n1 c1]] [1] (by kernel_rfl) (by kernel_rfl) rfl (by kernel_rfl) .nil))))) ?_
   refine WP.dn (Shown.ok (v := AG [encA .u8 d1, [.int .i64 x2], encA .u8 d2, [.slice a1 n1 c1]]) (by kernel_rfl) (Step.refl _ _) ?_)
   exact ⟨tv, tv, tv, tv, tv, tv, tv, tv, tv, tv, rfl, tv, tv, tv, tv, tv⟩
  ·intro vs gq stq hl hf
   obtain ⟨v0, v1, v2, v3, v4, v5, v6, v7, v8, v9, v10, v11, v12, rfl⟩ := len_k13 hl
   refine WP.alloc (T := 39) (t + 4) [encA .u8 (zA 8), [.int .i64 0], [.slice none 0 0]] [8, 1, 1] (by kernel_rfl) (by simp [len_encA]) ?_
   intro g5 b4 st5 hB5
   refine WP.dn (Shown.o (v := .pointer (some ⟨b4, 0, none⟩)) st5.pure ?_)
   exact ⟨tv, tv, tv, tv, tv, tv, tv, tv, tv, tv, tv, ⟨b4, rfl, hB5⟩, tv, tv, tv, tv⟩
  ·intro vs gq stq hl hf
   obtain ⟨v0, v1, v2, v3, v4, v5, v6, v7, v8, v9, v10, v11, v12, rfl⟩ := len_k13 hl
   refine WP.alloc (T := 41) (t + 5) [encA .u8 (zA 8), [.int .i64 0], encA .u8 (zA 8), [.slice none 0 0]] [8, 1, 8, 1] (by kernel_rfl) (by simp [len_encA]) ?_
   intro g6 b5 st6 hB6
   refine WP.dn (Shown.o (v := .pointer (some ⟨b5, 0, none⟩)) st6.pure ?_)
   exact ⟨tv, tv, tv, tv, tv, tv, tv, tv, tv, tv, tv, tv, ⟨b5, rfl, hB6⟩, tv, tv, tv⟩
  ·intro vs gq stq hl hf
   obtain ⟨v0, v1, v2, v3, v4, v5, v6, v7, v8, v9, v10, v11, v12, rfl⟩ := len_k13 hl
   have e3 := (show v3 = AG [encA .u8 d1, [.int .i64 x2], [.slice a1 n1 c1]] from hf _ (memI 5 rfl) (by kernel_rfl))
   subst e3
   obtain ⟨b4, e9, hB5⟩ := (show ∃ (b4 : Nat), v9 = .pointer (some ⟨b4, 0, none⟩) ∧ Box gq (t + 4) b4 39 [encA .u8 (zA 8), [.int .i64 0], [.slice none 0 0]] [8, 1, 1] from hf _ (memI 11 rfl) (by kernel_rfl))
   subst e9
   refine WP.storeB (ty := 39) (off := 0) (v := AG [encA .u8 d1, [.int .i64 x2], [.slice a1 n1 c1]]) hB5 [encA .u8 d1, [.int .i64 x2], [.slice a1 n1 c1]] [8, 1, 1] (by kernel_rfl) (by kernel_rfl) (by simp [len_encA]) (by kernel_rfl) [encA .u8 d1, [.int .i64 x2], [.slice a1 n1 c1]] (by kernel_rfl) (.arr (.one rfl (.one rfl .nil))) ?_
   intro g7 st7 hB7
   refine WP.dn (Shown.o (v := undef) st7 ?_)
   exact ⟨tv, tv, tv, tv, tv, tv, tv, tv, tv, tv, tv, tv, tv, ⟨b4, rfl, hB7⟩, tv, tv⟩
  ·intro vs gq stq hl hf
   obtain ⟨v0, v1, v2, v3, v4, v5, v6, v7, v8, v9, v10, v11, v12, rfl⟩ := len_k13 hl
   have e8 := (show v8 = AG [encA .u8 d1, [.int .i64 x2], encA .u8 d2, [.slice a1 n1 c1]] from hf _ (memI 10 rfl) (by kernel_rfl))
   subst e8
   obtain ⟨b5, e10, hB6⟩ := (show ∃ (b5 : Nat), v10 = .pointer (some ⟨b5, 0, none⟩) ∧ Box gq (t + 5) b5 41 [encA .u8 (zA 8), [.int .i64 0], encA .u8 (zA 8), [.slice none 0 0]] [8, 1, 8, 1] from hf _ (memI 12 rfl) (by kernel_rfl))
   subst e10
   refine WP.storeB (ty := 41) (off := 0) (v := AG [encA .u8 d1, [.int .i64 x2], encA .u8 d2, [.slice a1 n1 c1]]) hB6 [encA .u8 d1, [.int .i64 x2], encA .u8 d2, [.slice a1 n1 c1]] [8, 1, 8, 1] (by kernel_rfl) (by kernel_rfl) (by simp [len_encA]) (by kernel_rfl) [encA .u8 d1, [.int .i64 x2], encA .u8 d2, [.slice a1 n1 c1]] (by kernel_rfl) (.arr (.one rfl (.arr (.one rfl .nil)))) ?_
   intro g8 st8 hB8
   refine WP.dn (Shown.o (v := undef) st8 ?_)
   exact ⟨tv, tv, tv, tv, tv, tv, tv, tv, tv, tv, tv, tv, tv, tv, ⟨b5, rfl, hB8⟩, tv⟩
 intro vs g9 st9 hl hf
 obtain ⟨v0, v1, v2, v3, v4, v5, v6, v7, v8, v9, v10, v11, v12, rfl⟩ := len_k13 hl
 obtain ⟨b4, e9, hB5⟩ := (show ∃ (b4 : Nat), v9 = .pointer (some ⟨b4, 0, none⟩) ∧ Box g9 (t + 4) b4 39 [encA .u8 d1, [.int .i64 x2], [.slice a1 n1 c1]] [8, 1, 1] from hf _ (memI 13 rfl) (by kernel_rfl))
 subst e9
 obtain ⟨b5, e10, hB6⟩ := (show ∃ (b5 : Nat), v10 = .pointer (some ⟨b5, 0, none⟩) ∧ Box g9 (t + 5) b5 41 [encA .u8 d1, [.int .i64 x2], encA .u8 d2, [.slice a1 n1 c1]] [8, 1, 8, 1] from hf _ (memI 14 rfl) (by kernel_rfl))
 subst e10
 replace hB1 := hB1.mono st9 (WL.no2 (by omega) (by omega))
 replace hR1 := hR1.mono st9 (WL.no2 (by omega) (by omega))
 replace hR2 := hR2.mono st9 (WL.no2 (by omega) (by omega))
 replace hB2 := hB2.mono st9 (WL.no2 (by omega) (by omega))
 replace hB3 := hB3.mono st9 (WL.no2 (by omega) (by omega))
 replace tot := tot.trans (st9.up2 (.inr (by omega)) (.inr (by omega)))
 refine NX.then_n ?_
 refine CP.refr 44 [(1, .pointer (some ⟨b1, 0, none⟩)), (2, .pointer (some ⟨b2, 0, none⟩)), (3, .pointer (some ⟨b3, 0, none⟩)), (4, .pointer (some ⟨b4, 0, none⟩)), (5, .pointer (some ⟨b5, 0, none⟩))] (by kernel_rfl) (by kernel_rfl) ?_
 clear ds
 intro ds
 refine CP.cut (fun tm g => ∃ (d3 : Arr Int 8) (x3 : Int) (l3 : List Int) (a4 : Option Addr) (n3 : Nat) (c3 : Nat) (d4 : Arr Int 8) (x4 : Int) (d5 : Arr Int 8) (l4 : List Int) (a5 : Option Addr) (n4 : Nat) (c4 : Nat), Fr 44 [(2, .pointer (some ⟨b2, 0, none⟩)), (3, .pointer (some ⟨b3, 0, none⟩))] tm ∧ Step (fun l => NoM l ∨ t ≤ l) g0 g ∧ Box g (t + 2) b2 43 [[.int .i64 0], encA .u8 (zA 8), [.int .i64 0], [.slice none 0 0], encA .u8 (zA 8), [.int .i64 0], encA .u8 (zA 8), [.slice none 0 0], [.slice none 0 0]] [1, 8, 1, 1, 8, 1, 8, 1, 1] ∧ Box g (t + 3) b3 43 [[.int .i64 x1], encA .u8 d3, [.int .i64 x3], [.slice a4 n3 c3], encA .u8 d4, [.int .i64 x4], encA .u8 d5, [.slice a5 n4 c4], [.slice a2 n2 c2]] [1, 8, 1, 1, 8, 1, 8, 1, 1] ∧ RdS (Kd.int .u8) g 5 a4 n3 c3 l3 ∧ RdS (Kd.int .u8) g 5 a5 n4 c4 l4 ∧ RdS (Kd.int .u8) g 5 a2 n2 c2 l2 ∧ (F.baizelaw34_Of.c1 x1 l2 d3 x3 l3 d4 x4 d5 l4) = some (o1, o2, o3, o4, o5, o6, o7, o8, o9)) ?_ ?_
 ·refine CP.seqR ?_
  refine WP.stl 1 ?_
  refine WP.loadB (v := .int .i64 x1) hB1 (by kernel_rfl) (by kernel_rfl) ?_
  refine WP.stl 1 ?_
  refine WP.dn ?_
  refine NX.then_n ?_
  refine CP.cond (b := (x1 == 0)) (by kernel_rfl) (fun h4 => ?_) (fun h4 => ?_)
  ·replace hs := of_if_t hs h4
   refine CP.seqR ?_
   refine WP.loadB (v := AG [encA .u8 d1, [.int .i64 x2], [.slice a1 n1 c1]]) hB5 (by kernel_rfl) (by kernel_rfl) ?_
   refine WP.stl 1 ?_
   refine WP.storeB (ty := 39) (off := 1) (v := AG [encA .u8 d1, [.int .i64 x2], [.slice a1 n1 c1]]) hB3 [encA .u8 d1, [.int .i64 x2], [.slice a1 n1 c1]] [8, 1, 1] (by kernel_rfl) (by kernel_rfl) (by simp [len_encA]) (by kernel_rfl) [[.int .i64 x1], encA .u8 d1, [.int .i64 x2], [.slice a1 n1 c1], encA .u8 (zA 8), [.int .i64 0], encA .u8 (zA 8), [.slice none 0 0], [.slice a2 n2 c2]] (by kernel_rfl) (.arr (.one rfl (.one rfl .nil))) ?_
   intro g16 st16 hB14
   replace hB1 := hB1.mono st16 (WL.no1 (by omega))
   replace hR1 := hR1.mono st16 (WL.no1 (by omega))
   replace hR2 := hR2.mono st16 (WL.no1 (by omega))
   replace hB2 := hB2.mono st16 (WL.no1 (by omega))
   replace hB5 := hB5.mono st16 (WL.no1 (by omega))
   replace hB6 := hB6.mono st16 (WL.no1 (by omega))
   replace tot := tot.trans (st16.up1 (.inr (by omega)))
   clear hB3
   have hB3 := hB14
   clear hB14
   refine WP.dn ?_
   refine NX.then_n ?_
   refine CP.seqR ?_
   refine WP.stl 1 ?_
   refine WP.loadB (v := .bool q1) hB1 (by kernel_rfl) (by kernel_rfl) ?_
   refine WP.dn ?_
   refine NX.then_n ?_
   refine CP.cond (b := q1) (by kernel_rfl) (fun h5 => ?_) (fun h5 => ?_)
   ·replace hs := of_if_t hs h5
    refine CP.region ?_
    refine WP.stl 2 ?_
    refine WP.storeB (ty := 3) (off := 19) (v := .int .i64 1) hB3 [[.int .i64 1]] [1] (by kernel_rfl) (by kernel_rfl) rfl (by kernel_rfl) [[.int .i64 x1], encA .u8 d1, [.int .i64 x2], [.slice a1 n1 c1], encA .u8 (zA 8), [.int .i64 1], encA .u8 (zA 8), [.slice none 0 0], [.slice a2 n2 c2]] (by kernel_rfl) (.one rfl .nil) ?_
    intro g17 st17 hB15
    replace hB2 := hB2.mono st17 (WL.no1 (by omega))
    replace hR1 := hR1.mono st17 (WL.no1 (by omega))
    replace hR2 := hR2.mono st17 (WL.no1 (by omega))
    replace tot := tot.trans (st17.up1 (.inr (by omega)))
    clear hB3
    have hB3 := hB15
    clear hB15
    refine WP.dn ?_
    refine NX.post ?_
    exact ⟨d1, x2, l1, a1, n1, c1, (zA 8), 1, (zA 8), [], none, 0, 0, ⟨by kernel_rfl, by kernel_rfl⟩, tot, hB2, hB3, hR1, (RdS.nil _ _ _), hR2, hs⟩
   replace hs := of_if_f hs h5
   refine CP.skip ?_
   refine NX.post ?_
   exact ⟨d1, x2, l1, a1, n1, c1, (zA 8), 0, (zA 8), [], none, 0, 0, ⟨by kernel_rfl, by kernel_rfl⟩, tot, hB2, hB3, hR1, (RdS.nil _ _ _), hR2, hs⟩
  replace hs := of_if_f hs h4
  refine CP.seqR ?_
  refine WP.loadB (v := AG [encA .u8 d1, [.int .i64 x2], encA .u8 d2, [.slice a1 n1 c1]]) hB6 (by kernel_rfl) (by kernel_rfl) ?_
  refine WP.stl 1 ?_
  refine WP.storeB (ty := 41) (off := 11) (v := AG [encA .u8 d1, [.int .i64 x2], encA .u8 d2, [.slice a1 n1 c1]]) hB3 [encA .u8 d1, [.int .i64 x2], encA .u8 d2, [.slice a1 n1 c1]] [8, 1, 8, 1] (by kernel_rfl) (by kernel_rfl) (by simp [len_encA]) (by kernel_rfl) [[.int .i64 x1], encA .u8 (zA 8), [.int .i64 0], [.slice none 0 0], encA .u8 d1, [.int .i64 x2], encA .u8 d2, [.slice a1 n1 c1], [.slice a2 n2 c2]] (by kernel_rfl) (.arr (.one rfl (.arr (.one rfl .nil)))) ?_
  intro g18 st18 hB16
  replace hB1 := hB1.mono st18 (WL.no1 (by omega))
  replace hR1 := hR1.mono st18 (WL.no1 (by omega))
  replace hR2 := hR2.mono st18 (WL.no1 (by omega))
  replace hB2 := hB2.mono st18 (WL.no1 (by omega))
  replace hB5 := hB5.mono st18 (WL.no1 (by omega))
  replace hB6 := hB6.mono st18 (WL.no1 (by omega))
  replace tot := tot.trans (st18.up1 (.inr (by omega)))
  clear hB3
  have hB3 := hB16
  clear hB16
  refine WP.dn ?_
  refine NX.then_n ?_
  refine CP.seqR ?_
  refine WP.stl 1 ?_
  refine WP.loadB (v := .bool q1) hB1 (by kernel_rfl) (by kernel_rfl) ?_
  refine WP.dn ?_
  refine NX.then_n ?_
  refine CP.cond (b := q1) (by kernel_rfl) (fun h6 => ?_) (fun h6 => ?_)
  ·replace hs := of_if_t hs h6
   refine CP.region ?_
   refine WP.mkSl (kd := (Kd.int .u8)) (t := 33) (e := 5) (bytes := 1) (t + 7) [.int .u8 0] [0] (by kernel_rfl) (by kernel_rfl) (Nat.le_of_ble_eq_true rfl) (Nat.le_of_ble_eq_true rfl) (all_cons rfl all_nil) (⟨_, _, rfl, (by exact rfl), rfl⟩) rfl ?_
   intro g19 a6 st19 hR6
   replace hB2 := hB2.mono st19 (fun x => x)
   replace hB3 := hB3.mono st19 (fun x => x)
   replace hR1 := hR1.mono st19 (fun x => x)
   replace hR2 := hR2.mono st19 (fun x => x)
   replace tot := tot.trans st19.pure
   refine WP.stl 2 ?_
   refine WP.storeB (ty := 33) (off := 10) (v := .slice a6 1 1) hB3 [[.slice a6 1 1]] [1] (by kernel_rfl) (by kernel_rfl) rfl (by kernel_rfl) [[.int .i64 x1], encA .u8 (zA 8), [.int .i64 0], [.slice a6 1 1], encA .u8 d1, [.int .i64 x2], encA .u8 d2, [.slice a1 n1 c1], [.slice a2 n2 c2]] (by kernel_rfl) (.one rfl .nil) ?_
   intro g20 st20 hB17
   replace hB2 := hB2.mono st20 (WL.no1 (by omega))
   replace hR6 := hR6.mono st20 (WL.no1 (by omega)) (WL.no1 (by omega))
   replace hR1 := hR1.mono st20 (WL.no1 (by omega))
   replace hR2 := hR2.mono st20 (WL.no1 (by omega))
   replace tot := tot.trans (st20.up1 (.inr (by omega)))
   clear hB3
   have hB3 := hB17
   clear hB17
   refine WP.dn ?_
   obtain ⟨g21, hw1, st21, hnew⟩ := hR6.freeze (by omega)
   refine NX.regw hw1 ?_
   replace hB2 := hB2.mono st21 (WL.no1 (by omega))
   replace hB3 := hB3.mono st21 (WL.no1 (by omega))
   replace hR1 := hR1.mono st21 (WL.no1 (by omega))
   replace hR2 := hR2.mono st21 (WL.no1 (by omega))
   replace tot := tot.trans (st21.up1 (.inr (by omega)))
   clear hR6
   have hR6 := hnew
   clear hnew
   refine NX.post ?_
   exact ⟨(zA 8), 0, [0], a6, 1, 1, d1, x2, d2, l1, a1, n1, c1, ⟨by kernel_rfl, by kernel_rfl⟩, tot, hB2, hB3, hR6, hR1, hR2, hs⟩
  replace hs := of_if_f hs h6
  refine CP.skip ?_
  refine NX.post ?_
  exact ⟨(zA 8), 0, [], none, 0, 0, d1, x2, d2, l1, a1, n1, c1, ⟨by kernel_rfl, by kernel_rfl⟩, tot, hB2, hB3, (RdS.nil _ _ _), hR1, hR2, hs⟩
 clear tot hs hB1 hR1 hR2 hB2 hB3 hB5 hB6
 rintro tm g ⟨d3, x3, l3, a4, n3, c3, d4, x4, d5, l4, a5, n4, c4, hF, tot, hB2, hB3, hR4, hR5, hR2, hs⟩
 clear ds
 obtain ⟨ds, rfl⟩ := hF.open
 clear hF
 unfold F.baizelaw34_Of.c1 at hs
 refine CP.seqR ?_
 refine WP.loadB (v := AG [[.int .i64 x1], encA .u8 d3, [.int .i64 x3], [.slice a4 n3 c3], encA .u8 d4, [.int .i64 x4], encA .u8 d5, [.slice a5 n4 c4], [.slice a2 n2 c2]]) hB3 (by kernel_rfl) (by kernel_rfl) ?_
 refine WP.storeB (ty := 43) (off := 0) (v := AG [[.int .i64 x1], encA .u8 d3, [.int .i64 x3], [.slice a4 n3 c3], encA .u8 d4, [.int .i64 x4], encA .u8 d5, [.slice a5 n4 c4], [.slice a2 n2 c2]]) hB2 [[.int .i64 x1], encA .u8 d3, [.int .i64 x3], [.slice a4 n3 c3], encA .u8 d4, [.int .i64 x4], encA .u8 d5, [.slice a5 n4 c4], [.slice a2 n2 c2]] [1, 8, 1, 1, 8, 1, 8, 1, 1] (by kernel_rfl) (by kernel_rfl) (by simp [len_encA]) (by kernel_rfl) [[.int .i64 x1], encA .u8 d3, [.int .i64 x3], [.slice a4 n3 c3], encA .u8 d4, [.int .i64 x4], encA .u8 d5, [.slice a5 n4 c4], [.slice a2 n2 c2]] (by kernel_rfl) (.one rfl (.arr (.one rfl (.one rfl (.arr (.one rfl (.arr (.one rfl (.one rfl .nil))))))))) ?_
 intro g15 st15 hB13
 replace hR4 := hR4.mono st15 (WL.no1 (by omega))
 replace hR5 := hR5.mono st15 (WL.no1 (by omega))
 replace hR2 := hR2.mono st15 (WL.no1 (by omega))
 replace hB3 := hB3.mono st15 (WL.no1 (by omega))
 replace tot := tot.trans (st15.up1 (.inr (by omega)))
 clear hB2
 have hB2 := hB13
 clear hB13
 refine WP.dn ?_
 refine NX.then_n ?_
 refine CP.ret ?_
 replace hs := Option.some.inj hs
 simp only [Prod.mk.injEq] at hs
 obtain ⟨rfl, rfl, rfl, rfl, rfl, rfl, rfl, rfl, rfl⟩ := hs
 exact NX.fin (v := AG [[.int .i64 x1], encA .u8 d3, [.int .i64 x3], [.slice a4 n3 c3], encA .u8 d4, [.int .i64 x4], encA .u8 d5, [.slice a5 n4 c4], [.slice a2 n2 c2]]) (Res.one rfl (RV.box (agg := true) (size := 30) (rs := [[.int .i64 x1], encA .u8 d3, [.int .i64 x3], [.slice a4 n3 c3], encA .u8 d4, [.int .i64 x4], encA .u8 d5, [.slice a5 n4 c4], [.slice a2 n2 c2]]) hB2 (by kernel_rfl) (by kernel_rfl) (by kernel_rfl) (by kernel_rfl))) tot htL ⟨a4, n3, c3, a5, n4, c4, a2, n2, c2, rfl, hR4, hR5, hR2⟩
def F.baizelaw34_key (x1 : Int) : Option ((Arr Int 8)) := (some (⟨[(IntKind.u8.wrap (IntKind.u64.wrap (10 + ((IntKind.u64.wrap x1).tmod 4)))), 0, 0, 0, 0, 0, 0, 0], rfl⟩ : Arr Int 8))
theorem P.baizelaw34_key (g0 : GW) (x1 : Int) (o1 : Arr Int 8) (hs : F.baizelaw34_key x1 = some o1) :
  Calls Try.prog 23 #[.int .i64 x1] g0.w (Ret NoM g0 fun v g => v = AG [encA .u8 o1]) := by
 refine calls_of (args := [.int .i64 x1]) Try.func23 rfl (0) ?_
 intro t ht htL
 refine ⟨_, rfl, ?_⟩
 refine CP.refr 9 [(0, .int .i64 x1)] (by kernel_rfl) (by kernel_rfl) ?_
 intro ds
 have tot : Step (fun l => NoM l ∨ t ≤ l) g0 g0 := Step.refl _ _
 unfold F.baizelaw34_key at hs
 refine CP.seqR ?_
 refine WP.alloc (T := 37) (t + 1) [encA .u8 (zA 8)] [8] (by kernel_rfl) (by simp [len_encA]) ?_
 intro g1 b1 st1 hB1
 replace tot := tot.trans st1.pure
 refine WP.dn ?_
 refine NX.then_n ?_
 refine CP.seqR ?_
 refine WP.stl 6 ?_
 refine WP.storeB (ty := 37) (off := 0) (v := AG [encA .u8 (⟨[(IntKind.u8.wrap (IntKind.u64.wrap (10 + ((IntKind.u64.wrap x1).tmod 4)))), 0, 0, 0, 0, 0, 0, 0], rfl⟩ : Arr Int 8)]) hB1 [encA .u8 (⟨[(IntKind.u8.wrap (IntKind.u64.wrap (10 + ((IntKind.u64.wrap x1).tmod 4)))), 0, 0, 0, 0, 0, 0, 0], rfl⟩ : Arr Int 8)] [8] (by kernel_rfl) (by kernel_rfl) (by simp [len_encA]) (by kernel_rfl) [encA .u8 (⟨[(IntKind.u8.wrap (IntKind.u64.wrap (10 + ((IntKind.u64.wrap x1).tmod 4)))), 0, 0, 0, 0, 0, 0, 0], rfl⟩ : Arr Int 8)] (by kernel_rfl) (.arr .nil) ?_
 intro g2 st2 hB2
 replace tot := tot.trans (st2.up1 (.inr (by omega)))
 clear hB1
 have hB1 := hB2
 clear hB2
 refine WP.dn ?_
 refine NX.then_n ?_
 refine CP.ret ?_
 replace hs := Option.some.inj hs
 obtain rfl := hs
 exact NX.fin (v := AG [encA .u8 (⟨[(IntKind.u8.wrap (IntKind.u64.wrap (10 + ((IntKind.u64.wrap x1).tmod 4)))), 0, 0, 0, 0, 0, 0, 0], rfl⟩ : Arr Int 8)]) (Res.one rfl (RV.box (agg := true) (size := 8) (rs := [encA .u8 (⟨[(IntKind.u8.wrap (IntKind.u64.wrap (10 + ((IntKind.u64.wrap x1).tmod 4)))), 0, 0, 0, 0, 0, 0, 0], rfl⟩ : Arr Int 8)]) hB1 (by kernel_rfl) (by kernel_rfl) (by kernel_rfl) (by kernel_rfl))) tot htL rfl
def F.notary_Book_Signer (l1 : List S_notary_entry) (w1 : (List (S_notary_entry × Int))) (d1 : Arr Int 8) : Option ((Arr Int 8)) := (some d1)
theorem P.notary_Book_Signer (g0 : GW) (m0 : Nat) (m1 : Nat) (l1 : List S_notary_entry) (w1 : (List (S_notary_entry × Int))) (d1 : Arr Int 8) (a1 : Option Addr) (n1 : Nat) (c1 : Nat) (b1 : Nat) (b2 : Nat) (hR1 : RdS k_S_notary_entry g0 126 a1 n1 c1 l1) (hB1 : MapB g0 m1 b2 kv_S_notary_entry (Value.int .i64) w1) (hB2 : Box g0 m0 b1 121 [[.slice a1 n1 c1], [.map (some b2)]] [1, 1]) (hm1_0 : m1 ≠ m0) (hm0 : m0 ≠ 0) (hm1 : m1 ≠ 0) (o1 : Arr Int 8) (hs : F.notary_Book_Signer l1 w1 d1 = some o1) :
  Calls Try.prog 22 #[.pointer (some ⟨b1, 0, none⟩), AG [encA .u8 d1]] g0.w (Ret NoM g0 fun v g => v = .iface 123 (AG [[.pointer (some ⟨b1, 0, none⟩)], encA .u8 o1])) := by
 refine calls_of (args := [.pointer (some ⟨b1, 0, none⟩), AG [encA .u8 d1]]) Try.func22 rfl (m0 + m1 + 0) ?_
 intro t ht htL
 refine ⟨_, rfl, ?_⟩
 refine CP.refr 9 [(0, .pointer (some ⟨b1, 0, none⟩)), (1, AG [encA .u8 d1])] (by kernel_rfl) (by kernel_rfl) ?_
 intro ds
 have tot : Step (fun l => NoM l ∨ t ≤ l) g0 g0 := Step.refl _ _
 unfold F.notary_Book_Signer at hs
 refine CP.seqR ?_
 refine WP.alloc (T := 37) (t + 1) [encA .u8 d1] [8] (by kernel_rfl) (by simp [len_encA]) ?_
 intro g1 b3 st1 hB3
 replace hB2 := hB2.mono st1 (fun x => x)
 replace hR1 := hR1.mono st1 (fun x => x)
 replace hB1 := hB1.mono st1 (fun x => x)
 replace tot := tot.trans st1.pure
 refine WP.stl 1 ?_
 refine WP.dn ?_
 refine NX.then_n ?_
 refine CP.seqR ?_
 refine WP.stl 1 ?_
 refine WP.loadB (v := AG [encA .u8 d1]) hB3 (by kernel_rfl) (by kernel_rfl) ?_
 refine WP.buildS (places := #[(0, 1), (1, 8)]) (t := 123) [[.pointer none], encA .u8 (zA 8)] [1, 8] (by kernel_rfl) (by kernel_rfl) (by simp [len_encA]) (by kernel_rfl) ((.cons (i := 0) (off := 0) (v := .pointer (some ⟨b1, 0, none⟩)) (mid := [[.pointer (some ⟨b1, 0, none⟩)], encA .u8 (zA 8)]) [[.pointer (some ⟨b1, 0, none⟩)]] [1] (by kernel_rfl) (by kernel_rfl) rfl (by kernel_rfl) (.cons (i := 1) (off := 1) (v := AG [encA .u8 d1]) (mid := [[.pointer (some ⟨b1, 0, none⟩)], encA .u8 d1]) [encA .u8 d1] [8] (by kernel_rfl) (by kernel_rfl) (by simp [len_encA]) (by kernel_rfl) .nil))) ?_
 refine WP.stl 2 ?_
 refine WP.dn ?_
 refine NX.then_n ?_
 refine CP.ret ?_
 replace hs := Option.some.inj hs
 obtain rfl := hs
 exact NX.fin (v := .iface 123 (AG [[.pointer (some ⟨b1, 0, none⟩)], encA .u8 d1])) (Res.still (by kernel_rfl)) tot htL rfl
def F.octet_turn (x1 : Int) : Option (Int) := (some (bitXor .u64 (shV true .u64 (IntKind.u64.wrap x1) 1) (IntKind.u64.wrap (shV false .i64 x1 63))))
theorem P.octet_turn (g0 : GW) (x1 : Int) (o1 : Int) (hs : F.octet_turn x1 = some o1) :
  Calls Try.prog 96 #[.int .i64 x1] g0.w (Ret NoM g0 fun v g => v = .int .u64 o1) := by
 refine calls_of (args := [.int .i64 x1]) Try.func96 rfl (0) ?_
 intro t ht htL
 refine ⟨_, rfl, ?_⟩
 refine CP.refr 10 [(0, .int .i64 x1)] (by kernel_rfl) (by kernel_rfl) ?_
 intro ds
 have tot : Step (fun l => NoM l ∨ t ≤ l) g0 g0 := Step.refl _ _
 unfold F.octet_turn at hs
 refine CP.seqR ?_
 refine WP.stl 1 ?_
 refine WP.dn ?_
 refine NX.then_n ?_
 refine CP.seqR ?_
 refine WP.stl 8 ?_
 refine WP.dn ?_
 refine NX.then_n ?_
 refine CP.ret ?_
 replace hs := Option.some.inj hs
 obtain rfl := hs
 exact NX.fin (v := .int .u64 (bitXor .u64 (shV true .u64 (IntKind.u64.wrap x1) 1) (IntKind.u64.wrap (shV false .i64 x1 63)))) (Res.still (by kernel_rfl)) tot htL rfl
def F.slices_Clone_byte_byte_nil : Option ((List Int)) := (some ([]))
theorem P.slices_Clone_byte_byte_nil (g0 : GW) (r0 : Nat) (o1 : List Int) (hs : F.slices_Clone_byte_byte_nil = some o1) :
  Calls Try.prog 69 #[.slice none 0 0] g0.w (Ret NoM g0 fun v g => ∃ (a_1 : Option Addr) (n_1 : Nat) (c_1 : Nat), v = .slice a_1 n_1 c_1 ∧ OwnS (Kd.int .u8) g r0 5 a_1 n_1 c_1 o1) := by
 refine calls_of (args := [.slice none 0 0]) Try.func69 rfl (r0 + 0) ?_
 intro t ht htL
 refine ⟨_, rfl, ?_⟩
 refine CP.refr 8 [(0, .slice none 0 0)] (by kernel_rfl) (by kernel_rfl) ?_
 intro ds
 have tot : Step (fun l => NoM l ∨ t ≤ l) g0 g0 := Step.refl _ _
 unfold F.slices_Clone_byte_byte_nil at hs
 refine CP.seqR ?_
 refine WP.stl 1 ?_
 refine WP.dn ?_
 refine NX.then_n ?_
 refine CP.seq ?_
 refine CP.seqR ?_
 refine WP.stl 2 ?_
 refine WP.dn ?_
 refine NX.then_n ?_
 refine CP.cond_t (by kernel_rfl) ?_
 refine CP.seqR ?_
 refine WP.stl 1 ?_
 refine WP.dn ?_
 refine NX.then_n ?_
 refine CP.ret ?_
 refine NX.then_r ?_
 replace hs := Option.some.inj hs
 obtain rfl := hs
 exact NX.fin (v := .slice none 0 0) (Res.still (by kernel_rfl)) tot htL ⟨none, 0, 0, rfl, (OwnS.nil _ _ _ _)⟩
def F.slices_Clone_byte_byte_some (l1 : List Int) : Option ((List Int)) := (if ([] : List Int).length + l1.length ≤ 140737488355328 then (some (([] : List Int) ++ l1)) else none)
theorem P.slices_Clone_byte_byte_some (g0 : GW) (r0 : Nat) (l1 : List Int) (n1 : Nat) (c1 : Nat) (p1 : Addr) (hR1 : RdS (Kd.int .u8) g0 5 (some p1) n1 c1 l1) (o1 : List Int) (hs : F.slices_Clone_byte_byte_some l1 = some o1) :
  Calls Try.prog 69 #[.slice (some p1) n1 c1] g0.w (Ret NoM g0 fun v g => ∃ (a_1 : Option Addr) (n_1 : Nat) (c_1 : Nat), v = .slice a_1 n_1 c_1 ∧ OwnS (Kd.int .u8) g r0 5 a_1 n_1 c_1 o1) := by
 refine calls_of (args := [.slice (some p1) n1 c1]) Try.func69 rfl (r0 + 0) ?_
 intro t ht htL
 refine ⟨_, rfl, ?_⟩
 refine CP.refr 8 [(0, .slice (some p1) n1 c1)] (by kernel_rfl) (by kernel_rfl) ?_
 intro ds
 have tot : Step (fun l => NoM l ∨ t ≤ l) g0 g0 := Step.refl _ _
 unfold F.slices_Clone_byte_byte_some at hs
 refine CP.seqR ?_
 refine WP.stl 1 ?_
 refine WP.dn ?_
 refine NX.then_n ?_
 refine CP.seq ?_
 refine CP.seqR ?_
 refine WP.stl 2 ?_
 refine WP.dn ?_
 refine NX.then_n ?_
 refine CP.cond_f (by kernel_rfl) ?_
 refine CP.skip ?_
 refine NX.then_n ?_
 refine CP.seqR ?_
 refine WP.mkSl (kd := (Kd.int .u8)) (t := 33) (e := 5) (bytes := 1) (t + 1) [] ([] : List Int) (by kernel_rfl) (by kernel_rfl) (Nat.le_of_ble_eq_true rfl) (Nat.le_of_ble_eq_true rfl) all_nil (rfl) rfl ?_
 intro g1 a1 st1 hR2
 replace hR1 := hR1.mono st1 (fun x => x)
 replace tot := tot.trans st1.pure
 refine WP.stl 1 ?_
 by_cases hc1 : ([] : List Int).length + l1.length ≤ 140737488355328
 case neg => rw [if_neg hc1] at hs; cases hs
 replace hs := of_if_p hs hc1
 refine WP.append (kd := (Kd.int .u8)) (t := 33) (e := 5) (bytes := 1) (a2 := (some p1)) (c2 := c1) hR2 hR1.src hR1.len (by kernel_rfl) (by kernel_rfl) (by omega) (by simp only [maxLen]; omega) (by omega) ?_
 intro g2 a2 c2 st2 hR3
 replace hR1 := hR1.mono st2 (WL.no1 (by omega))
 replace tot := tot.trans (st2.up1 (.inr (by omega)))
 refine WP.stl 1 ?_
 refine WP.dn ?_
 refine NX.then_n ?_
 refine CP.ret ?_
 obtain ⟨g3, hw1, st3, hnew⟩ := hR3.relab (by omega) r0
 refine NX.regw hw1 ?_
 replace tot := tot.trans (st3.up1 (.inr (by omega)))
 clear hR3
 have hR3 := hnew
 clear hnew
 replace hs := Option.some.inj hs
 obtain rfl := hs
 exact NX.fin (v := .slice a2 (0 + n1) c2) (Res.still (by kernel_rfl)) tot htL ⟨a2, (0 + n1), c2, rfl, hR3⟩
def F.slices_Clone_byte_byte (l1 : List Int) : Option ((List Int)) := F.slices_Clone_byte_byte_some l1
theorem P.slices_Clone_byte_byte (g0 : GW) (r0 : Nat) (l1 : List Int) (a1 : Option Addr) (n1 : Nat) (c1 : Nat) (hR1 : RdS (Kd.int .u8) g0 5 a1 n1 c1 l1) (o1 : List Int) (hs : F.slices_Clone_byte_byte l1 = some o1) :
  Calls Try.prog 69 #[.slice a1 n1 c1] g0.w (Ret NoM g0 fun v g => ∃ (a_1 : Option Addr) (n_1 : Nat) (c_1 : Nat), v = .slice a_1 n_1 c_1 ∧ OwnS (Kd.int .u8) g r0 5 a_1 n_1 c_1 o1) := by
 rcases hR1.nilOr with ⟨rfl, rfl, rfl, rfl⟩ | ⟨b, rfl⟩
 ·exact P.slices_Clone_byte_byte_nil _ _ _ hs
 ·exact P.slices_Clone_byte_byte_some _ _ _ _ _ _ hR1 _ hs
def F.octet_PutNum.l1 : Nat → Int → (List Int) → Option ((List Int))
 | 0, _, _ => none
 | k + 1, x2, l3 => (if decide (x2 ≥ 128) = true then (if l3.length + ([(bitOr .u8 (IntKind.u8.wrap x2) 128)]).length ≤ 140737488355328 then (F.octet_PutNum.l1 k (shV false .u64 x2 7) (l3 ++ [(bitOr .u8 (IntKind.u8.wrap x2) 128)])) else none) else (if l3.length + ([(IntKind.u8.wrap x2)]).length ≤ 140737488355328 then (some (l3 ++ [(IntKind.u8.wrap x2)])) else none))
def F.octet_PutNum (l1 : List Int) (x1 : Int) : Option ((List Int)) := ((F.slices_Clone_byte_byte l1).bind fun l2 => (F.octet_PutNum.l1 fuel x1 l2))
theorem P.octet_PutNum (g0 : GW) (r0 : Nat) (l1 : List Int) (x1 : Int) (a1 : Option Addr) (n1 : Nat) (c1 : Nat) (hR1 : RdS (Kd.int .u8) g0 5 a1 n1 c1 l1) (o1 : List Int) (hs : F.octet_PutNum l1 x1 = some o1) :
  Calls Try.prog 42 #[.slice a1 n1 c1, .int .u64 x1] g0.w (Ret NoM g0 fun v g => ∃ (a_1 : Option Addr) (n_1 : Nat) (c_1 : Nat), v = .slice a_1 n_1 c_1 ∧ OwnS (Kd.int .u8) g r0 5 a_1 n_1 c_1 o1) := by
 refine calls_of (args := [.slice a1 n1 c1, .int .u64 x1]) Try.func42 rfl (r0 + 0) ?_
 intro t ht htL
 refine ⟨_, rfl, ?_⟩
 refine CP.refr 23 [(0, .slice a1 n1 c1), (1, .int .u64 x1)] (by kernel_rfl) (by kernel_rfl) ?_
 intro ds
 have tot : Step (fun l => NoM l ∨ t ≤ l) g0 g0 := Step.refl _ _
 unfold F.octet_PutNum at hs
 refine CP.seqR ?_
 refine WP.stl 1 ?_
 refine WP.dn ?_
 refine NX.then_n ?_
 refine CP.seqR ?_
 refine WP.stl 1 ?_
 replace hs := Option.bind_eq_some_iff.1 hs
 obtain ⟨l2, hk1, hs⟩ := hs
 have hcal1 := P.slices_Clone_byte_byte g0 (t + 1) l1 a1 n1 c1 hR1 l2 hk1
 refine WP.callC hcal1 (by kernel_rfl) ?_
 rintro _ g1 st1 ⟨a2, n2, c2, rfl, hR2⟩
 replace hR1 := hR1.mono st1 (fun x => x)
 replace tot := tot.trans st1.pure
 refine WP.stl 1 ?_
 refine WP.dn ?_
 refine NX.then_n ?_
 refine CP.seq ?_
 refine CP.block ?_
 generalize fuel = k1 at hs
 refine CP.loop (fun k1 tm g => ∃ (x2 : Int) (l3 : List Int) (a7 : Option Addr) (n3 : Nat) (c5 : Nat), Fr 23 [(1, .int .u64 x2), (5, .slice a7 n3 c5)] tm ∧ Step (fun l => NoM l ∨ t ≤ l) g0 g ∧ OwnS (Kd.int .u8) g (t + 1) 5 a7 n3 c5 l3 ∧ F.octet_PutNum.l1 k1 x2 l3 = some o1) k1 ?_ ?_ ?_
 ·exact ⟨x1, l2, a2, n2, c2, ⟨by kernel_rfl, by kernel_rfl⟩, tot, hR2, hs⟩
 ·rintro tm g ⟨x2, l3, a7, n3, c5, hF, tot, hR7, hs⟩
  exact absurd hs (by simp [F.octet_PutNum.l1])
 clear tot hs hR2
 rintro k1 tm g ⟨x2, l3, a7, n3, c5, hF, tot, hR7, hs⟩
 clear ds
 obtain ⟨ds, rfl⟩ := hF.open
 clear hF
 unfold F.octet_PutNum.l1 at hs
 refine CP.seq ?_
 refine CP.seqR ?_
 refine WP.stl 2 ?_
 refine WP.dn ?_
 refine NX.then_n ?_
 refine CP.cond (b := decide (x2 ≥ 128)) (by kernel_rfl) (fun h3 => ?_) (fun h3 => ?_)
 ·replace hs := of_if_t hs h3
  refine CP.skip ?_
  refine NX.then_n ?_
  refine CP.block ?_
  refine CP.seqR ?_
  refine WP.stl 4 ?_
  refine WP.mkSl (kd := (Kd.int .u8)) (t := 33) (e := 5) (bytes := 1) (t + 6) [.int .u8 (bitOr .u8 (IntKind.u8.wrap x2) 128)] [(bitOr .u8 (IntKind.u8.wrap x2) 128)] (by kernel_rfl) (by kernel_rfl) (Nat.le_of_ble_eq_true rfl) (Nat.le_of_ble_eq_true rfl) (all_cons rfl all_nil) (⟨_, _, rfl, (by exact rfl), rfl⟩) rfl ?_
  intro g10 a13 st10 hR13
  replace hR7 := hR7.mono st10 (fun x => x) (fun x => x)
  replace tot := tot.trans st10.pure
  by_cases hc5 : l3.length + ([(bitOr .u8 (IntKind.u8.wrap x2) 128)]).length ≤ 140737488355328
  case neg => rw [if_neg hc5] at hs; cases hs
  replace hs := of_if_p hs hc5
  refine WP.append (kd := (Kd.int .u8)) (t := 33) (e := 5) (bytes := 1) (a2 := a13) (c2 := 1) hR7 hR13.src hR13.len (by kernel_rfl) (by kernel_rfl) (by omega) (by simp only [maxLen]; omega) (by omega) ?_
  intro g11 a14 c9 st11 hR14
  replace hR13 := hR13.mono st11 (WL.no1 (by omega)) (WL.no1 (by omega))
  replace tot := tot.trans (st11.up1 (.inr (by omega)))
  refine WP.stl 1 ?_
  refine WP.dn ?_
  refine NX.then_n ?_
  refine CP.region ?_
  refine WP.stl 3 ?_
  refine WP.dn ?_
  refine NX.block_n ?_
  refine NX.post ?_
  exact ⟨(shV false .u64 x2 7), (l3 ++ [(bitOr .u8 (IntKind.u8.wrap x2) 128)]), a14, (n3 + 1), c9, ⟨by kernel_rfl, by kernel_rfl⟩, tot, hR14, hs⟩
 replace hs := of_if_f hs h3
 refine CP.exit ?_
 refine NX.then_e ?_
 refine NX.then_e ?_
 refine NX.block_s ?_
 refine NX.then_n ?_
 refine CP.seqR ?_
 refine WP.stl 3 ?_
 refine WP.mkSl (kd := (Kd.int .u8)) (t := 33) (e := 5) (bytes := 1) (t + 7) [.int .u8 (IntKind.u8.wrap x2)] [(IntKind.u8.wrap x2)] (by kernel_rfl) (by kernel_rfl) (Nat.le_of_ble_eq_true rfl) (Nat.le_of_ble_eq_true rfl) (all_cons rfl all_nil) (⟨_, _, rfl, (by exact rfl), rfl⟩) rfl ?_
 intro g12 a15 st12 hR15
 replace hR7 := hR7.mono st12 (fun x => x) (fun x => x)
 replace tot := tot.trans st12.pure
 by_cases hc6 : l3.length + ([(IntKind.u8.wrap x2)]).length ≤ 140737488355328
 case neg => rw [if_neg hc6] at hs; cases hs
 replace hs := of_if_p hs hc6
 refine WP.append (kd := (Kd.int .u8)) (t := 33) (e := 5) (bytes := 1) (a2 := a15) (c2 := 1) hR7 hR15.src hR15.len (by kernel_rfl) (by kernel_rfl) (by omega) (by simp only [maxLen]; omega) (by omega) ?_
 intro g13 a16 c10 st13 hR16
 replace hR15 := hR15.mono st13 (WL.no1 (by omega)) (WL.no1 (by omega))
 replace tot := tot.trans (st13.up1 (.inr (by omega)))
 refine WP.stl 1 ?_
 refine WP.dn ?_
 refine NX.then_n ?_
 refine CP.ret ?_
 obtain ⟨g14, hw1, st14, hnew⟩ := hR16.relab (by omega) r0
 refine NX.regw hw1 ?_
 replace tot := tot.trans (st14.up1 (.inr (by omega)))
 clear hR16
 have hR16 := hnew
 clear hnew
 replace hs := Option.some.inj hs
 obtain rfl := hs
 exact NX.fin (v := .slice a16 (n3 + 1) c10) (Res.still (by kernel_rfl)) tot htL ⟨a16, (n3 + 1), c10, rfl, hR16⟩
def F.octet_PutInt (l1 : List Int) (x1 : Int) : Option ((List Int)) := ((F.octet_turn x1).bind fun x2 => ((F.octet_PutNum l1 x2).bind fun l2 => (some l2)))
theorem P.octet_PutInt (g0 : GW) (r0 : Nat) (l1 : List Int) (x1 : Int) (a1 : Option Addr) (n1 : Nat) (c1 : Nat) (hR1 : RdS (Kd.int .u8) g0 5 a1 n1 c1 l1) (o1 : List Int) (hs : F.octet_PutInt l1 x1 = some o1) :
  Calls Try.prog 87 #[.slice a1 n1 c1, .int .i64 x1] g0.w (Ret NoM g0 fun v g => ∃ (a_1 : Option Addr) (n_1 : Nat) (c_1 : Nat), v = .slice a_1 n_1 c_1 ∧ OwnS (Kd.int .u8) g r0 5 a_1 n_1 c_1 o1) := by
 refine calls_of (args := [.slice a1 n1 c1, .int .i64 x1]) Try.func87 rfl (r0 + 0) ?_
 intro t ht htL
 refine ⟨_, rfl, ?_⟩
 refine CP.refr 9 [(0, .slice a1 n1 c1), (1, .int .i64 x1)] (by kernel_rfl) (by kernel_rfl) ?_
 intro ds
 have tot : Step (fun l => NoM l ∨ t ≤ l) g0 g0 := Step.refl _ _
 unfold F.octet_PutInt at hs
 refine CP.seqR ?_
 refine WP.stl 1 ?_
 refine WP.dn ?_
 refine NX.then_n ?_
 refine CP.seqR ?_
 refine WP.stl 2 ?_
 replace hs := Option.bind_eq_some_iff.1 hs
 obtain ⟨x2, hk1, hs⟩ := hs
 have hcal1 := P.octet_turn g0 x1 x2 hk1
 refine WP.callC hcal1 (by kernel_rfl) ?_
 rintro _ g1 st1 rfl
 replace hR1 := hR1.mono st1 (fun x => x)
 replace tot := tot.trans st1.pure
 replace hs := Option.bind_eq_some_iff.1 hs
 obtain ⟨l2, hk2, hs⟩ := hs
 have hcal2 := P.octet_PutNum g1 (t + 1) l1 x2 a1 n1 c1 hR1 l2 hk2
 refine WP.callC hcal2 (by kernel_rfl) ?_
 rintro _ g2 st2 ⟨a2, n2, c2, rfl, hR2⟩
 replace hR1 := hR1.mono st2 (fun x => x)
 replace tot := tot.trans st2.pure
 refine WP.stl 1 ?_
 refine WP.dn ?_
 refine NX.then_n ?_
 refine CP.ret ?_
 obtain ⟨g3, hw1, st3, hnew⟩ := hR2.relab (by omega) r0
 refine NX.regw hw1 ?_
 replace tot := tot.trans (st3.up1 (.inr (by omega)))
 clear hR2
 have hR2 := hnew
 clear hnew
 replace hs := Option.some.inj hs
 obtain rfl := hs
 exact NX.fin (v := .slice a2 n2 c2) (Res.still (by kernel_rfl)) tot htL ⟨a2, n2, c2, rfl, hR2⟩
def F.state_number (x1 : Int) : Option ((List Int)) := ((F.octet_PutInt ([]) x1).bind fun l1 => (some l1))
theorem P.state_number (g0 : GW) (r0 : Nat) (x1 : Int) (o1 : List Int) (hs : F.state_number x1 = some o1) :
  Calls Try.prog 79 #[.int .i64 x1] g0.w (Ret NoM g0 fun v g => ∃ (a_1 : Option Addr) (n_1 : Nat) (c_1 : Nat), v = .slice a_1 n_1 c_1 ∧ OwnS (Kd.int .u8) g r0 5 a_1 n_1 c_1 o1) := by
 refine calls_of (args := [.int .i64 x1]) Try.func79 rfl (r0 + 0) ?_
 intro t ht htL
 refine ⟨_, rfl, ?_⟩
 refine CP.refr 5 [(0, .int .i64 x1)] (by kernel_rfl) (by kernel_rfl) ?_
 intro ds
 have tot : Step (fun l => NoM l ∨ t ≤ l) g0 g0 := Step.refl _ _
 unfold F.state_number at hs
 refine CP.seqR ?_
 refine WP.stl 1 ?_
 refine WP.dn ?_
 refine NX.then_n ?_
 refine CP.seqR ?_
 refine WP.stl 1 ?_
 replace hs := Option.bind_eq_some_iff.1 hs
 obtain ⟨l1, hk1, hs⟩ := hs
 have hcal1 := P.octet_PutInt g0 (t + 1) ([]) x1 none 0 0 (RdS.nil _ _ _) l1 hk1
 refine WP.callC hcal1 (by kernel_rfl) ?_
 rintro _ g1 st1 ⟨a1, n1, c1, rfl, hR1⟩
 replace tot := tot.trans st1.pure
 refine WP.stl 1 ?_
 refine WP.dn ?_
 refine NX.then_n ?_
 refine CP.ret ?_
 obtain ⟨g2, hw1, st2, hnew⟩ := hR1.relab (by omega) r0
 refine NX.regw hw1 ?_
 replace tot := tot.trans (st2.up1 (.inr (by omega)))
 clear hR1
 have hR1 := hnew
 clear hnew
 replace hs := Option.some.inj hs
 obtain rfl := hs
 exact NX.fin (v := .slice a1 n1 c1) (Res.still (by kernel_rfl)) tot htL ⟨a1, n1, c1, rfl, hR1⟩
def F.octet_PutBytes (l1 : List Int) (l2 : List Int) : Option ((List Int)) := ((F.octet_PutNum l1 (IntKind.u64.wrap (l2.length : Int))).bind fun l3 => (if l3.length + l2.length ≤ 140737488355328 then (some (l3 ++ l2)) else none))
theorem P.octet_PutBytes (g0 : GW) (r0 : Nat) (l1 : List Int) (l2 : List Int) (a1 : Option Addr) (n1 : Nat) (c1 : Nat) (a2 : Option Addr) (n2 : Nat) (c2 : Nat) (hR1 : RdS (Kd.int .u8) g0 5 a1 n1 c1 l1) (hR2 : RdS (Kd.int .u8) g0 5 a2 n2 c2 l2) (o1 : List Int) (hs : F.octet_PutBytes l1 l2 = some o1) :
  Calls Try.prog 41 #[.slice a1 n1 c1, .slice a2 n2 c2] g0.w (Ret NoM g0 fun v g => ∃ (a_1 : Option Addr) (n_1 : Nat) (c_1 : Nat), v = .slice a_1 n_1 c_1 ∧ OwnS (Kd.int .u8) g r0 5 a_1 n_1 c_1 o1) := by
 refine calls_of (args := [.slice a1 n1 c1, .slice a2 n2 c2]) Try.func41 rfl (r0 + 0) ?_
 intro t ht htL
 refine ⟨_, rfl, ?_⟩
 refine CP.refr 12 [(0, .slice a1 n1 c1), (1, .slice a2 n2 c2)] (by kernel_rfl) (by kernel_rfl) ?_
 intro ds
 have tot : Step (fun l => NoM l ∨ t ≤ l) g0 g0 := Step.refl _ _
 unfold F.octet_PutBytes at hs
 refine CP.seqR ?_
 refine WP.stl 1 ?_
 refine WP.dn ?_
 refine NX.then_n ?_
 refine CP.seqR ?_
 refine WP.stl 2 ?_
 refine WP.len (a := a2) (cp := c2) hR2.len (by kernel_rfl) ?_
 refine WP.stl 1 ?_
 replace hs := Option.bind_eq_some_iff.1 hs
 obtain ⟨l3, hk1, hs⟩ := hs
 have hcal1 := P.octet_PutNum g0 (t + 1) l1 (IntKind.u64.wrap (l2.length : Int)) a1 n1 c1 hR1 l3 hk1
 refine WP.callC hcal1 (by kernel_rfl) ?_
 rintro _ g1 st1 ⟨a3, n3, c3, rfl, hR3⟩
 replace hR1 := hR1.mono st1 (fun x => x)
 replace hR2 := hR2.mono st1 (fun x => x)
 replace tot := tot.trans st1.pure
 refine WP.stl 1 ?_
 by_cases hc1 : l3.length + l2.length ≤ 140737488355328
 case neg => rw [if_neg hc1] at hs; cases hs
 replace hs := of_if_p hs hc1
 refine WP.append (kd := (Kd.int .u8)) (t := 33) (e := 5) (bytes := 1) (a2 := a2) (c2 := c2) hR3 hR2.src hR2.len (by kernel_rfl) (by kernel_rfl) (by omega) (by simp only [maxLen]; omega) (by omega) ?_
 intro g2 a4 c4 st2 hR4
 replace hR1 := hR1.mono st2 (WL.no1 (by omega))
 replace hR2 := hR2.mono st2 (WL.no1 (by omega))
 replace tot := tot.trans (st2.up1 (.inr (by omega)))
 refine WP.stl 1 ?_
 refine WP.dn ?_
 refine NX.then_n ?_
 refine CP.ret ?_
 obtain ⟨g3, hw1, st3, hnew⟩ := hR4.relab (by omega) r0
 refine NX.regw hw1 ?_
 replace tot := tot.trans (st3.up1 (.inr (by omega)))
 clear hR4
 have hR4 := hnew
 clear hnew
 replace hs := Option.some.inj hs
 obtain rfl := hs
 exact NX.fin (v := .slice a4 (n3 + n2) c4) (Res.still (by kernel_rfl)) tot htL ⟨a4, (n3 + n2), c4, rfl, hR4⟩
def F.octet_PutText (l1 : List Int) (s1 : ByteArray) : Option ((List Int)) := ((F.octet_PutBytes l1 (strBytes s1)).bind fun l2 => (some l2))
theorem P.octet_PutText (g0 : GW) (r0 : Nat) (l1 : List Int) (s1 : ByteArray) (a1 : Option Addr) (n1 : Nat) (c1 : Nat) (hR1 : RdS (Kd.int .u8) g0 5 a1 n1 c1 l1) (o1 : List Int) (hs : F.octet_PutText l1 s1 = some o1) :
  Calls Try.prog 84 #[.slice a1 n1 c1, .string s1] g0.w (Ret NoM g0 fun v g => ∃ (a_1 : Option Addr) (n_1 : Nat) (c_1 : Nat), v = .slice a_1 n_1 c_1 ∧ OwnS (Kd.int .u8) g r0 5 a_1 n_1 c_1 o1) := by
 refine calls_of (args := [.slice a1 n1 c1, .string s1]) Try.func84 rfl (r0 + 0) ?_
 intro t ht htL
 refine ⟨_, rfl, ?_⟩
 refine CP.refr 9 [(0, .slice a1 n1 c1), (1, .string s1)] (by kernel_rfl) (by kernel_rfl) ?_
 intro ds
 have tot : Step (fun l => NoM l ∨ t ≤ l) g0 g0 := Step.refl _ _
 unfold F.octet_PutText at hs
 refine CP.seqR ?_
 refine WP.stl 1 ?_
 refine WP.dn ?_
 refine NX.then_n ?_
 refine CP.seqR ?_
 refine WP.stl 2 ?_
 refine WP.toBytes (e := 5) (s := s1) (by kernel_rfl) ?_
 intro g1 a2 c2 st1 hR2
 replace hR1 := hR1.mono st1 (fun x => x)
 replace tot := tot.trans st1.pure
 replace hs := Option.bind_eq_some_iff.1 hs
 obtain ⟨l2, hk1, hs⟩ := hs
 have hcal1 := P.octet_PutBytes g1 (t + 1) l1 (strBytes s1) a1 n1 c1 a2 s1.size c2 hR1 hR2 l2 hk1
 refine WP.callC hcal1 (by kernel_rfl) ?_
 rintro _ g2 st2 ⟨a3, n2, c3, rfl, hR3⟩
 replace hR1 := hR1.mono st2 (fun x => x)
 replace hR2 := hR2.mono st2 (fun x => x)
 replace tot := tot.trans st2.pure
 refine WP.stl 1 ?_
 refine WP.dn ?_
 refine NX.then_n ?_
 refine CP.ret ?_
 obtain ⟨g3, hw1, st3, hnew⟩ := hR3.relab (by omega) r0
 refine NX.regw hw1 ?_
 replace tot := tot.trans (st3.up1 (.inr (by omega)))
 clear hR3
 have hR3 := hnew
 clear hnew
 replace hs := Option.some.inj hs
 obtain rfl := hs
 exact NX.fin (v := .slice a3 n2 c3) (Res.still (by kernel_rfl)) tot htL ⟨a3, n2, c3, rfl, hR3⟩
def F.slices_Grow_byte_byte.c1 (l1 : List Int) : Option ((List Int)) := (some l1)
def F.slices_Grow_byte_byte (x1 : Int) : Option ((List Int)) := (if decide (x1 < 0) = true then (if False then none else none) else (if decide ((IntKind.i64.wrap (x1 - (IntKind.i64.wrap (0 - 0)))) > 0) = true then (if (0 : Int) < (IntKind.i64.wrap (x1 - (IntKind.i64.wrap (0 - 0)))) ∧ (IntKind.i64.wrap (x1 - (IntKind.i64.wrap (0 - 0)))) ≤ 140737488355328 then (F.slices_Grow_byte_byte.c1 (List.take 0 (List.replicate (IntKind.i64.wrap (x1 - (IntKind.i64.wrap (0 - 0)))).toNat (0 : Int)))) else none) else (F.slices_Grow_byte_byte.c1 ([]))))
theorem P.slices_Grow_byte_byte (g0 : GW) (r0 : Nat) (x1 : Int) (o1 : List Int) (hs : F.slices_Grow_byte_byte x1 = some o1) :
  Calls Try.prog 95 #[.slice none 0 0, .int .i64 x1] g0.w (Ret NoM g0 fun v g => ∃ (a_1 : Option Addr) (n_1 : Nat) (c_1 : Nat), v = .slice a_1 n_1 c_1 ∧ OwnS (Kd.int .u8) g r0 5 a_1 n_1 c_1 o1) := by
 refine calls_of (args := [.slice none 0 0, .int .i64 x1]) Try.func95 rfl (r0 + 0) ?_
 intro t ht htL
 refine ⟨_, rfl, ?_⟩
 refine CP.refr 27 [(0, .slice none 0 0), (1, .int .i64 x1)] (by kernel_rfl) (by kernel_rfl) ?_
 intro ds
 have tot : Step (fun l => NoM l ∨ t ≤ l) g0 g0 := Step.refl _ _
 unfold F.slices_Grow_byte_byte at hs
 refine CP.seqR ?_
 refine WP.stl 1 ?_
 refine WP.dn ?_
 refine NX.then_n ?_
 refine CP.seq ?_
 refine CP.seqR ?_
 refine WP.stl 2 ?_
 refine WP.dn ?_
 refine NX.then_n ?_
 refine CP.cond (b := decide (x1 < 0)) (by kernel_rfl) (fun h2 => ?_) (fun h2 => ?_)
 ·replace hs := of_if_t hs h2
  refine CP.region ?_
  refine WP.stl 1 ?_
  by_cases hc2 : False
  case neg => rw [if_neg hc2] at hs; cases hs
  replace hs := of_if_p hs hc2
  exact absurd hs (by simp)
 replace hs := of_if_f hs h2
 refine CP.skip ?_
 refine NX.then_n ?_
 refine CP.cut (fun tm g => ∃ (l1 : List Int) (a2 : Option Addr) (n1 : Nat) (c2 : Nat), Fr 27 [(0, .slice a2 n1 c2)] tm ∧ Step (fun l => NoM l ∨ t ≤ l) g0 g ∧ OwnS (Kd.int .u8) g (t + 1) 5 a2 n1 c2 l1 ∧ (F.slices_Grow_byte_byte.c1 l1) = some o1) ?_ ?_
 ·refine CP.seqR ?_
  refine WP.stl 2 ?_
  refine WP.cap (a := none) (m := 0) (cp := 0) (by kernel_rfl) ?_
  refine WP.stl 5 ?_
  refine WP.dn ?_
  refine NX.then_n ?_
  refine CP.seqR ?_
  refine WP.stl 2 ?_
  refine WP.dn ?_
  refine NX.then_n ?_
  refine CP.refr 27 [(0, .slice none 0 0), (1, .int .i64 (IntKind.i64.wrap (x1 - (IntKind.i64.wrap (0 - 0))))), (16, .bool (decide ((IntKind.i64.wrap (x1 - (IntKind.i64.wrap (0 - 0)))) > 0)))] (by kernel_rfl) (by kernel_rfl) ?_
  clear ds
  intro ds
  refine CP.cond (b := decide ((IntKind.i64.wrap (x1 - (IntKind.i64.wrap (0 - 0)))) > 0)) (by kernel_rfl) (fun h4 => ?_) (fun h4 => ?_)
  ·replace hs := of_if_t hs h4
   refine CP.region ?_
   refine WP.stl 2 ?_
   refine WP.cap (a := none) (m := 0) (cp := 0) (by kernel_rfl) ?_
   refine WP.sliceNil (e := 5) (size := 1) (k := .i64) (by kernel_rfl) ?_
   refine WP.stl 1 ?_
   by_cases hc4 : (0 : Int) < (IntKind.i64.wrap (x1 - (IntKind.i64.wrap (0 - 0)))) ∧ (IntKind.i64.wrap (x1 - (IntKind.i64.wrap (0 - 0)))) ≤ 140737488355328
   case neg => rw [if_neg hc4] at hs; cases hs
   replace hs := of_if_p hs hc4
   refine WP.appendZ (kd := (Kd.int .u8)) (t + 2) (t := 33) (e := 5) (bytes := 1) (k := .i64) (i := (IntKind.i64.wrap (x1 - (IntKind.i64.wrap (0 - 0))))) (by kernel_rfl) (by kernel_rfl) (Nat.le_of_ble_eq_true rfl) hc4.1 (by omega) (by omega) (z := 0) (by intro zv hz; cases hz; exact (by exact rfl)) ?_
   intro g3 a3 c3 st3 hR4
   replace tot := tot.trans st3.pure
   refine WP.stl 2 ?_
   refine WP.sliceK (k := .i64) (j := 0) hR4 (by kernel_rfl) (by omega) ?_
   intro hR5
   refine WP.stl 1 ?_
   refine WP.dn ?_
   obtain ⟨g4, hw2, st4, hnew⟩ := hR5.relab (by omega) (t + 1)
   refine NX.regw hw2 ?_
   replace tot := tot.trans (st4.up1 (.inr (by omega)))
   clear hR5
   have hR5 := hnew
   clear hnew
   refine NX.post ?_
   exact ⟨(List.take 0 (List.replicate (IntKind.i64.wrap (x1 - (IntKind.i64.wrap (0 - 0)))).toNat (0 : Int))), a3, 0, c3, ⟨by kernel_rfl, by kernel_rfl⟩, tot, hR5, hs⟩
  replace hs := of_if_f hs h4
  refine CP.skip ?_
  refine NX.post ?_
  exact ⟨[], none, 0, 0, ⟨by kernel_rfl, by kernel_rfl⟩, tot, (OwnS.nil _ _ _ _), hs⟩
 clear tot hs
 rintro tm g ⟨l1, a2, n1, c2, hF, tot, hR3, hs⟩
 clear ds
 obtain ⟨ds, rfl⟩ := hF.open
 clear hF
 unfold F.slices_Grow_byte_byte.c1 at hs
 refine CP.seqR ?_
 refine WP.stl 2 ?_
 refine WP.dn ?_
 refine NX.then_n ?_
 refine CP.ret ?_
 obtain ⟨g2, hw1, st2, hnew⟩ := hR3.relab (by omega) r0
 refine NX.regw hw1 ?_
 replace tot := tot.trans (st2.up1 (.inr (by omega)))
 clear hR3
 have hR3 := hnew
 clear hnew
 replace hs := Option.some.inj hs
 obtain rfl := hs
 exact NX.fin (v := .slice a2 n1 c2) (Res.still (by kernel_rfl)) tot htL ⟨a2, n1, c2, rfl, hR3⟩
def F.slices_Concat_byte_byte.l2 (l1 : List (List Int)) : Nat → (List Int) → Int → Option ((List Int))
 | 0, _, _ => none
 | k + 1, l9, x9 => (if decide (x9 < (l1.length : Int)) = true then (if (0 : Int) ≤ x9 ∧ x9 < (l1.length : Int) then (if l9.length + (getI l1 x9).length ≤ 140737488355328 then (F.slices_Concat_byte_byte.l2 l1 k (l9 ++ (getI l1 x9)) (IntKind.i64.wrap (x9 + 1))) else none) else none) else (some l9))
def F.slices_Concat_byte_byte.l1 (l1 : List (List Int)) : Nat → Int → Int → Option ((List Int))
 | 0, _, _ => none
 | k + 1, x3, x4 => (if decide (x4 < (l1.length : Int)) = true then (if (0 : Int) ≤ x4 ∧ x4 < (l1.length : Int) then (if decide ((IntKind.i64.wrap (x3 + ((getI l1 x4).length : Int))) < 0) = true then (if False then none else none) else (F.slices_Concat_byte_byte.l1 l1 k (IntKind.i64.wrap (x3 + ((getI l1 x4).length : Int))) (IntKind.i64.wrap (x4 + 1)))) else none) else ((F.slices_Grow_byte_byte x3).bind fun l8 => (F.slices_Concat_byte_byte.l2 l1 fuel l8 0)))
def F.slices_Concat_byte_byte (l1 : List (List Int)) : Option ((List Int)) := (F.slices_Concat_byte_byte.l1 l1 fuel 0 0)
theorem P.slices_Concat_byte_byte (g0 : GW) (r0 : Nat) (l1 : List (List Int)) (a1 : Option Addr) (n1 : Nat) (c1 : Nat) (hR1 : RdS (Kd.slice 5 (Kd.int .u8)) g0 33 a1 n1 c1 l1) (o1 : List Int) (hs : F.slices_Concat_byte_byte l1 = some o1) :
  Calls Try.prog 86 #[.slice a1 n1 c1] g0.w (Ret NoM g0 fun v g => ∃ (a_1 : Option Addr) (n_1 : Nat) (c_1 : Nat), v = .slice a_1 n_1 c_1 ∧ OwnS (Kd.int .u8) g r0 5 a_1 n_1 c_1 o1) := by
 refine calls_of (args := [.slice a1 n1 c1]) Try.func86 rfl (r0 + 0) ?_
 intro t ht htL
 refine ⟨_, rfl, ?_⟩
 refine CP.refr 36 [(0, .slice a1 n1 c1)] (by kernel_rfl) (by kernel_rfl) ?_
 intro ds
 have tot : Step (fun l => NoM l ∨ t ≤ l) g0 g0 := Step.refl _ _
 unfold F.slices_Concat_byte_byte at hs
 refine CP.seqR ?_
 refine WP.stl 1 ?_
 refine WP.dn ?_
 refine NX.then_n ?_
 refine CP.seqR ?_
 refine WP.stl 1 ?_
 refine WP.dn ?_
 refine NX.then_n ?_
 refine CP.seq ?_
 refine CP.seqR ?_
 refine WP.stl 1 ?_
 refine WP.len (a := a1) (cp := c1) hR1.len (by kernel_rfl) ?_
 refine WP.stl 1 ?_
 refine WP.dn ?_
 refine NX.then_n ?_
 refine CP.block ?_
 generalize fuel = k1 at hs
 refine CP.loop (fun k1 tm g => ∃ (x3 : Int) (x4 : Int), Fr 36 [(0, .slice a1 n1 c1), (3, .int .i64 x3), (9, .slice a1 n1 c1), (10, .int .i64 (l1.length : Int)), (11, .int .i64 x4)] tm ∧ Step (fun l => NoM l ∨ t ≤ l) g0 g ∧ RdS (Kd.slice 5 (Kd.int .u8)) g 33 a1 n1 c1 l1 ∧ F.slices_Concat_byte_byte.l1 l1 k1 x3 x4 = some o1) k1 ?_ ?_ ?_
 ·exact ⟨0, 0, ⟨by kernel_rfl, by kernel_rfl⟩, tot, hR1, hs⟩
 ·rintro tm g ⟨x3, x4, hF, tot, hR1, hs⟩
  exact absurd hs (by simp [F.slices_Concat_byte_byte.l1])
 clear tot hs hR1
 rintro k1 tm g ⟨x3, x4, hF, tot, hR1, hs⟩
 clear ds
 obtain ⟨ds, rfl⟩ := hF.open
 clear hF
 unfold F.slices_Concat_byte_byte.l1 at hs
 refine CP.seqR ?_
 refine WP.stl 1 ?_
 refine WP.dn ?_
 refine NX.then_n ?_
 refine CP.seq ?_
 refine CP.cond (b := decide (x4 < (l1.length : Int))) (by kernel_rfl) (fun h11 => ?_) (fun h11 => ?_)
 ·replace hs := of_if_t hs h11
  refine CP.skip ?_
  refine NX.then_n ?_
  refine CP.seq ?_
  refine CP.block ?_
  refine CP.seqR ?_
  by_cases hc19 : (0 : Int) ≤ x4 ∧ x4 < (l1.length : Int)
  case neg => rw [if_neg hc19] at hs; cases hs
  replace hs := of_if_p hs hc19
  obtain ⟨b10, u10, ha10⟩ := hR1.at hc19
  refine WP.indexA (t := 150) (e := 33) (sz := 1) (cap := c1) (k := .i64) (i := x4) hR1.len ha10 (by kernel_rfl) (by kernel_rfl) hc19 ?_
  obtain ⟨cs10, hcR10, hcV10⟩ := hR1.src.view (getI_some hc19) ha10
  obtain ⟨a21, n17, c21, hcR10, hR21⟩ := Kd.o_sl hcR10
  refine WP.loadV [[.slice a21 n17 c21]] [1] hcV10 hcR10 rfl (f := 0) (ty := 33) (agg := false) (size := 1) (rs := [[.slice a21 n17 c21]]) (v := .slice a21 n17 c21) (by kernel_rfl) (by kernel_rfl) (by kernel_rfl) (by kernel_rfl) ?_
  refine WP.stl 1 ?_
  refine WP.dn ?_
  refine NX.then_n ?_
  refine CP.seqR ?_
  refine WP.stl 2 ?_
  refine WP.len (a := a21) (cp := c21) hR21.len (by kernel_rfl) ?_
  refine WP.stl 2 ?_
  refine WP.dn ?_
  refine NX.then_n ?_
  refine CP.seqR ?_
  refine WP.stl 2 ?_
  refine WP.dn ?_
  refine NX.then_n ?_
  refine CP.cond (b := decide ((IntKind.i64.wrap (x3 + ((getI l1 x4).length : Int))) < 0)) (by kernel_rfl) (fun h13 => ?_) (fun h13 => ?_)
  ·replace hs := of_if_t hs h13
   refine CP.region ?_
   refine WP.stl 1 ?_
   by_cases hc20 : False
   case neg => rw [if_neg hc20] at hs; cases hs
   replace hs := of_if_p hs hc20
   exact absurd hs (by simp)
  replace hs := of_if_f hs h13
  refine CP.skip ?_
  refine NX.block_n ?_
  refine NX.then_n ?_
  refine CP.region ?_
  refine WP.stl 2 ?_
  refine WP.dn ?_
  refine NX.post ?_
  exact ⟨(IntKind.i64.wrap (x3 + ((getI l1 x4).length : Int))), (IntKind.i64.wrap (x4 + 1)), ⟨by kernel_rfl, by kernel_rfl⟩, tot, hR1, hs⟩
 replace hs := of_if_f hs h11
 refine CP.exit ?_
 refine NX.then_e ?_
 refine NX.then_e ?_
 refine NX.block_s ?_
 refine NX.then_n ?_
 refine CP.seqR ?_
 refine WP.stl 1 ?_
 replace hs := Option.bind_eq_some_iff.1 hs
 obtain ⟨l8, hk3, hs⟩ := hs
 have hcal3 := P.slices_Grow_byte_byte g (t + 3) x3 l8 hk3
 refine WP.callC hcal3 (by kernel_rfl) ?_
 rintro _ g7 st7 ⟨a22, n18, c22, rfl, hR22⟩
 replace hR1 := hR1.mono st7 (fun x => x)
 replace tot := tot.trans st7.pure
 refine WP.stl 1 ?_
 refine WP.dn ?_
 refine NX.then_n ?_
 refine CP.seq ?_
 refine CP.seqR ?_
 refine WP.stl 1 ?_
 refine WP.len (a := a1) (cp := c1) hR1.len (by kernel_rfl) ?_
 refine WP.stl 1 ?_
 refine WP.dn ?_
 refine NX.then_n ?_
 refine CP.block ?_
 generalize fuel = k2 at hs
 refine CP.loop (fun k2 tm g => ∃ (l9 : List Int) (a25 : Option Addr) (n20 : Nat) (c25 : Nat) (x9 : Int), Fr 36 [(6, .slice a25 n20 c25), (25, .slice a1 n1 c1), (26, .int .i64 (l1.length : Int)), (27, .int .i64 x9)] tm ∧ Step (fun l => NoM l ∨ t ≤ l) g0 g ∧ OwnS (Kd.int .u8) g (t + 3) 5 a25 n20 c25 l9 ∧ RdS (Kd.slice 5 (Kd.int .u8)) g 33 a1 n1 c1 l1 ∧ F.slices_Concat_byte_byte.l2 l1 k2 l9 x9 = some o1) k2 ?_ ?_ ?_
 ·exact ⟨l8, a22, n18, c22, 0, ⟨by kernel_rfl, by kernel_rfl⟩, tot, hR22, hR1, hs⟩
 ·rintro tm g ⟨l9, a25, n20, c25, x9, hF, tot, hR25, hR1, hs⟩
  exact absurd hs (by simp [F.slices_Concat_byte_byte.l2])
 clear tot hs hR22 hR1
 rintro k2 tm g ⟨l9, a25, n20, c25, x9, hF, tot, hR25, hR1, hs⟩
 clear ds
 obtain ⟨ds, rfl⟩ := hF.open
 clear hF
 unfold F.slices_Concat_byte_byte.l2 at hs
 refine CP.seqR ?_
 refine WP.stl 1 ?_
 refine WP.dn ?_
 refine NX.then_n ?_
 refine CP.seq ?_
 refine CP.cond (b := decide (x9 < (l1.length : Int))) (by kernel_rfl) (fun h16 => ?_) (fun h16 => ?_)
 ·replace hs := of_if_t hs h16
  refine CP.skip ?_
  refine NX.then_n ?_
  refine CP.seq ?_
  refine CP.block ?_
  refine CP.seqR ?_
  by_cases hc25 : (0 : Int) ≤ x9 ∧ x9 < (l1.length : Int)
  case neg => rw [if_neg hc25] at hs; cases hs
  replace hs := of_if_p hs hc25
  obtain ⟨b13, u13, ha13⟩ := hR1.at hc25
  refine WP.indexA (t := 150) (e := 33) (sz := 1) (cap := c1) (k := .i64) (i := x9) hR1.len ha13 (by kernel_rfl) (by kernel_rfl) hc25 ?_
  obtain ⟨cs13, hcR13, hcV13⟩ := hR1.src.view (getI_some hc25) ha13
  obtain ⟨a29, n23, c29, hcR13, hR29⟩ := Kd.o_sl hcR13
  refine WP.loadV [[.slice a29 n23 c29]] [1] hcV13 hcR13 rfl (f := 0) (ty := 33) (agg := false) (size := 1) (rs := [[.slice a29 n23 c29]]) (v := .slice a29 n23 c29) (by kernel_rfl) (by kernel_rfl) (by kernel_rfl) (by kernel_rfl) ?_
  refine WP.stl 1 ?_
  refine WP.dn ?_
  refine NX.then_n ?_
  refine CP.region ?_
  refine WP.stl 2 ?_
  by_cases hc26 : l9.length + (getI l1 x9).length ≤ 140737488355328
  case neg => rw [if_neg hc26] at hs; cases hs
  replace hs := of_if_p hs hc26
  refine WP.append (kd := (Kd.int .u8)) (t := 33) (e := 5) (bytes := 1) (a2 := a29) (c2 := c29) hR25 hR29.src hR29.len (by kernel_rfl) (by kernel_rfl) (by omega) (by simp only [maxLen]; omega) (by omega) ?_
  intro g10 a30 c30 st10 hR30
  replace hR1 := hR1.mono st10 (WL.no1 (by omega))
  replace hR29 := hR29.mono st10 (WL.no1 (by omega))
  replace tot := tot.trans (st10.up1 (.inr (by omega)))
  refine WP.stl 1 ?_
  refine WP.dn ?_
  refine NX.block_n ?_
  refine NX.then_n ?_
  refine CP.region ?_
  refine WP.stl 2 ?_
  refine WP.dn ?_
  refine NX.post ?_
  exact ⟨(l9 ++ (getI l1 x9)), a30, (n20 + n23), c30, (IntKind.i64.wrap (x9 + 1)), ⟨by kernel_rfl, by kernel_rfl⟩, tot, hR30, hR1, hs⟩
 replace hs := of_if_f hs h16
 refine CP.exit ?_
 refine NX.then_e ?_
 refine NX.then_e ?_
 refine NX.block_s ?_
 refine NX.then_n ?_
 refine CP.seqR ?_
 refine WP.stl 2 ?_
 refine WP.dn ?_
 refine NX.then_n ?_
 refine CP.ret ?_
 obtain ⟨g11, hw1, st11, hnew⟩ := hR25.relab (by omega) r0
 refine NX.regw hw1 ?_
 replace tot := tot.trans (st11.up1 (.inr (by omega)))
 clear hR25
 have hR25 := hnew
 clear hnew
 replace hs := Option.some.inj hs
 obtain rfl := hs
 exact NX.fin (v := .slice a25 n20 c25) (Res.still (by kernel_rfl)) tot htL ⟨a25, n20, c25, rfl, hR25⟩
def F.hash_begin (x1 : Int) : Option (Int × Int × Int × Int) := (some (2611923443488327891, 1376283091369227076, 11820040416388919760, x1))
theorem P.hash_begin (g0 : GW) (x1 : Int) (o1 : Int) (o2 : Int) (o3 : Int) (o4 : Int) (hs : F.hash_begin x1 = some (o1, o2, o3, o4)) :
  Calls Try.prog 92 #[.int .u64 x1] g0.w (Ret NoM g0 fun v g => v = AG [[.int .u64 o1], [.int .u64 o2], [.int .u64 o3], [.int .u64 o4]]) := by
 refine calls_of (args := [.int .u64 x1]) Try.func92 rfl (0) ?_
 intro t ht htL
 refine ⟨_, rfl, ?_⟩
 refine CP.refr 5 [(0, .int .u64 x1)] (by kernel_rfl) (by kernel_rfl) ?_
 intro ds
 have tot : Step (fun l => NoM l ∨ t ≤ l) g0 g0 := Step.refl _ _
 unfold F.hash_begin at hs
 refine CP.seqR ?_
 refine WP.alloc (T := 161) (t + 1) [[.int .u64 0], [.int .u64 0], [.int .u64 0], [.int .u64 0]] [1, 1, 1, 1] (by kernel_rfl) rfl ?_
 intro g1 b1 st1 hB1
 replace tot := tot.trans st1.pure
 refine WP.dn ?_
 refine NX.then_n ?_
 refine CP.seqR ?_
 refine WP.stl 2 ?_
 refine WP.storeB (ty := 161) (off := 0) (v := AG [[.int .u64 2611923443488327891], [.int .u64 1376283091369227076], [.int .u64 11820040416388919760], [.int .u64 x1]]) hB1 [[.int .u64 2611923443488327891], [.int .u64 1376283091369227076], [.int .u64 11820040416388919760], [.int .u64 x1]] [1, 1, 1, 1] (by kernel_rfl) (by kernel_rfl) rfl (by kernel_rfl) [[.int .u64 2611923443488327891], [.int .u64 1376283091369227076], [.int .u64 11820040416388919760], [.int .u64 x1]] (by kernel_rfl) (.one rfl (.one rfl (.one rfl (.one rfl .nil)))) ?_
 intro g2 st2 hB2
 replace tot := tot.trans (st2.up1 (.inr (by omega)))
 clear hB1
 have hB1 := hB2
 clear hB2
 refine WP.dn ?_
 refine NX.then_n ?_
 refine CP.ret ?_
 replace hs := Option.some.inj hs
 simp only [Prod.mk.injEq] at hs
 obtain ⟨rfl, rfl, rfl, rfl⟩ := hs
 exact NX.fin (v := AG [[.int .u64 2611923443488327891], [.int .u64 1376283091369227076], [.int .u64 11820040416388919760], [.int .u64 x1]]) (Res.one rfl (RV.box (agg := true) (size := 4) (rs := [[.int .u64 2611923443488327891], [.int .u64 1376283091369227076], [.int .u64 11820040416388919760], [.int .u64 x1]]) hB1 (by kernel_rfl) (by kernel_rfl) (by kernel_rfl) (by kernel_rfl))) tot htL rfl
def F.hash_number.l1 (l1 : List Int) : Nat → Int → Int → Option (Int)
 | 0, _, _ => none
 | k + 1, x1, x2 => (if decide (x2 < (l1.length : Int)) = true then (if (0 : Int) ≤ x2 ∧ x2 < (l1.length : Int) then (if (0 : Int) ≤ (IntKind.i64.wrap (8 * x2)) then (F.hash_number.l1 l1 k (bitOr .u64 x1 (shV true .u64 (IntKind.u64.wrap (getI l1 x2)) (IntKind.i64.wrap (8 * x2)))) (IntKind.i64.wrap (x2 + 1))) else none) else none) else (some x1))
def F.hash_number (l1 : List Int) : Option (Int) := (F.hash_number.l1 l1 fuel 0 0)
theorem P.hash_number (g0 : GW) (l1 : List Int) (a1 : Option Addr) (n1 : Nat) (c1 : Nat) (hR1 : RdS (Kd.int .u8) g0 5 a1 n1 c1 l1) (o1 : Int) (hs : F.hash_number l1 = some o1) :
  Calls Try.prog 101 #[.slice a1 n1 c1] g0.w (Ret NoM g0 fun v g => v = .int .u64 o1) := by
 refine calls_of (args := [.slice a1 n1 c1]) Try.func101 rfl (0) ?_
 intro t ht htL
 refine ⟨_, rfl, ?_⟩
 refine CP.refr 22 [(0, .slice a1 n1 c1)] (by kernel_rfl) (by kernel_rfl) ?_
 intro ds
 have tot : Step (fun l => NoM l ∨ t ≤ l) g0 g0 := Step.refl _ _
 unfold F.hash_number at hs
 refine CP.seqR ?_
 refine WP.stl 1 ?_
 refine WP.dn ?_
 refine NX.then_n ?_
 refine CP.seqR ?_
 refine WP.stl 1 ?_
 refine WP.dn ?_
 refine NX.then_n ?_
 refine CP.seq ?_
 refine CP.seqR ?_
 refine WP.stl 1 ?_
 refine WP.len (a := a1) (cp := c1) hR1.len (by kernel_rfl) ?_
 refine WP.stl 1 ?_
 refine WP.dn ?_
 refine NX.then_n ?_
 refine CP.block ?_
 generalize fuel = k1 at hs
 refine CP.loop (fun k1 tm g => ∃ (x1 : Int) (x2 : Int), Fr 22 [(3, .int .u64 x1), (6, .slice a1 n1 c1), (7, .int .i64 (l1.length : Int)), (8, .int .i64 x2)] tm ∧ Step (fun l => NoM l ∨ t ≤ l) g0 g ∧ RdS (Kd.int .u8) g 5 a1 n1 c1 l1 ∧ F.hash_number.l1 l1 k1 x1 x2 = some o1) k1 ?_ ?_ ?_
 ·exact ⟨0, 0, ⟨by kernel_rfl, by kernel_rfl⟩, tot, hR1, hs⟩
 ·rintro tm g ⟨x1, x2, hF, tot, hR1, hs⟩
  exact absurd hs (by simp [F.hash_number.l1])
 clear tot hs hR1
 rintro k1 tm g ⟨x1, x2, hF, tot, hR1, hs⟩
 clear ds
 obtain ⟨ds, rfl⟩ := hF.open
 clear hF
 unfold F.hash_number.l1 at hs
 refine CP.seqR ?_
 refine WP.stl 1 ?_
 refine WP.dn ?_
 refine NX.then_n ?_
 refine CP.seq ?_
 refine CP.cond (b := decide (x2 < (l1.length : Int))) (by kernel_rfl) (fun h3 => ?_) (fun h3 => ?_)
 ·replace hs := of_if_t hs h3
  refine CP.skip ?_
  refine NX.then_n ?_
  refine CP.seq ?_
  refine CP.block ?_
  refine CP.seqR ?_
  refine WP.stl 1 ?_
  by_cases hc5 : (0 : Int) ≤ x2 ∧ x2 < (l1.length : Int)
  case neg => rw [if_neg hc5] at hs; cases hs
  replace hs := of_if_p hs hc5
  obtain ⟨b3, u3, ha3⟩ := hR1.at hc5
  refine WP.indexA (t := 33) (e := 5) (sz := 1) (cap := c1) (k := .i64) (i := x2) hR1.len ha3 (by kernel_rfl) (by kernel_rfl) hc5 ?_
  obtain ⟨cs3, hcR3, hcV3⟩ := hR1.src.view (getI_some hc5) ha3
  replace hcR3 := Kd.o_int hcR3
  refine WP.loadV [[.int .u8 (getI l1 x2)]] [1] hcV3 hcR3 rfl (f := 0) (ty := 5) (agg := false) (size := 1) (rs := [[.int .u8 (getI l1 x2)]]) (v := .int .u8 (getI l1 x2)) (by kernel_rfl) (by kernel_rfl) (by kernel_rfl) (by kernel_rfl) ?_
  refine WP.stl 2 ?_
  refine WP.dn ?_
  refine NX.then_n ?_
  refine CP.region ?_
  refine WP.stl 5 ?_
  by_cases hc6 : (0 : Int) ≤ (IntKind.i64.wrap (8 * x2))
  case neg => rw [if_neg hc6] at hs; cases hs
  replace hs := of_if_p hs hc6
  refine WP.shift (left := true) (k := .u64) (yk := .i64) (x := (IntKind.u64.wrap (getI l1 x2))) (y := (IntKind.i64.wrap (8 * x2))) (by kernel_rfl) hc6 ?_
  refine WP.stl 2 ?_
  refine WP.dn ?_
  refine NX.block_n ?_
  refine NX.then_n ?_
  refine CP.refr 22 [(3, .int .u64 (bitOr .u64 x1 (shV true .u64 (IntKind.u64.wrap (getI l1 x2)) (IntKind.i64.wrap (8 * x2))))), (6, .slice a1 n1 c1), (7, .int .i64 (l1.length : Int)), (8, .int .i64 x2)] (by kernel_rfl) (by kernel_rfl) ?_
  clear ds
  intro ds
  refine CP.region ?_
  refine WP.stl 2 ?_
  refine WP.dn ?_
  refine NX.post ?_
  exact ⟨(bitOr .u64 x1 (shV true .u64 (IntKind.u64.wrap (getI l1 x2)) (IntKind.i64.wrap (8 * x2)))), (IntKind.i64.wrap (x2 + 1)), ⟨by kernel_rfl, by kernel_rfl⟩, tot, hR1, hs⟩
 replace hs := of_if_f hs h3
 refine CP.exit ?_
 refine NX.then_e ?_
 refine NX.then_e ?_
 refine NX.block_s ?_
 refine NX.then_n ?_
 refine CP.seqR ?_
 refine WP.stl 2 ?_
 refine WP.dn ?_
 refine NX.then_n ?_
 refine CP.ret ?_
 replace hs := Option.some.inj hs
 obtain rfl := hs
 exact NX.fin (v := .int .u64 x1) (Res.still (by kernel_rfl)) tot htL rfl
def F.math_bits_RotateLeft64 (x1 : Int) (x2 : Int) : Option (Int) := (if (0 : Int) ≤ (bitAnd .u64 (IntKind.u64.wrap x2) 63) then (if (0 : Int) ≤ (IntKind.u64.wrap (64 - (bitAnd .u64 (IntKind.u64.wrap x2) 63))) then (some (bitOr .u64 (shV true .u64 x1 (bitAnd .u64 (IntKind.u64.wrap x2) 63)) (shV false .u64 x1 (IntKind.u64.wrap (64 - (bitAnd .u64 (IntKind.u64.wrap x2) 63)))))) else none) else none)
theorem P.math_bits_RotateLeft64 (g0 : GW) (x1 : Int) (x2 : Int) (o1 : Int) (hs : F.math_bits_RotateLeft64 x1 x2 = some o1) :
  Calls Try.prog 108 #[.int .u64 x1, .int .i64 x2] g0.w (Ret NoM g0 fun v g => v = .int .u64 o1) := by
 refine calls_of (args := [.int .u64 x1, .int .i64 x2]) Try.func108 rfl (0) ?_
 intro t ht htL
 refine ⟨_, rfl, ?_⟩
 refine CP.refr 17 [(0, .int .u64 x1), (1, .int .i64 x2)] (by kernel_rfl) (by kernel_rfl) ?_
 intro ds
 have tot : Step (fun l => NoM l ∨ t ≤ l) g0 g0 := Step.refl _ _
 unfold F.math_bits_RotateLeft64 at hs
 refine CP.seqR ?_
 refine WP.stl 1 ?_
 refine WP.dn ?_
 refine NX.then_n ?_
 refine CP.seqR ?_
 refine WP.stl 4 ?_
 refine WP.dn ?_
 refine NX.then_n ?_
 refine CP.seqR ?_
 refine WP.stl 2 ?_
 by_cases hc1 : (0 : Int) ≤ (bitAnd .u64 (IntKind.u64.wrap x2) 63)
 case neg => rw [if_neg hc1] at hs; cases hs
 replace hs := of_if_p hs hc1
 refine WP.shift (left := true) (k := .u64) (yk := .u64) (x := x1) (y := (bitAnd .u64 (IntKind.u64.wrap x2) 63)) (by kernel_rfl) hc1 ?_
 refine WP.stl 3 ?_
 by_cases hc2 : (0 : Int) ≤ (IntKind.u64.wrap (64 - (bitAnd .u64 (IntKind.u64.wrap x2) 63)))
 case neg => rw [if_neg hc2] at hs; cases hs
 replace hs := of_if_p hs hc2
 refine WP.shift (left := false) (k := .u64) (yk := .u64) (x := x1) (y := (IntKind.u64.wrap (64 - (bitAnd .u64 (IntKind.u64.wrap x2) 63)))) (by kernel_rfl) hc2 ?_
 refine WP.stl 2 ?_
 refine WP.dn ?_
 refine NX.then_n ?_
 refine CP.refr 17 [(4, .int .u64 (bitOr .u64 (shV true .u64 x1 (bitAnd .u64 (IntKind.u64.wrap x2) 63)) (shV false .u64 x1 (IntKind.u64.wrap (64 - (bitAnd .u64 (IntKind.u64.wrap x2) 63))))))] (by kernel_rfl) (by kernel_rfl) ?_
 clear ds
 intro ds
 refine CP.ret ?_
 replace hs := Option.some.inj hs
 obtain rfl := hs
 exact NX.fin (v := .int .u64 (bitOr .u64 (shV true .u64 x1 (bitAnd .u64 (IntKind.u64.wrap x2) 63)) (shV false .u64 x1 (IntKind.u64.wrap (64 - (bitAnd .u64 (IntKind.u64.wrap x2) 63)))))) (Res.still (by kernel_rfl)) tot htL rfl
def N.hash_state_mix_0 : List (List Nat) := [[], [], [1], [1, 2], [1, 2, 3], [], [5], [5, 6], [5, 6, 7], [1, 2, 3, 4, 5, 6, 7, 8], [], [1, 2, 3, 4, 5, 6, 7, 8, 9, 10], [0], [0, 1, 2, 3, 4, 5, 6, 7, 8, 9, 10, 11, 12], [0, 1, 2, 3, 4, 5, 6, 7, 8, 9, 10, 11, 12, 13]]
def N.hash_state_mix_1 : List (List Nat) := [[], [0], [0, 1], [0, 1, 2], [], [4], [4, 5], [4, 5, 6], [0, 1, 2, 3, 4, 5, 6, 7], [0], [0, 1, 2, 3, 4, 5, 6, 7, 8, 9], [0, 1, 2, 3, 4, 5, 6, 7, 8, 9, 10]]
def F.hash_state_mix (x1 : Int) (x2 : Int) (x3 : Int) (x4 : Int) (x5 : Int) (x6 : Int) : Option (Int × Int × Int × Int) := ((F.math_bits_RotateLeft64 (bitXor .u64 x4 x1) x5).bind fun x7 => ((F.math_bits_RotateLeft64 (bitXor .u64 x2 (IntKind.u64.wrap (x3 + x7))) x6).bind fun x8 => (some (x1, x8, (IntKind.u64.wrap (x3 + x7)), x7))))
theorem P.hash_state_mix (g0 : GW) (m0 : Nat) (x1 : Int) (x2 : Int) (x3 : Int) (x4 : Int) (x5 : Int) (x6 : Int) (b1 : Nat) (hB1 : Box g0 m0 b1 161 [[.int .u64 x1], [.int .u64 x2], [.int .u64 x3], [.int .u64 x4]] [1, 1, 1, 1]) (hm0 : m0 ≠ 0) (o1 : Int) (o2 : Int) (o3 : Int) (o4 : Int) (hs : F.hash_state_mix x1 x2 x3 x4 x5 x6 = some (o1, o2, o3, o4)) :
  Calls Try.prog 107 #[.pointer (some ⟨b1, 0, none⟩), .int .i64 x5, .int .i64 x6] g0.w (Ret (WL [m0]) g0 fun v g => v = .tuple #[] ∧ Box g m0 b1 161 [[.int .u64 o1], [.int .u64 o2], [.int .u64 o3], [.int .u64 o4]] [1, 1, 1, 1]) := by
 refine calls_of (args := [.pointer (some ⟨b1, 0, none⟩), .int .i64 x5, .int .i64 x6]) Try.func107 rfl (m0 + 0) ?_
 intro t ht htL
 refine ⟨_, rfl, ?_⟩
 refine CP.refr 45 [(0, .pointer (some ⟨b1, 0, none⟩)), (1, .int .i64 x5), (2, .int .i64 x6)] (by kernel_rfl) (by kernel_rfl) ?_
 intro ds
 have tot : Step (fun l => (WL [m0]) l ∨ t ≤ l) g0 g0 := Step.refl _ _
 unfold F.hash_state_mix at hs
 refine CP.seq ?_
 replace hs := Option.bind_eq_some_iff.1 hs
 obtain ⟨x7, hk1, hs⟩ := hs
 refine CP.drawL (by kernel_rfl) [4, 8, 11, 14] N.hash_state_mix_0 [⟨none, [0], [], fun l g => Box g m0 b1 161 [[.int .u64 x1], [.int .u64 x2], [.int .u64 x3], [.int .u64 x4]] [1, 1, 1, 1]⟩, ⟨some 0, [], [0], fun l g => l.getD 0 undef = .int .u64 x4⟩, ⟨some 1, [], [1], fun l g => l.getD 0 undef = .int .u64 x1⟩, ⟨some 2, [], [2], fun l g => l.getD 0 undef = .int .u64 x7⟩, ⟨some 3, [0], [], fun l g => Box g m0 b1 161 [[.int .u64 x1], [.int .u64 x2], [.int .u64 x3], [.int .u64 x7]] [1, 1, 1, 1]⟩] [[], [], [], [0]] [m0] [0, 1, 2, 3, 5, 6, 7, 10, 12, 13] [9] (by kernel_rfl) (by simp <;> omega) (by simp) ⟨fun _ _ _ _ st h0 hl hj hB1 => (hB1.mono st (hj 0 (by simp) _ rfl)), fun _ _ _ _ st h0 hl hj e0 => e0, fun _ _ _ _ st h0 hl hj e1 => e1, fun _ _ _ _ st h0 hl hj e2 => e2, fun _ _ _ _ st h0 hl hj hB1 => (hB1.mono st (hj 0 (by simp) _ rfl)), tv⟩ ⟨hB1, tv, tv, tv, tv, tv⟩ (by kernel_rfl) (fun vs => by kernel_rfl) ?_ ?_ ?_
 ·intro j hj
  have hq : j = 0 := by have h : j < 1 := hj; omega
  rcases hq with rfl
  ·intro vs gq stq hl hf
   obtain ⟨v0, v1, v2, v3, rfl⟩ := len_k4 hl
   have e0 := (show v0 = .int .u64 x4 from hf _ (memI 1 rfl) (by kernel_rfl))
   subst e0
   have e1 := (show v1 = .int .u64 x1 from hf _ (memI 2 rfl) (by kernel_rfl))
   subst e1
   show Option.isSome _ = true
   kernel_rfl
 ·intro j hj
  have hq : j = 0 ∨ j = 1 ∨ j = 2 ∨ j = 3 := by have h : j < 4 := hj; omega
  rcases hq with rfl | rfl | rfl | rfl
  ·intro vs gq stq hl hf
   obtain ⟨v0, v1, v2, v3, rfl⟩ := len_k4 hl
   have hB1 := (show Box gq m0 b1 161 [[.int .u64 x1], [.int .u64 x2], [.int .u64 x3], [.int .u64 x4]] [1, 1, 1, 1] from hf _ (memI 0 rfl) (by kernel_rfl))
   refine WP.loadB (v := .int .u64 x4) hB1 (by kernel_rfl) (by kernel_rfl) ?_
   refine WP.dn (Shown.ok (v := .int .u64 x4) (by kernel_rfl) (Step.refl _ _) ?_)
   exact ⟨tv, rfl, tv, tv, tv, tv⟩
  ·intro vs gq stq hl hf
   obtain ⟨v0, v1, v2, v3, rfl⟩ := len_k4 hl
   have hB1 := (show Box gq m0 b1 161 [[.int .u64 x1], [.int .u64 x2], [.int .u64 x3], [.int .u64 x4]] [1, 1, 1, 1] from hf _ (memI 0 rfl) (by kernel_rfl))
   refine WP.loadB (v := .int .u64 x1) hB1 (by kernel_rfl) (by kernel_rfl) ?_
   refine WP.dn (Shown.ok (v := .int .u64 x1) (by kernel_rfl) (Step.refl _ _) ?_)
   exact ⟨tv, tv, rfl, tv, tv, tv⟩
  ·intro vs gq stq hl hf
   obtain ⟨v0, v1, v2, v3, rfl⟩ := len_k4 hl
   have e0 := (show v0 = .int .u64 x4 from hf _ (memI 1 rfl) (by kernel_rfl))
   subst e0
   have e1 := (show v1 = .int .u64 x1 from hf _ (memI 2 rfl) (by kernel_rfl))
   subst e1
   have hcal1 := P.math_bits_RotateLeft64 gq (bitXor .u64 x4 x1) x5 x7 hk1
   refine WP.callC hcal1 (by kernel_rfl) ?_
   rintro _ g1 st1 rfl
   refine WP.dn (Shown.o (v := .int .u64 x7) st1.pure ?_)
   exact ⟨tv, tv, tv, rfl, tv, tv⟩
  ·intro vs gq stq hl hf
   obtain ⟨v0, v1, v2, v3, rfl⟩ := len_k4 hl
   have hB1 := (show Box gq m0 b1 161 [[.int .u64 x1], [.int .u64 x2], [.int .u64 x3], [.int .u64 x4]] [1, 1, 1, 1] from hf _ (memI 0 rfl) (by kernel_rfl))
   have e2 := (show v2 = .int .u64 x7 from hf _ (memI 3 rfl) (by kernel_rfl))
   subst e2
   refine WP.storeB (ty := 95) (off := 3) (v := .int .u64 x7) hB1 [[.int .u64 x7]] [1] (by kernel_rfl) (by kernel_rfl) rfl (by kernel_rfl) [[.int .u64 x1], [.int .u64 x2], [.int .u64 x3], [.int .u64 x7]] (by kernel_rfl) (.one rfl .nil) ?_
   intro g2 st2 hB2
   refine WP.dn (Shown.o (v := undef) st2 ?_)
   exact ⟨tv, tv, tv, tv, hB2, tv⟩
 intro vs g3 st3 hl hf
 obtain ⟨v0, v1, v2, v3, rfl⟩ := len_k4 hl
 have hB1 := (show Box g3 m0 b1 161 [[.int .u64 x1], [.int .u64 x2], [.int .u64 x3], [.int .u64 x7]] [1, 1, 1, 1] from hf _ (memI 4 rfl) (by kernel_rfl))
 replace tot := tot.trans (st3.up1 (.inl (by simp [WL])))
 refine NX.then_n ?_
 refine CP.refr 45 [(0, .pointer (some ⟨b1, 0, none⟩)), (2, .int .i64 x6)] (by kernel_rfl) (by kernel_rfl) ?_
 clear ds
 intro ds
 refine CP.seq ?_
 refine CP.drawL (by kernel_rfl) [3, 7, 11] N.hash_state_mix_1 [⟨none, [0], [], fun l g => Box g m0 b1 161 [[.int .u64 x1], [.int .u64 x2], [.int .u64 x3], [.int .u64 x7]] [1, 1, 1, 1]⟩, ⟨some 0, [], [0], fun l g => l.getD 0 undef = .int .u64 x3⟩, ⟨some 1, [], [1], fun l g => l.getD 0 undef = .int .u64 x7⟩, ⟨some 2, [0], [], fun l g => Box g m0 b1 161 [[.int .u64 x1], [.int .u64 x2], [.int .u64 (IntKind.u64.wrap (x3 + x7))], [.int .u64 x7]] [1, 1, 1, 1]⟩] [[], [], [0]] [m0] [0, 1, 2, 4, 5, 6, 9, 10] [8] (by kernel_rfl) (by simp <;> omega) (by simp) ⟨fun _ _ _ _ st h0 hl hj hB1 => (hB1.mono st (hj 0 (by simp) _ rfl)), fun _ _ _ _ st h0 hl hj e0 => e0, fun _ _ _ _ st h0 hl hj e1 => e1, fun _ _ _ _ st h0 hl hj hB1 => (hB1.mono st (hj 0 (by simp) _ rfl)), tv⟩ ⟨hB1, tv, tv, tv, tv⟩ (by kernel_rfl) (fun vs => by kernel_rfl) ?_ ?_ ?_
 ·intro j hj
  have hq : j = 0 := by have h : j < 1 := hj; omega
  rcases hq with rfl
  ·intro vs gq stq hl hf
   obtain ⟨v0, v1, v2, rfl⟩ := len_k3 hl
   have e0 := (show v0 = .int .u64 x3 from hf _ (memI 1 rfl) (by kernel_rfl))
   subst e0
   have e1 := (show v1 = .int .u64 x7 from hf _ (memI 2 rfl) (by kernel_rfl))
   subst e1
   show Option.isSome _ = true
   kernel_rfl
 ·intro j hj
  have hq : j = 0 ∨ j = 1 ∨ j = 2 := by have h : j < 3 := hj; omega
  rcases hq with rfl | rfl | rfl
  ·intro vs gq stq hl hf
   obtain ⟨v0, v1, v2, rfl⟩ := len_k3 hl
   have hB1 := (show Box gq m0 b1 161 [[.int .u64 x1], [.int .u64 x2], [.int .u64 x3], [.int .u64 x7]] [1, 1, 1, 1] from hf _ (memI 0 rfl) (by kernel_rfl))
   refine WP.loadB (v := .int .u64 x3) hB1 (by kernel_rfl) (by kernel_rfl) ?_
   refine WP.dn (Shown.ok (v := .int .u64 x3) (by kernel_rfl) (Step.refl _ _) ?_)
   exact ⟨tv, rfl, tv, tv, tv⟩
  ·intro vs gq stq hl hf
   obtain ⟨v0, v1, v2, rfl⟩ := len_k3 hl
   have hB1 := (show Box gq m0 b1 161 [[.int .u64 x1], [.int .u64 x2], [.int .u64 x3], [.int .u64 x7]] [1, 1, 1, 1] from hf _ (memI 0 rfl) (by kernel_rfl))
   refine WP.loadB (v := .int .u64 x7) hB1 (by kernel_rfl) (by kernel_rfl) ?_
   refine WP.dn (Shown.ok (v := .int .u64 x7) (by kernel_rfl) (Step.refl _ _) ?_)
   exact ⟨tv, tv, rfl, tv, tv⟩
  ·intro vs gq stq hl hf
   obtain ⟨v0, v1, v2, rfl⟩ := len_k3 hl
   have hB1 := (show Box gq m0 b1 161 [[.int .u64 x1], [.int .u64 x2], [.int .u64 x3], [.int .u64 x7]] [1, 1, 1, 1] from hf _ (memI 0 rfl) (by kernel_rfl))
   have e0 := (show v0 = .int .u64 x3 from hf _ (memI 1 rfl) (by kernel_rfl))
   subst e0
   have e1 := (show v1 = .int .u64 x7 from hf _ (memI 2 rfl) (by kernel_rfl))
   subst e1
   refine WP.storeB (ty := 95) (off := 2) (v := .int .u64 (IntKind.u64.wrap (x3 + x7))) hB1 [[.int .u64 (IntKind.u64.wrap (x3 + x7))]] [1] (by kernel_rfl) (by kernel_rfl) rfl (by kernel_rfl) [[.int .u64 x1], [.int .u64 x2], [.int .u64 (IntKind.u64.wrap (x3 + x7))], [.int .u64 x7]] (by kernel_rfl) (.one rfl .nil) ?_
   intro g4 st4 hB3
   refine WP.dn (Shown.o (v := undef) st4 ?_)
   exact ⟨tv, tv, tv, hB3, tv⟩
 intro vs g5 st5 hl hf
 obtain ⟨v0, v1, v2, rfl⟩ := len_k3 hl
 have hB1 := (show Box g5 m0 b1 161 [[.int .u64 x1], [.int .u64 x2], [.int .u64 (IntKind.u64.wrap (x3 + x7))], [.int .u64 x7]] [1, 1, 1, 1] from hf _ (memI 3 rfl) (by kernel_rfl))
 replace tot := tot.trans (st5.up1 (.inl (by simp [WL])))
 refine NX.then_n ?_
 refine CP.refr 45 [(0, .pointer (some ⟨b1, 0, none⟩)), (2, .int .i64 x6)] (by kernel_rfl) (by kernel_rfl) ?_
 clear ds
 intro ds
 replace hs := Option.bind_eq_some_iff.1 hs
 obtain ⟨x8, hk2, hs⟩ := hs
 refine CP.drawL (by kernel_rfl) [4, 8, 11, 14] N.hash_state_mix_0 [⟨none, [0], [], fun l g => Box g m0 b1 161 [[.int .u64 x1], [.int .u64 x2], [.int .u64 (IntKind.u64.wrap (x3 + x7))], [.int .u64 x7]] [1, 1, 1, 1]⟩, ⟨some 0, [], [0], fun l g => l.getD 0 undef = .int .u64 x2⟩, ⟨some 1, [], [1], fun l g => l.getD 0 undef = .int .u64 (IntKind.u64.wrap (x3 + x7))⟩, ⟨some 2, [], [2], fun l g => l.getD 0 undef = .int .u64 x8⟩, ⟨some 3, [0], [], fun l g => Box g m0 b1 161 [[.int .u64 x1], [.int .u64 x8], [.int .u64 (IntKind.u64.wrap (x3 + x7))], [.int .u64 x7]] [1, 1, 1, 1]⟩] [[], [], [], [0]] [m0] [0, 1, 2, 3, 5, 6, 7, 10, 12, 13] [9] (by kernel_rfl) (by simp <;> omega) (by simp) ⟨fun _ _ _ _ st h0 hl hj hB1 => (hB1.mono st (hj 0 (by simp) _ rfl)), fun _ _ _ _ st h0 hl hj e0 => e0, fun _ _ _ _ st h0 hl hj e1 => e1, fun _ _ _ _ st h0 hl hj e2 => e2, fun _ _ _ _ st h0 hl hj hB1 => (hB1.mono st (hj 0 (by simp) _ rfl)), tv⟩ ⟨hB1, tv, tv, tv, tv, tv⟩ (by kernel_rfl) (fun vs => by kernel_rfl) ?_ ?_ ?_
 ·intro j hj
  have hq : j = 0 := by have h : j < 1 := hj; omega
  rcases hq with rfl
  ·intro vs gq stq hl hf
   obtain ⟨v0, v1, v2, v3, rfl⟩ := len_k4 hl
   have e0 := (show v0 = .int .u64 x2 from hf _ (memI 1 rfl) (by kernel_rfl))
   subst e0
   have e1 := (show v1 = .int .u64 (IntKind.u64.wrap (x3 + x7)) from hf _ (memI 2 rfl) (by kernel_rfl))
   subst e1
   show Option.isSome _ = true
   kernel_rfl
 ·intro j hj
  have hq : j = 0 ∨ j = 1 ∨ j = 2 ∨ j = 3 := by have h : j < 4 := hj; omega
  rcases hq with rfl | rfl | rfl | rfl
  ·intro vs gq stq hl hf
   obtain ⟨v0, v1, v2, v3, rfl⟩ := len_k4 hl
   have hB1 := (show Box gq m0 b1 161 [[.int .u64 x1], [.int .u64 x2], [.int .u64 (IntKind.u64.wrap (x3 + x7))], [.int .u64 x7]] [1, 1, 1, 1] from hf _ (memI 0 rfl) (by kernel_rfl))
   refine WP.loadB (v := .int .u64 x2) hB1 (by kernel_rfl) (by kernel_rfl) ?_
   refine WP.dn (Shown.ok (v := .int .u64 x2) (by kernel_rfl) (Step.refl _ _) ?_)
   exact ⟨tv, rfl, tv, tv, tv, tv⟩
  ·intro vs gq stq hl hf
   obtain ⟨v0, v1, v2, v3, rfl⟩ := len_k4 hl
   have hB1 := (show Box gq m0 b1 161 [[.int .u64 x1], [.int .u64 x2], [.int .u64 (IntKind.u64.wrap (x3 + x7))], [.int .u64 x7]] [1, 1, 1, 1] from hf _ (memI 0 rfl) (by kernel_rfl))
   refine WP.loadB (v := .int .u64 (IntKind.u64.wrap (x3 + x7))) hB1 (by kernel_rfl) (by kernel_rfl) ?_
   refine WP.dn (Shown.ok (v := .int .u64 (IntKind.u64.wrap (x3 + x7))) (by kernel_rfl) (Step.refl _ _) ?_)
   exact ⟨tv, tv, rfl, tv, tv, tv⟩
  ·intro vs gq stq hl hf
   obtain ⟨v0, v1, v2, v3, rfl⟩ := len_k4 hl
   have e0 := (show v0 = .int .u64 x2 from hf _ (memI 1 rfl) (by kernel_rfl))
   subst e0
   have e1 := (show v1 = .int .u64 (IntKind.u64.wrap (x3 + x7)) from hf _ (memI 2 rfl) (by kernel_rfl))
   subst e1
   have hcal2 := P.math_bits_RotateLeft64 gq (bitXor .u64 x2 (IntKind.u64.wrap (x3 + x7))) x6 x8 hk2
   refine WP.callC hcal2 (by kernel_rfl) ?_
   rintro _ g6 st6 rfl
   refine WP.dn (Shown.o (v := .int .u64 x8) st6.pure ?_)
   exact ⟨tv, tv, tv, rfl, tv, tv⟩
  ·intro vs gq stq hl hf
   obtain ⟨v0, v1, v2, v3, rfl⟩ := len_k4 hl
   have hB1 := (show Box gq m0 b1 161 [[.int .u64 x1], [.int .u64 x2], [.int .u64 (IntKind.u64.wrap (x3 + x7))], [.int .u64 x7]] [1, 1, 1, 1] from hf _ (memI 0 rfl) (by kernel_rfl))
   have e2 := (show v2 = .int .u64 x8 from hf _ (memI 3 rfl) (by kernel_rfl))
   subst e2
   refine WP.storeB (ty := 95) (off := 1) (v := .int .u64 x8) hB1 [[.int .u64 x8]] [1] (by kernel_rfl) (by kernel_rfl) rfl (by kernel_rfl) [[.int .u64 x1], [.int .u64 x8], [.int .u64 (IntKind.u64.wrap (x3 + x7))], [.int .u64 x7]] (by kernel_rfl) (.one rfl .nil) ?_
   intro g7 st7 hB4
   refine WP.dn (Shown.o (v := undef) st7 ?_)
   exact ⟨tv, tv, tv, tv, hB4, tv⟩
 intro vs g8 st8 hl hf
 obtain ⟨v0, v1, v2, v3, rfl⟩ := len_k4 hl
 have hB1 := (show Box g8 m0 b1 161 [[.int .u64 x1], [.int .u64 x8], [.int .u64 (IntKind.u64.wrap (x3 + x7))], [.int .u64 x7]] [1, 1, 1, 1] from hf _ (memI 4 rfl) (by kernel_rfl))
 replace tot := tot.trans (st8.up1 (.inl (by simp [WL])))
 replace hs := Option.some.inj hs
 simp only [Prod.mk.injEq] at hs
 obtain ⟨rfl, rfl, rfl, rfl⟩ := hs
 exact NX.finE (v := .tuple #[]) (Res.still (by kernel_rfl)) tot htL ⟨rfl, hB1⟩
def N.hash_state_stir_0 : List (List Nat) := [[], [], [1], [1, 2], [1, 2, 3], [], [5], [5, 6], [5, 6, 7], [1, 2, 3, 4, 5, 6, 7, 8], [], [10], [10, 11], [1, 2, 3, 4, 5, 6, 7, 8, 9, 10, 11, 12], [0], [0, 1, 2, 3, 4, 5, 6, 7, 8, 9, 10, 11, 12, 13, 14], [0, 1, 2, 3, 4, 5, 6, 7, 8, 9, 10, 11, 12, 13, 14, 15]]
def N.hash_state_stir_1 : List (List Nat) := [[], [0], [0, 1], [0, 1, 2], [], [4], [4, 5], [4, 5, 6], [0, 1, 2, 3, 4, 5, 6, 7], [0], [0, 1, 2, 3, 4, 5, 6, 7, 8, 9], [0, 1, 2, 3, 4, 5, 6, 7, 8, 9, 10]]
def F.hash_state_stir.l1 : Nat → Int → Int → Int → Int → Int → Option (Int × Int × Int × Int)
 | 0, _, _, _, _, _ => none
 | k + 1, x13, x14, x15, x16, x17 => (if decide (x17 < 6) = true then ((F.hash_state_mix (bitXor .u64 (IntKind.u64.wrap (x13 + x14)) (IntKind.u64.wrap (IntKind.i64.wrap (x17 + 1)))) x14 x15 x16 32 24).bind fun (x31, x32, x33, x34) => ((F.hash_state_mix (IntKind.u64.wrap (x31 + x32)) x32 x33 x34 16 63).bind fun (x35, x36, x37, x38) => (F.hash_state_stir.l1 k x35 x36 x37 x38 (IntKind.i64.wrap (x17 + 1))))) else (some (x13, x14, x15, x16)))
def F.hash_state_stir (x1 : Int) (x2 : Int) (x3 : Int) (x4 : Int) : Option (Int × Int × Int × Int) := (F.hash_state_stir.l1 fuel x1 x2 x3 x4 0)
theorem P.hash_state_stir (g0 : GW) (m0 : Nat) (x1 : Int) (x2 : Int) (x3 : Int) (x4 : Int) (b1 : Nat) (hB1 : Box g0 m0 b1 161 [[.int .u64 x1], [.int .u64 x2], [.int .u64 x3], [.int .u64 x4]] [1, 1, 1, 1]) (hm0 : m0 ≠ 0) (o1 : Int) (o2 : Int) (o3 : Int) (o4 : Int) (hs : F.hash_state_stir x1 x2 x3 x4 = some (o1, o2, o3, o4)) :
  Calls Try.prog 105 #[.pointer (some ⟨b1, 0, none⟩)] g0.w (Ret (WL [m0]) g0 fun v g => v = .tuple #[] ∧ Box g m0 b1 161 [[.int .u64 o1], [.int .u64 o2], [.int .u64 o3], [.int .u64 o4]] [1, 1, 1, 1]) := by
 refine calls_of (args := [.pointer (some ⟨b1, 0, none⟩)]) Try.func105 rfl (m0 + 0) ?_
 intro t ht htL
 refine ⟨_, rfl, ?_⟩
 refine CP.refr 38 [(0, .pointer (some ⟨b1, 0, none⟩))] (by kernel_rfl) (by kernel_rfl) ?_
 intro ds
 have tot : Step (fun l => (WL [m0]) l ∨ t ≤ l) g0 g0 := Step.refl _ _
 unfold F.hash_state_stir at hs
 refine CP.seqR ?_
 refine WP.stl 1 ?_
 refine WP.dn ?_
 refine NX.then_n ?_
 refine CP.block ?_
 generalize fuel = k1 at hs
 refine CP.loop (fun k1 tm g => ∃ (x13 : Int) (x14 : Int) (x15 : Int) (x16 : Int) (x17 : Int), Fr 38 [(0, .pointer (some ⟨b1, 0, none⟩)), (3, .int .i64 x17)] tm ∧ Step (fun l => (WL [m0]) l ∨ t ≤ l) g0 g ∧ Box g m0 b1 161 [[.int .u64 x13], [.int .u64 x14], [.int .u64 x15], [.int .u64 x16]] [1, 1, 1, 1] ∧ F.hash_state_stir.l1 k1 x13 x14 x15 x16 x17 = some (o1, o2, o3, o4)) k1 ?_ ?_ ?_
 ·exact ⟨x1, x2, x3, x4, 0, ⟨by kernel_rfl, by kernel_rfl⟩, tot, hB1, hs⟩
 ·rintro tm g ⟨x13, x14, x15, x16, x17, hF, tot, hB1, hs⟩
  exact absurd hs (by simp [F.hash_state_stir.l1])
 clear tot hs hB1
 rintro k1 tm g ⟨x13, x14, x15, x16, x17, hF, tot, hB1, hs⟩
 clear ds
 obtain ⟨ds, rfl⟩ := hF.open
 clear hF
 unfold F.hash_state_stir.l1 at hs
 refine CP.seqR ?_
 refine WP.stl 1 ?_
 refine WP.dn ?_
 refine NX.then_n ?_
 refine CP.seq ?_
 refine CP.cond (b := decide (x17 < 6)) (by kernel_rfl) (fun h3 => ?_) (fun h3 => ?_)
 ·replace hs := of_if_t hs h3
  refine CP.skip ?_
  refine NX.then_n ?_
  refine CP.seq ?_
  refine CP.block ?_
  refine CP.seqR ?_
  refine WP.stl 2 ?_
  refine WP.dn ?_
  refine NX.then_n ?_
  refine CP.seq ?_
  refine CP.drawL (by kernel_rfl) [4, 8, 16] N.hash_state_stir_0 [⟨none, [0], [], fun l g => Box g m0 b1 161 [[.int .u64 x13], [.int .u64 x14], [.int .u64 x15], [.int .u64 x16]] [1, 1, 1, 1]⟩, ⟨some 0, [], [0], fun l g => l.getD 0 undef = .int .u64 x13⟩, ⟨some 1, [], [1], fun l g => l.getD 0 undef = .int .u64 x14⟩, ⟨some 2, [0], [], fun l g => Box g m0 b1 161 [[.int .u64 (bitXor .u64 (IntKind.u64.wrap (x13 + x14)) (IntKind.u64.wrap (IntKind.i64.wrap (x17 + 1))))], [.int .u64 x14], [.int .u64 x15], [.int .u64 x16]] [1, 1, 1, 1]⟩] [[], [], [0]] [m0] [0, 1, 2, 3, 5, 6, 7, 10, 11, 12, 14, 15] [9, 13] (by kernel_rfl) (by simp <;> omega) (by simp) ⟨fun _ _ _ _ st h0 hl hj hB1 => (hB1.mono st (hj 0 (by simp) _ rfl)), fun _ _ _ _ st h0 hl hj e0 => e0, fun _ _ _ _ st h0 hl hj e1 => e1, fun _ _ _ _ st h0 hl hj hB1 => (hB1.mono st (hj 0 (by simp) _ rfl)), tv⟩ ⟨hB1, tv, tv, tv, tv⟩ (by kernel_rfl) (fun vs => by kernel_rfl) ?_ ?_ ?_
  ·intro j hj
   have hq : j = 0 ∨ j = 1 := by have h : j < 2 := hj; omega
   rcases hq with rfl | rfl
   ·intro vs gq stq hl hf
    obtain ⟨v0, v1, v2, rfl⟩ := len_k3 hl
    have e0 := (show v0 = .int .u64 x13 from hf _ (memI 1 rfl) (by kernel_rfl))
    subst e0
    have e1 := (show v1 = .int .u64 x14 from hf _ (memI 2 rfl) (by kernel_rfl))
    subst e1
    show Option.isSome _ = true
    kernel_rfl
   ·intro vs gq stq hl hf
    obtain ⟨v0, v1, v2, rfl⟩ := len_k3 hl
    have e0 := (show v0 = .int .u64 x13 from hf _ (memI 1 rfl) (by kernel_rfl))
    subst e0
    have e1 := (show v1 = .int .u64 x14 from hf _ (memI 2 rfl) (by kernel_rfl))
    subst e1
    show Option.isSome _ = true
    kernel_rfl
  ·intro j hj
   have hq : j = 0 ∨ j = 1 ∨ j = 2 := by have h : j < 3 := hj; omega
   rcases hq with rfl | rfl | rfl
   ·intro vs gq stq hl hf
    obtain ⟨v0, v1, v2, rfl⟩ := len_k3 hl
    have hB1 := (show Box gq m0 b1 161 [[.int .u64 x13], [.int .u64 x14], [.int .u64 x15], [.int .u64 x16]] [1, 1, 1, 1] from hf _ (memI 0 rfl) (by kernel_rfl))
    refine WP.loadB (v := .int .u64 x13) hB1 (by kernel_rfl) (by kernel_rfl) ?_
    refine WP.dn (Shown.ok (v := .int .u64 x13) (by kernel_rfl) (Step.refl _ _) ?_)
    exact ⟨tv, rfl, tv, tv, tv⟩
   ·intro vs gq stq hl hf
    obtain ⟨v0, v1, v2, rfl⟩ := len_k3 hl
    have hB1 := (show Box gq m0 b1 161 [[.int .u64 x13], [.int .u64 x14], [.int .u64 x15], [.int .u64 x16]] [1, 1, 1, 1] from hf _ (memI 0 rfl) (by kernel_rfl))
    refine WP.loadB (v := .int .u64 x14) hB1 (by kernel_rfl) (by kernel_rfl) ?_
    refine WP.dn (Shown.ok (v := .int .u64 x14) (by kernel_rfl) (Step.refl _ _) ?_)
    exact ⟨tv, tv, rfl, tv, tv⟩
   ·intro vs gq stq hl hf
    obtain ⟨v0, v1, v2, rfl⟩ := len_k3 hl
    have hB1 := (show Box gq m0 b1 161 [[.int .u64 x13], [.int .u64 x14], [.int .u64 x15], [.int .u64 x16]] [1, 1, 1, 1] from hf _ (memI 0 rfl) (by kernel_rfl))
    have e0 := (show v0 = .int .u64 x13 from hf _ (memI 1 rfl) (by kernel_rfl))
    subst e0
    have e1 := (show v1 = .int .u64 x14 from hf _ (memI 2 rfl) (by kernel_rfl))
    subst e1
    refine WP.storeB (ty := 95) (off := 0) (v := .int .u64 (bitXor .u64 (IntKind.u64.wrap (x13 + x14)) (IntKind.u64.wrap (IntKind.i64.wrap (x17 + 1))))) hB1 [[.int .u64 (bitXor .u64 (IntKind.u64.wrap (x13 + x14)) (IntKind.u64.wrap (IntKind.i64.wrap (x17 + 1))))]] [1] (by kernel_rfl) (by kernel_rfl) rfl (by kernel_rfl) [[.int .u64 (bitXor .u64 (IntKind.u64.wrap (x13 + x14)) (IntKind.u64.wrap (IntKind.i64.wrap (x17 + 1))))], [.int .u64 x14], [.int .u64 x15], [.int .u64 x16]] (by kernel_rfl) (.one rfl .nil) ?_
    intro g9 st9 hB10
    refine WP.dn (Shown.o (v := undef) st9 ?_)
    exact ⟨tv, tv, tv, hB10, tv⟩
  intro vs g10 st10 hl hf
  obtain ⟨v0, v1, v2, rfl⟩ := len_k3 hl
  have hB1 := (show Box g10 m0 b1 161 [[.int .u64 (bitXor .u64 (IntKind.u64.wrap (x13 + x14)) (IntKind.u64.wrap (IntKind.i64.wrap (x17 + 1))))], [.int .u64 x14], [.int .u64 x15], [.int .u64 x16]] [1, 1, 1, 1] from hf _ (memI 3 rfl) (by kernel_rfl))
  replace tot := tot.trans (st10.up1 (.inl (by simp [WL])))
  refine NX.then_n ?_
  refine CP.refr 38 [(0, .pointer (some ⟨b1, 0, none⟩)), (3, .int .i64 x17)] (by kernel_rfl) (by kernel_rfl) ?_
  clear ds
  intro ds
  refine CP.seqR ?_
  refine WP.stl 1 ?_
  replace hs := Option.bind_eq_some_iff.1 hs
  obtain ⟨⟨x31, x32, x33, x34⟩, hk5, hs⟩ := hs
  dsimp only at hs
  have hcal5 := P.hash_state_mix g10 m0 (bitXor .u64 (IntKind.u64.wrap (x13 + x14)) (IntKind.u64.wrap (IntKind.i64.wrap (x17 + 1)))) x14 x15 x16 32 24 b1 hB1 (by omega) x31 x32 x33 x34 hk5
  refine WP.callC hcal5 (by kernel_rfl) ?_
  rintro _ g11 st11 ⟨rfl, hB11⟩
  replace tot := tot.trans (st11.up1 (.inl (by simp [WL])))
  clear hB1
  have hB1 := hB11
  clear hB11
  refine WP.dn ?_
  refine NX.then_n ?_
  refine CP.seq ?_
  refine CP.drawL (by kernel_rfl) [3, 7, 11] N.hash_state_stir_1 [⟨none, [0], [], fun l g => Box g m0 b1 161 [[.int .u64 x31], [.int .u64 x32], [.int .u64 x33], [.int .u64 x34]] [1, 1, 1, 1]⟩, ⟨some 0, [], [0], fun l g => l.getD 0 undef = .int .u64 x31⟩, ⟨some 1, [], [1], fun l g => l.getD 0 undef = .int .u64 x32⟩, ⟨some 2, [0], [], fun l g => Box g m0 b1 161 [[.int .u64 (IntKind.u64.wrap (x31 + x32))], [.int .u64 x32], [.int .u64 x33], [.int .u64 x34]] [1, 1, 1, 1]⟩] [[], [], [0]] [m0] [0, 1, 2, 4, 5, 6, 9, 10] [8] (by kernel_rfl) (by simp <;> omega) (by simp) ⟨fun _ _ _ _ st h0 hl hj hB1 => (hB1.mono st (hj 0 (by simp) _ rfl)), fun _ _ _ _ st h0 hl hj e0 => e0, fun _ _ _ _ st h0 hl hj e1 => e1, fun _ _ _ _ st h0 hl hj hB1 => (hB1.mono st (hj 0 (by simp) _ rfl)), tv⟩ ⟨hB1, tv, tv, tv, tv⟩ (by kernel_rfl) (fun vs => by kernel_rfl) ?_ ?_ ?_
  ·intro j hj
   have hq : j = 0 := by have h : j < 1 := hj; omega
   rcases hq with rfl
   ·intro vs gq stq hl hf
    obtain ⟨v0, v1, v2, rfl⟩ := len_k3 hl
    have e0 := (show v0 = .int .u64 x31 from hf _ (memI 1 rfl) (by kernel_rfl))
    subst e0
    have e1 := (show v1 = .int .u64 x32 from hf _ (memI 2 rfl) (by kernel_rfl))
    subst e1
    show Option.isSome _ = true
    kernel_rfl
  ·intro j hj
   have hq : j = 0 ∨ j = 1 ∨ j = 2 := by have h : j < 3 := hj; omega
   rcases hq with rfl | rfl | rfl
   ·intro vs gq stq hl hf
    obtain ⟨v0, v1, v2, rfl⟩ := len_k3 hl
    have hB1 := (show Box gq m0 b1 161 [[.int .u64 x31], [.int .u64 x32], [.int .u64 x33], [.int .u64 x34]] [1, 1, 1, 1] from hf _ (memI 0 rfl) (by kernel_rfl))
    refine WP.loadB (v := .int .u64 x31) hB1 (by kernel_rfl) (by kernel_rfl) ?_
    refine WP.dn (Shown.ok (v := .int .u64 x31) (by kernel_rfl) (Step.refl _ _) ?_)
    exact ⟨tv, rfl, tv, tv, tv⟩
   ·intro vs gq stq hl hf
    obtain ⟨v0, v1, v2, rfl⟩ := len_k3 hl
    have hB1 := (show Box gq m0 b1 161 [[.int .u64 x31], [.int .u64 x32], [.int .u64 x33], [.int .u64 x34]] [1, 1, 1, 1] from hf _ (memI 0 rfl) (by kernel_rfl))
    refine WP.loadB (v := .int .u64 x32) hB1 (by kernel_rfl) (by kernel_rfl) ?_
    refine WP.dn (Shown.ok (v := .int .u64 x32) (by kernel_rfl) (Step.refl _ _) ?_)
    exact ⟨tv, tv, rfl, tv, tv⟩
   ·intro vs gq stq hl hf
    obtain ⟨v0, v1, v2, rfl⟩ := len_k3 hl
    have hB1 := (show Box gq m0 b1 161 [[.int .u64 x31], [.int .u64 x32], [.int .u64 x33], [.int .u64 x34]] [1, 1, 1, 1] from hf _ (memI 0 rfl) (by kernel_rfl))
    have e0 := (show v0 = .int .u64 x31 from hf _ (memI 1 rfl) (by kernel_rfl))
    subst e0
    have e1 := (show v1 = .int .u64 x32 from hf _ (memI 2 rfl) (by kernel_rfl))
    subst e1
    refine WP.storeB (ty := 95) (off := 0) (v := .int .u64 (IntKind.u64.wrap (x31 + x32))) hB1 [[.int .u64 (IntKind.u64.wrap (x31 + x32))]] [1] (by kernel_rfl) (by kernel_rfl) rfl (by kernel_rfl) [[.int .u64 (IntKind.u64.wrap (x31 + x32))], [.int .u64 x32], [.int .u64 x33], [.int .u64 x34]] (by kernel_rfl) (.one rfl .nil) ?_
    intro g12 st12 hB12
    refine WP.dn (Shown.o (v := undef) st12 ?_)
    exact ⟨tv, tv, tv, hB12, tv⟩
  intro vs g13 st13 hl hf
  obtain ⟨v0, v1, v2, rfl⟩ := len_k3 hl
  have hB1 := (show Box g13 m0 b1 161 [[.int .u64 (IntKind.u64.wrap (x31 + x32))], [.int .u64 x32], [.int .u64 x33], [.int .u64 x34]] [1, 1, 1, 1] from hf _ (memI 3 rfl) (by kernel_rfl))
  replace tot := tot.trans (st13.up1 (.inl (by simp [WL])))
  refine NX.then_n ?_
  refine CP.refr 38 [(0, .pointer (some ⟨b1, 0, none⟩)), (3, .int .i64 x17)] (by kernel_rfl) (by kernel_rfl) ?_
  clear ds
  intro ds
  refine CP.region ?_
  refine WP.stl 1 ?_
  replace hs := Option.bind_eq_some_iff.1 hs
  obtain ⟨⟨x35, x36, x37, x38⟩, hk6, hs⟩ := hs
  dsimp only at hs
  have hcal6 := P.hash_state_mix g13 m0 (IntKind.u64.wrap (x31 + x32)) x32 x33 x34 16 63 b1 hB1 (by omega) x35 x36 x37 x38 hk6
  refine WP.callC hcal6 (by kernel_rfl) ?_
  rintro _ g14 st14 ⟨rfl, hB13⟩
  replace tot := tot.trans (st14.up1 (.inl (by simp [WL])))
  clear hB1
  have hB1 := hB13
  clear hB13
  refine WP.dn ?_
  refine NX.block_n ?_
  refine NX.then_n ?_
  refine CP.region ?_
  refine WP.stl 2 ?_
  refine WP.dn ?_
  refine NX.post ?_
  exact ⟨x35, x36, x37, x38, (IntKind.i64.wrap (x17 + 1)), ⟨by kernel_rfl, by kernel_rfl⟩, tot, hB1, hs⟩
 replace hs := of_if_f hs h3
 refine CP.exit ?_
 refine NX.then_e ?_
 refine NX.then_e ?_
 refine NX.block_s ?_
 replace hs := Option.some.inj hs
 simp only [Prod.mk.injEq] at hs
 obtain ⟨rfl, rfl, rfl, rfl⟩ := hs
 exact NX.finE (v := .tuple #[]) (Res.still (by kernel_rfl)) tot htL ⟨rfl, hB1⟩
def N.hash_state_take_0 : List (List Nat) := [[], [0], [0, 1], [0, 1, 2], [], [0, 1, 2, 3, 4], [0], [0, 1, 2, 3, 4, 5, 6], [0, 1, 2, 3, 4, 5, 6, 7]]
def F.hash_state_take (x1 : Int) (x2 : Int) (x3 : Int) (x4 : Int) (x5 : Int) : Option (Int × Int × Int × Int) := ((F.hash_state_stir (bitXor .u64 x1 x5) x2 x3 x4).bind fun (x6, x7, x8, x9) => (some (x6, x7, x8, x9)))
theorem P.hash_state_take (g0 : GW) (m0 : Nat) (x1 : Int) (x2 : Int) (x3 : Int) (x4 : Int) (x5 : Int) (b1 : Nat) (hB1 : Box g0 m0 b1 161 [[.int .u64 x1], [.int .u64 x2], [.int .u64 x3], [.int .u64 x4]] [1, 1, 1, 1]) (hm0 : m0 ≠ 0) (o1 : Int) (o2 : Int) (o3 : Int) (o4 : Int) (hs : F.hash_state_take x1 x2 x3 x4 x5 = some (o1, o2, o3, o4)) :
  Calls Try.prog 100 #[.pointer (some ⟨b1, 0, none⟩), .int .u64 x5] g0.w (Ret (WL [m0]) g0 fun v g => v = .tuple #[] ∧ Box g m0 b1 161 [[.int .u64 o1], [.int .u64 o2], [.int .u64 o3], [.int .u64 o4]] [1, 1, 1, 1]) := by
 refine calls_of (args := [.pointer (some ⟨b1, 0, none⟩), .int .u64 x5]) Try.func100 rfl (m0 + 0) ?_
 intro t ht htL
 refine ⟨_, rfl, ?_⟩
 refine CP.refr 14 [(0, .pointer (some ⟨b1, 0, none⟩)), (1, .int .u64 x5)] (by kernel_rfl) (by kernel_rfl) ?_
 intro ds
 have tot : Step (fun l => (WL [m0]) l ∨ t ≤ l) g0 g0 := Step.refl _ _
 unfold F.hash_state_take at hs
 refine CP.seq ?_
 refine CP.drawL (by kernel_rfl) [3, 8] N.hash_state_take_0 [⟨none, [0], [], fun l g => Box g m0 b1 161 [[.int .u64 x1], [.int .u64 x2], [.int .u64 x3], [.int .u64 x4]] [1, 1, 1, 1]⟩, ⟨some 0, [], [0], fun l g => l.getD 0 undef = .int .u64 x1⟩, ⟨some 1, [0], [], fun l g => Box g m0 b1 161 [[.int .u64 (bitXor .u64 x1 x5)], [.int .u64 x2], [.int .u64 x3], [.int .u64 x4]] [1, 1, 1, 1]⟩] [[], [0]] [m0] [0, 1, 2, 4, 6, 7] [5] (by kernel_rfl) (by simp <;> omega) (by simp) ⟨fun _ _ _ _ st h0 hl hj hB1 => (hB1.mono st (hj 0 (by simp) _ rfl)), fun _ _ _ _ st h0 hl hj e0 => e0, fun _ _ _ _ st h0 hl hj hB1 => (hB1.mono st (hj 0 (by simp) _ rfl)), tv⟩ ⟨hB1, tv, tv, tv⟩ (by kernel_rfl) (fun vs => by kernel_rfl) ?_ ?_ ?_
 ·intro j hj
  have hq : j = 0 := by have h : j < 1 := hj; omega
  rcases hq with rfl
  ·intro vs gq stq hl hf
   obtain ⟨v0, v1, rfl⟩ := len_k2 hl
   have e0 := (show v0 = .int .u64 x1 from hf _ (memI 1 rfl) (by kernel_rfl))
   subst e0
   show Option.isSome _ = true
   kernel_rfl
 ·intro j hj
  have hq : j = 0 ∨ j = 1 := by have h : j < 2 := hj; omega
  rcases hq with rfl | rfl
  ·intro vs gq stq hl hf
   obtain ⟨v0, v1, rfl⟩ := len_k2 hl
   have hB1 := (show Box gq m0 b1 161 [[.int .u64 x1], [.int .u64 x2], [.int .u64 x3], [.int .u64 x4]] [1, 1, 1, 1] from hf _ (memI 0 rfl) (by kernel_rfl))
   refine WP.loadB (v := .int .u64 x1) hB1 (by kernel_rfl) (by kernel_rfl) ?_
   refine WP.dn (Shown.ok (v := .int .u64 x1) (by kernel_rfl) (Step.refl _ _) ?_)
   exact ⟨tv, rfl, tv, tv⟩
  ·intro vs gq stq hl hf
   obtain ⟨v0, v1, rfl⟩ := len_k2 hl
   have hB1 := (show Box gq m0 b1 161 [[.int .u64 x1], [.int .u64 x2], [.int .u64 x3], [.int .u64 x4]] [1, 1, 1, 1] from hf _ (memI 0 rfl) (by kernel_rfl))
   have e0 := (show v0 = .int .u64 x1 from hf _ (memI 1 rfl) (by kernel_rfl))
   subst e0
   refine WP.storeB (ty := 95) (off := 0) (v := .int .u64 (bitXor .u64 x1 x5)) hB1 [[.int .u64 (bitXor .u64 x1 x5)]] [1] (by kernel_rfl) (by kernel_rfl) rfl (by kernel_rfl) [[.int .u64 (bitXor .u64 x1 x5)], [.int .u64 x2], [.int .u64 x3], [.int .u64 x4]] (by kernel_rfl) (.one rfl .nil) ?_
   intro g1 st1 hB2
   refine WP.dn (Shown.o (v := undef) st1 ?_)
   exact ⟨tv, tv, hB2, tv⟩
 intro vs g2 st2 hl hf
 obtain ⟨v0, v1, rfl⟩ := len_k2 hl
 have hB1 := (show Box g2 m0 b1 161 [[.int .u64 (bitXor .u64 x1 x5)], [.int .u64 x2], [.int .u64 x3], [.int .u64 x4]] [1, 1, 1, 1] from hf _ (memI 2 rfl) (by kernel_rfl))
 replace tot := tot.trans (st2.up1 (.inl (by simp [WL])))
 refine NX.then_n ?_
 refine CP.refr 14 [(0, .pointer (some ⟨b1, 0, none⟩))] (by kernel_rfl) (by kernel_rfl) ?_
 clear ds
 intro ds
 refine CP.region ?_
 refine WP.stl 1 ?_
 replace hs := Option.bind_eq_some_iff.1 hs
 obtain ⟨⟨x6, x7, x8, x9⟩, hk1, hs⟩ := hs
 dsimp only at hs
 have hcal1 := P.hash_state_stir g2 m0 (bitXor .u64 x1 x5) x2 x3 x4 b1 hB1 (by omega) x6 x7 x8 x9 hk1
 refine WP.callC hcal1 (by kernel_rfl) ?_
 rintro _ g3 st3 ⟨rfl, hB3⟩
 replace tot := tot.trans (st3.up1 (.inl (by simp [WL])))
 clear hB1
 have hB1 := hB3
 clear hB3
 refine WP.dn ?_
 replace hs := Option.some.inj hs
 simp only [Prod.mk.injEq] at hs
 obtain ⟨rfl, rfl, rfl, rfl⟩ := hs
 exact NX.finE (v := .tuple #[]) (Res.still (by kernel_rfl)) tot htL ⟨rfl, hB1⟩
def N.hash_state_bytes_0 : List (List Nat) := [[], [], [1], [], [3], [3, 4], [3, 4, 5], [1, 2, 3, 4, 5, 6], [0, 1, 2, 3, 4, 5, 6, 7]]
def F.hash_state_bytes.l1 (l1 : List Int) : Nat → Int → Int → Int → Int → (List Int) → Option (Int × Int × Int × Int)
 | 0, _, _, _, _, _ => none
 | k + 1, x19, x20, x21, x22, l2 => (if decide ((l2.length : Int) ≥ 8) = true then (if (0 : Int) ≤ 0 ∧ (0 : Int) ≤ 8 ∧ 8 ≤ (l2.length : Int) then ((F.hash_number (sliceI l2 0 8)).bind fun x41 => ((F.hash_state_take x19 x20 x21 x22 x41).bind fun (x42, x43, x44, x45) => (if (0 : Int) ≤ 8 ∧ 8 ≤ (l2.length : Int) ∧ (l2.length : Int) ≤ (l2.length : Int) then (F.hash_state_bytes.l1 l1 k x42 x43 x44 x45 (sliceI l2 8 (l2.length : Int))) else none))) else none) else ((F.hash_number l2).bind fun x46 => (if (0 : Int) ≤ (IntKind.i64.wrap (8 * (l2.length : Int))) then ((F.hash_state_take x19 x20 x21 x22 (bitOr .u64 x46 (shV true .u64 1 (IntKind.i64.wrap (8 * (l2.length : Int)))))).bind fun (x47, x48, x49, x50) => ((F.hash_state_take x47 x48 x49 x50 (IntKind.u64.wrap (l1.length : Int))).bind fun (x51, x52, x53, x54) => (some (x51, x52, x53, x54)))) else none)))
def F.hash_state_bytes (x1 : Int) (x2 : Int) (x3 : Int) (x4 : Int) (l1 : List Int) : Option (Int × Int × Int × Int) := (F.hash_state_bytes.l1 l1 fuel x1 x2 x3 x4 l1)
theorem P.hash_state_bytes (g0 : GW) (m0 : Nat) (x1 : Int) (x2 : Int) (x3 : Int) (x4 : Int) (l1 : List Int) (a1 : Option Addr) (n1 : Nat) (c1 : Nat) (b1 : Nat) (hR1 : RdS (Kd.int .u8) g0 5 a1 n1 c1 l1) (hB1 : Box g0 m0 b1 161 [[.int .u64 x1], [.int .u64 x2], [.int .u64 x3], [.int .u64 x4]] [1, 1, 1, 1]) (hm0 : m0 ≠ 0) (o1 : Int) (o2 : Int) (o3 : Int) (o4 : Int) (hs : F.hash_state_bytes x1 x2 x3 x4 l1 = some (o1, o2, o3, o4)) :
  Calls Try.prog 93 #[.pointer (some ⟨b1, 0, none⟩), .slice a1 n1 c1] g0.w (Ret (WL [m0]) g0 fun v g => v = .tuple #[] ∧ Box g m0 b1 161 [[.int .u64 o1], [.int .u64 o2], [.int .u64 o3], [.int .u64 o4]] [1, 1, 1, 1]) := by
 refine calls_of (args := [.pointer (some ⟨b1, 0, none⟩), .slice a1 n1 c1]) Try.func93 rfl (m0 + 0) ?_
 intro t ht htL
 refine ⟨_, rfl, ?_⟩
 refine CP.refr 30 [(0, .pointer (some ⟨b1, 0, none⟩)), (1, .slice a1 n1 c1)] (by kernel_rfl) (by kernel_rfl) ?_
 intro ds
 have tot : Step (fun l => (WL [m0]) l ∨ t ≤ l) g0 g0 := Step.refl _ _
 unfold F.hash_state_bytes at hs
 refine CP.seqR ?_
 refine WP.stl 1 ?_
 refine WP.len (a := a1) (cp := c1) hR1.len (by kernel_rfl) ?_
 refine WP.stl 1 ?_
 refine WP.dn ?_
 refine NX.then_n ?_
 refine CP.seq ?_
 refine CP.block ?_
 generalize fuel = k1 at hs
 refine CP.loop (fun k1 tm g => ∃ (x19 : Int) (x20 : Int) (x21 : Int) (x22 : Int) (l2 : List Int) (a4 : Option Addr) (n2 : Nat) (c4 : Nat), Fr 30 [(0, .pointer (some ⟨b1, 0, none⟩)), (1, .slice a4 n2 c4), (4, .int .i64 (l1.length : Int))] tm ∧ Step (fun l => (WL [m0]) l ∨ t ≤ l) g0 g ∧ Box g m0 b1 161 [[.int .u64 x19], [.int .u64 x20], [.int .u64 x21], [.int .u64 x22]] [1, 1, 1, 1] ∧ RdS (Kd.int .u8) g 5 a4 n2 c4 l2 ∧ F.hash_state_bytes.l1 l1 k1 x19 x20 x21 x22 l2 = some (o1, o2, o3, o4)) k1 ?_ ?_ ?_
 ·exact ⟨x1, x2, x3, x4, l1, a1, n1, c1, ⟨by kernel_rfl, by kernel_rfl⟩, tot, hB1, hR1, hs⟩
 ·rintro tm g ⟨x19, x20, x21, x22, l2, a4, n2, c4, hF, tot, hB1, hR4, hs⟩
  exact absurd hs (by simp [F.hash_state_bytes.l1])
 clear tot hs hB1 hR1
 rintro k1 tm g ⟨x19, x20, x21, x22, l2, a4, n2, c4, hF, tot, hB1, hR4, hs⟩
 clear ds
 obtain ⟨ds, rfl⟩ := hF.open
 clear hF
 unfold F.hash_state_bytes.l1 at hs
 refine CP.seq ?_
 refine CP.seqR ?_
 refine WP.stl 1 ?_
 refine WP.len (a := a4) (cp := c4) hR4.len (by kernel_rfl) ?_
 refine WP.stl 1 ?_
 refine WP.dn ?_
 refine NX.then_n ?_
 refine CP.cond (b := decide ((l2.length : Int) ≥ 8)) (by kernel_rfl) (fun h3 => ?_) (fun h3 => ?_)
 ·replace hs := of_if_t hs h3
  refine CP.skip ?_
  refine NX.then_n ?_
  refine CP.block ?_
  refine CP.seqR ?_
  refine WP.stl 2 ?_
  by_cases hc7 : (0 : Int) ≤ 0 ∧ (0 : Int) ≤ 8 ∧ 8 ≤ (l2.length : Int)
  case neg => rw [if_neg hc7] at hs; cases hs
  replace hs := of_if_p hs hc7
  refine WP.sliceR (lo := none) (hi := some (.int .i64 8)) hR4 0 8 (by kernel_rfl) (.inl ⟨rfl, rfl⟩) (.inr ⟨_, rfl⟩) hc7 ?_
  intro a8 c8 hR8
  replace hs := Option.bind_eq_some_iff.1 hs
  obtain ⟨x41, hk11, hs⟩ := hs
  have hcal11 := P.hash_number g (sliceI l2 0 8) a8 ((8 : Int).toNat - (0 : Int).toNat) c8 hR8 x41 hk11
  refine WP.callC hcal11 (by kernel_rfl) ?_
  rintro _ g11 st11 rfl
  replace hB1 := hB1.mono st11 (fun x => x)
  replace hR4 := hR4.mono st11 (fun x => x)
  replace hR8 := hR8.mono st11 (fun x => x)
  replace tot := tot.trans st11.pure
  replace hs := Option.bind_eq_some_iff.1 hs
  obtain ⟨⟨x42, x43, x44, x45⟩, hk12, hs⟩ := hs
  dsimp only at hs
  have hcal12 := P.hash_state_take g11 m0 x19 x20 x21 x22 x41 b1 hB1 (by omega) x42 x43 x44 x45 hk12
  refine WP.callC hcal12 (by kernel_rfl) ?_
  rintro _ g12 st12 ⟨rfl, hB8⟩
  replace hR4 := hR4.mono st12 (WL.no1 (by omega))
  replace hR8 := hR8.mono st12 (WL.no1 (by omega))
  replace tot := tot.trans (st12.up1 (.inl (by simp [WL])))
  clear hB1
  have hB1 := hB8
  clear hB8
  refine WP.dn ?_
  refine NX.then_n ?_
  refine CP.region ?_
  refine WP.stl 1 ?_
  by_cases hc8 : (0 : Int) ≤ 8 ∧ 8 ≤ (l2.length : Int) ∧ (l2.length : Int) ≤ (l2.length : Int)
  case neg => rw [if_neg hc8] at hs; cases hs
  replace hs := of_if_p hs hc8
  refine WP.sliceR (lo := some (.int .i64 8)) (hi := none) hR4 8 (l2.length : Int) (by kernel_rfl) (.inr ⟨_, rfl⟩) (.inl ⟨rfl, rfl⟩) hc8 ?_
  intro a9 c9 hR9
  refine WP.stl 1 ?_
  refine WP.dn ?_
  refine NX.block_n ?_
  refine NX.post ?_
  exact ⟨x42, x43, x44, x45, (sliceI l2 8 (l2.length : Int)), a9, ((l2.length : Int).toNat - (8 : Int).toNat), c9, ⟨by kernel_rfl, by kernel_rfl⟩, tot, hB1, hR9, hs⟩
 replace hs := of_if_f hs h3
 refine CP.exit ?_
 refine NX.then_e ?_
 refine NX.then_e ?_
 refine NX.block_s ?_
 refine NX.then_n ?_
 refine CP.seq ?_
 replace hs := Option.bind_eq_some_iff.1 hs
 obtain ⟨x46, hk13, hs⟩ := hs
 by_cases hc9 : (0 : Int) ≤ (IntKind.i64.wrap (8 * (l2.length : Int)))
 case neg => rw [if_neg hc9] at hs; cases hs
 replace hs := of_if_p hs hc9
 replace hs := Option.bind_eq_some_iff.1 hs
 obtain ⟨⟨x47, x48, x49, x50⟩, hk14, hs⟩ := hs
 dsimp only at hs
 refine CP.drawL (by kernel_rfl) [2, 4, 6, 8] N.hash_state_bytes_0 [⟨none, [0], [], fun l g => Box g m0 b1 161 [[.int .u64 x19], [.int .u64 x20], [.int .u64 x21], [.int .u64 x22]] [1, 1, 1, 1]⟩, ⟨none, [], [], fun l g => RdS (Kd.int .u8) g 5 a4 n2 c4 l2⟩, ⟨some 0, [], [0], fun l g => l.getD 0 undef = .int .u64 x46⟩, ⟨some 1, [], [1], fun l g => l.getD 0 undef = .int .i64 (l2.length : Int)⟩, ⟨some 2, [], [2], fun l g => l.getD 0 undef = .int .u64 (shV true .u64 1 (IntKind.i64.wrap (8 * (l2.length : Int))))⟩, ⟨some 3, [], [3], fun l g => l.getD 0 undef = .tuple #[]⟩, ⟨some 3, [0], [], fun l g => Box g m0 b1 161 [[.int .u64 x47], [.int .u64 x48], [.int .u64 x49], [.int .u64 x50]] [1, 1, 1, 1]⟩] [[], [], [], [0]] [m0] [0, 1, 3] [5, 7] (by kernel_rfl) (by simp <;> omega) (by simp) ⟨fun _ _ _ _ st h0 hl hj hB1 => (hB1.mono st (hj 0 (by simp) _ rfl)), fun _ _ _ _ st h0 hl hj hR4 => (RdS.mono (e := 5) hR4 st h0), fun _ _ _ _ st h0 hl hj e0 => e0, fun _ _ _ _ st h0 hl hj e1 => e1, fun _ _ _ _ st h0 hl hj e2 => e2, fun _ _ _ _ st h0 hl hj e3 => e3, fun _ _ _ _ st h0 hl hj hB1 => (hB1.mono st (hj 0 (by simp) _ rfl)), tv⟩ ⟨hB1, hR4, tv, tv, tv, tv, tv, tv⟩ (by kernel_rfl) (fun vs => by kernel_rfl) ?_ ?_ ?_
 ·intro j hj
  have hq : j = 0 ∨ j = 1 := by have h : j < 2 := hj; omega
  rcases hq with rfl | rfl
  ·intro vs gq stq hl hf
   obtain ⟨v0, v1, v2, v3, rfl⟩ := len_k4 hl
   have e1 := (show v1 = .int .i64 (l2.length : Int) from hf _ (memI 3 rfl) (by kernel_rfl))
   subst e1
   show Option.isSome _ = true
   kernel_rfl
  ·intro vs gq stq hl hf
   obtain ⟨v0, v1, v2, v3, rfl⟩ := len_k4 hl
   have e0 := (show v0 = .int .u64 x46 from hf _ (memI 2 rfl) (by kernel_rfl))
   subst e0
   have e2 := (show v2 = .int .u64 (shV true .u64 1 (IntKind.i64.wrap (8 * (l2.length : Int)))) from hf _ (memI 4 rfl) (by kernel_rfl))
   subst e2
   show Option.isSome _ = true
   kernel_rfl
 ·intro j hj
  have hq : j = 0 ∨ j = 1 ∨ j = 2 ∨ j = 3 := by have h : j < 4 := hj; omega
  rcases hq with rfl | rfl | rfl | rfl
  ·intro vs gq stq hl hf
   obtain ⟨v0, v1, v2, v3, rfl⟩ := len_k4 hl
   have hR4 := (show RdS (Kd.int .u8) gq 5 a4 n2 c4 l2 from hf _ (memI 1 rfl) (by kernel_rfl))
   have hcal13 := P.hash_number gq l2 a4 n2 c4 hR4 x46 hk13
   refine WP.callC hcal13 (by kernel_rfl) ?_
   rintro _ g13 st13 rfl
   refine WP.dn (Shown.o (v := .int .u64 x46) st13.pure ?_)
   exact ⟨tv, tv, rfl, tv, tv, tv, tv, tv⟩
  ·intro vs gq stq hl hf
   obtain ⟨v0, v1, v2, v3, rfl⟩ := len_k4 hl
   have hR4 := (show RdS (Kd.int .u8) gq 5 a4 n2 c4 l2 from hf _ (memI 1 rfl) (by kernel_rfl))
   refine WP.len (a := a4) (cp := c4) hR4.len (by kernel_rfl) ?_
   refine WP.dn (Shown.ok (v := .int .i64 (l2.length : Int)) (by kernel_rfl) (Step.refl _ _) ?_)
   exact ⟨tv, tv, tv, rfl, tv, tv, tv, tv⟩
  ·intro vs gq stq hl hf
   obtain ⟨v0, v1, v2, v3, rfl⟩ := len_k4 hl
   have e1 := (show v1 = .int .i64 (l2.length : Int) from hf _ (memI 3 rfl) (by kernel_rfl))
   subst e1
   refine WP.shift (left := true) (k := .u64) (yk := .i64) (x := 1) (y := (IntKind.i64.wrap (8 * (l2.length : Int)))) (by kernel_rfl) hc9 ?_
   refine WP.dn (Shown.ok (v := .int .u64 (shV true .u64 1 (IntKind.i64.wrap (8 * (l2.length : Int))))) (by kernel_rfl) (Step.refl _ _) ?_)
   exact ⟨tv, tv, tv, tv, rfl, tv, tv, tv⟩
  ·intro vs gq stq hl hf
   obtain ⟨v0, v1, v2, v3, rfl⟩ := len_k4 hl
   have hB1 := (show Box gq m0 b1 161 [[.int .u64 x19], [.int .u64 x20], [.int .u64 x21], [.int .u64 x22]] [1, 1, 1, 1] from hf _ (memI 0 rfl) (by kernel_rfl))
   have e0 := (show v0 = .int .u64 x46 from hf _ (memI 2 rfl) (by kernel_rfl))
   subst e0
   have e2 := (show v2 = .int .u64 (shV true .u64 1 (IntKind.i64.wrap (8 * (l2.length : Int)))) from hf _ (memI 4 rfl) (by kernel_rfl))
   subst e2
   have hcal14 := P.hash_state_take gq m0 x19 x20 x21 x22 (bitOr .u64 x46 (shV true .u64 1 (IntKind.i64.wrap (8 * (l2.length : Int))))) b1 hB1 (by omega) x47 x48 x49 x50 hk14
   refine WP.callC hcal14 (by kernel_rfl) ?_
   rintro _ g14 st14 ⟨rfl, hB9⟩
   refine WP.dn (Shown.o (v := .tuple #[]) st14 ?_)
   exact ⟨tv, tv, tv, tv, tv, rfl, hB9, tv⟩
 intro vs g15 st15 hl hf
 obtain ⟨v0, v1, v2, v3, rfl⟩ := len_k4 hl
 have hB1 := (show Box g15 m0 b1 161 [[.int .u64 x47], [.int .u64 x48], [.int .u64 x49], [.int .u64 x50]] [1, 1, 1, 1] from hf _ (memI 6 rfl) (by kernel_rfl))
 replace tot := tot.trans (st15.up1 (.inl (by simp [WL])))
 refine NX.then_n ?_
 refine CP.refr 30 [(0, .pointer (some ⟨b1, 0, none⟩)), (4, .int .i64 (l1.length : Int))] (by kernel_rfl) (by kernel_rfl) ?_
 clear ds
 intro ds
 refine CP.region ?_
 refine WP.stl 3 ?_
 replace hs := Option.bind_eq_some_iff.1 hs
 obtain ⟨⟨x51, x52, x53, x54⟩, hk15, hs⟩ := hs
 dsimp only at hs
 have hcal15 := P.hash_state_take g15 m0 x47 x48 x49 x50 (IntKind.u64.wrap (l1.length : Int)) b1 hB1 (by omega) x51 x52 x53 x54 hk15
 refine WP.callC hcal15 (by kernel_rfl) ?_
 rintro _ g16 st16 ⟨rfl, hB10⟩
 replace tot := tot.trans (st16.up1 (.inl (by simp [WL])))
 clear hB1
 have hB1 := hB10
 clear hB10
 refine WP.dn ?_
 replace hs := Option.some.inj hs
 simp only [Prod.mk.injEq] at hs
 obtain ⟨rfl, rfl, rfl, rfl⟩ := hs
 exact NX.finE (v := .tuple #[]) (Res.still (by kernel_rfl)) tot htL ⟨rfl, hB1⟩
def N.hash_state_gives_0 : List (List Nat) := [[], [0], [0, 1], [0, 1, 2], [], [4], [4, 5], [4, 5, 6], [0, 1, 2, 3, 4, 5, 6, 7], [0, 1, 2, 3, 4, 5, 6, 7, 8]]
def F.hash_state_gives (x1 : Int) (x2 : Int) (x3 : Int) (x4 : Int) : Option (Int) := (some (bitXor .u64 x1 x3))
theorem P.hash_state_gives (g0 : GW) (m0 : Nat) (x1 : Int) (x2 : Int) (x3 : Int) (x4 : Int) (b1 : Nat) (hB1 : Box g0 m0 b1 161 [[.int .u64 x1], [.int .u64 x2], [.int .u64 x3], [.int .u64 x4]] [1, 1, 1, 1]) (hm0 : m0 ≠ 0) (o1 : Int) (hs : F.hash_state_gives x1 x2 x3 x4 = some o1) :
  Calls Try.prog 103 #[.pointer (some ⟨b1, 0, none⟩)] g0.w (Ret NoM g0 fun v g => v = .int .u64 o1) := by
 refine calls_of (args := [.pointer (some ⟨b1, 0, none⟩)]) Try.func103 rfl (m0 + 0) ?_
 intro t ht htL
 refine ⟨_, rfl, ?_⟩
 refine CP.refr 12 [(0, .pointer (some ⟨b1, 0, none⟩))] (by kernel_rfl) (by kernel_rfl) ?_
 intro ds
 have tot : Step (fun l => NoM l ∨ t ≤ l) g0 g0 := Step.refl _ _
 unfold F.hash_state_gives at hs
 refine CP.seqR ?_
 refine WP.stl 1 ?_
 refine WP.dn ?_
 refine NX.then_n ?_
 refine CP.seq ?_
 refine CP.drawL (by kernel_rfl) [3, 7] N.hash_state_gives_0 [⟨none, [], [], fun l g => Box g m0 b1 161 [[.int .u64 x1], [.int .u64 x2], [.int .u64 x3], [.int .u64 x4]] [1, 1, 1, 1]⟩, ⟨some 0, [], [0], fun l g => l.getD 0 undef = .int .u64 x1⟩, ⟨some 1, [], [1], fun l g => l.getD 0 undef = .int .u64 x3⟩] [[], []] [] [0, 1, 2, 4, 5, 6] [8, 9] (by kernel_rfl) (by simp) (by simp) ⟨fun _ _ _ _ st h0 hl hj hB1 => (hB1.mono st (fun h => absurd (hl _ h) (by simp))), fun _ _ _ _ st h0 hl hj e0 => e0, fun _ _ _ _ st h0 hl hj e1 => e1, tv⟩ ⟨hB1, tv, tv, tv⟩ (by kernel_rfl) (fun vs => by kernel_rfl) ?_ ?_ ?_
 ·intro j hj
  have hq : j = 0 ∨ j = 1 := by have h : j < 2 := hj; omega
  rcases hq with rfl | rfl
  ·intro vs gq stq hl hf
   obtain ⟨v0, v1, rfl⟩ := len_k2 hl
   have e0 := (show v0 = .int .u64 x1 from hf _ (memI 1 rfl) (by kernel_rfl))
   subst e0
   have e1 := (show v1 = .int .u64 x3 from hf _ (memI 2 rfl) (by kernel_rfl))
   subst e1
   show Option.isSome _ = true
   kernel_rfl
  ·intro vs gq stq hl hf
   obtain ⟨v0, v1, rfl⟩ := len_k2 hl
   have e0 := (show v0 = .int .u64 x1 from hf _ (memI 1 rfl) (by kernel_rfl))
   subst e0
   have e1 := (show v1 = .int .u64 x3 from hf _ (memI 2 rfl) (by kernel_rfl))
   subst e1
   show Option.isSome _ = true
   kernel_rfl
 ·intro j hj
  have hq : j = 0 ∨ j = 1 := by have h : j < 2 := hj; omega
  rcases hq with rfl | rfl
  ·intro vs gq stq hl hf
   obtain ⟨v0, v1, rfl⟩ := len_k2 hl
   have hB1 := (show Box gq m0 b1 161 [[.int .u64 x1], [.int .u64 x2], [.int .u64 x3], [.int .u64 x4]] [1, 1, 1, 1] from hf _ (memI 0 rfl) (by kernel_rfl))
   refine WP.loadB (v := .int .u64 x1) hB1 (by kernel_rfl) (by kernel_rfl) ?_
   refine WP.dn (Shown.ok (v := .int .u64 x1) (by kernel_rfl) (Step.refl _ _) ?_)
   exact ⟨tv, rfl, tv, tv⟩
  ·intro vs gq stq hl hf
   obtain ⟨v0, v1, rfl⟩ := len_k2 hl
   have hB1 := (show Box gq m0 b1 161 [[.int .u64 x1], [.int .u64 x2], [.int .u64 x3], [.int .u64 x4]] [1, 1, 1, 1] from hf _ (memI 0 rfl) (by kernel_rfl))
   refine WP.loadB (v := .int .u64 x3) hB1 (by kernel_rfl) (by kernel_rfl) ?_
   refine WP.dn (Shown.ok (v := .int .u64 x3) (by kernel_rfl) (Step.refl _ _) ?_)
   exact ⟨tv, tv, rfl, tv⟩
 intro vs g1 st1 hl hf
 obtain ⟨v0, v1, rfl⟩ := len_k2 hl
 have e0 := (show v0 = .int .u64 x1 from hf _ (memI 1 rfl) (by kernel_rfl))
 subst e0
 have e1 := (show v1 = .int .u64 x3 from hf _ (memI 2 rfl) (by kernel_rfl))
 subst e1
 replace tot := tot.trans st1.toNo.pure
 refine NX.then_n ?_
 refine CP.refr 12 [(2, .int .u64 (bitXor .u64 x1 x3))] (by kernel_rfl) (by kernel_rfl) ?_
 clear ds
 intro ds
 refine CP.ret ?_
 replace hs := Option.some.inj hs
 obtain rfl := hs
 exact NX.fin (v := .int .u64 (bitXor .u64 x1 x3)) (Res.still (by kernel_rfl)) tot htL rfl
def F.hash_FromNum.l1 (x1 : Int) : Nat → (Arr Int 8) → Int → Option ((Arr Int 8))
 | 0, _, _ => none
 | k + 1, d1, x2 => (if decide (x2 < 8) = true then (if (0 : Int) ≤ (IntKind.i64.wrap (8 * x2)) then (if (0 : Int) ≤ x2 ∧ x2 < (8 : Int) then (F.hash_FromNum.l1 x1 k (aset d1 x2 (IntKind.u8.wrap (shV false .u64 x1 (IntKind.i64.wrap (8 * x2))))) (IntKind.i64.wrap (x2 + 1))) else none) else none) else (some d1))
def F.hash_FromNum (x1 : Int) : Option ((Arr Int 8)) := (F.hash_FromNum.l1 x1 fuel (zA 8) 0)
theorem P.hash_FromNum (g0 : GW) (x1 : Int) (o1 : Arr Int 8) (hs : F.hash_FromNum x1 = some o1) :
  Calls Try.prog 102 #[.int .u64 x1] g0.w (Ret NoM g0 fun v g => v = AG [encA .u8 o1]) := by
 refine calls_of (args := [.int .u64 x1]) Try.func102 rfl (0) ?_
 intro t ht htL
 refine ⟨_, rfl, ?_⟩
 refine CP.refr 17 [(0, .int .u64 x1)] (by kernel_rfl) (by kernel_rfl) ?_
 intro ds
 have tot : Step (fun l => NoM l ∨ t ≤ l) g0 g0 := Step.refl _ _
 unfold F.hash_FromNum at hs
 refine CP.seqR ?_
 refine WP.alloc (T := 37) (t + 1) [encA .u8 (zA 8)] [8] (by kernel_rfl) (by simp [len_encA]) ?_
 intro g1 b1 st1 hB1
 replace tot := tot.trans st1.pure
 refine WP.dn ?_
 refine NX.then_n ?_
 refine CP.seqR ?_
 refine WP.alloc (T := 37) (t + 2) [encA .u8 (zA 8)] [8] (by kernel_rfl) (by simp [len_encA]) ?_
 intro g2 b2 st2 hB2
 replace hB1 := hB1.mono st2 (fun x => x)
 replace tot := tot.trans st2.pure
 refine WP.dn ?_
 refine NX.then_n ?_
 refine CP.seq ?_
 refine CP.seqR ?_
 refine WP.stl 1 ?_
 refine WP.dn ?_
 refine NX.then_n ?_
 refine CP.block ?_
 generalize fuel = k1 at hs
 refine CP.loop (fun k1 tm g => ∃ (d1 : Arr Int 8) (x2 : Int), Fr 17 [(0, .int .u64 x1), (2, .pointer (some ⟨b1, 0, none⟩)), (3, .pointer (some ⟨b2, 0, none⟩)), (5, .int .i64 x2)] tm ∧ Step (fun l => NoM l ∨ t ≤ l) g0 g ∧ Box g (t + 1) b1 37 [encA .u8 (zA 8)] [8] ∧ Box g (t + 2) b2 37 [encA .u8 d1] [8] ∧ F.hash_FromNum.l1 x1 k1 d1 x2 = some o1) k1 ?_ ?_ ?_
 ·exact ⟨(zA 8), 0, ⟨by kernel_rfl, by kernel_rfl⟩, tot, hB1, hB2, hs⟩
 ·rintro tm g ⟨d1, x2, hF, tot, hB1, hB2, hs⟩
  exact absurd hs (by simp [F.hash_FromNum.l1])
 clear tot hs hB1 hB2
 rintro k1 tm g ⟨d1, x2, hF, tot, hB1, hB2, hs⟩
 clear ds
 obtain ⟨ds, rfl⟩ := hF.open
 clear hF
 unfold F.hash_FromNum.l1 at hs
 refine CP.seqR ?_
 refine WP.stl 1 ?_
 refine WP.dn ?_
 refine NX.then_n ?_
 refine CP.seq ?_
 refine CP.cond (b := decide (x2 < 8)) (by kernel_rfl) (fun h3 => ?_) (fun h3 => ?_)
 ·replace hs := of_if_t hs h3
  refine CP.skip ?_
  refine NX.then_n ?_
  refine CP.seq ?_
  refine CP.block ?_
  refine CP.seqR ?_
  refine WP.stl 2 ?_
  refine WP.dn ?_
  refine NX.then_n ?_
  refine CP.region ?_
  refine WP.stl 4 ?_
  by_cases hc4 : (0 : Int) ≤ (IntKind.i64.wrap (8 * x2))
  case neg => rw [if_neg hc4] at hs; cases hs
  replace hs := of_if_p hs hc4
  refine WP.shift (left := false) (k := .u64) (yk := .i64) (x := x1) (y := (IntKind.i64.wrap (8 * x2))) (by kernel_rfl) hc4 ?_
  refine WP.stl 1 ?_
  by_cases hc5 : (0 : Int) ≤ x2 ∧ x2 < (8 : Int)
  case neg => rw [if_neg hc5] at hs; cases hs
  replace hs := of_if_p hs hc5
  refine WP.ixBox (t := 37) (e := 5) (m := 8) (size := 1) (b := b2) (off := 0) (k := .i64) (i := x2) (by kernel_rfl) (by kernel_rfl) hc5 ?_
  refine WP.storeE (ty := 5) (o := 0) (m := 8) (k := .u8) (d := d1) (i := x2) (x := (IntKind.u8.wrap (shV false .u64 x1 (IntKind.i64.wrap (8 * x2))))) hB2 (by kernel_rfl) hc5 (by kernel_rfl) (by kernel_rfl) [encA .u8 (aset d1 x2 (IntKind.u8.wrap (shV false .u64 x1 (IntKind.i64.wrap (8 * x2)))))] (by kernel_rfl) ?_
  intro g7 st7 hB7
  replace hB1 := hB1.mono st7 (WL.no1 (by omega))
  replace tot := tot.trans (st7.up1 (.inr (by omega)))
  clear hB2
  have hB2 := hB7
  clear hB7
  refine WP.dn ?_
  refine NX.block_n ?_
  refine NX.then_n ?_
  refine CP.region ?_
  refine WP.stl 2 ?_
  refine WP.dn ?_
  refine NX.post ?_
  exact ⟨(aset d1 x2 (IntKind.u8.wrap (shV false .u64 x1 (IntKind.i64.wrap (8 * x2))))), (IntKind.i64.wrap (x2 + 1)), ⟨by kernel_rfl, by kernel_rfl⟩, tot, hB1, hB2, hs⟩
 replace hs := of_if_f hs h3
 refine CP.exit ?_
 refine NX.then_e ?_
 refine NX.then_e ?_
 refine NX.block_s ?_
 refine NX.then_n ?_
 refine CP.seqR ?_
 refine WP.loadB (v := AG [encA .u8 d1]) hB2 (by kernel_rfl) (by kernel_rfl) ?_
 refine WP.storeB (ty := 37) (off := 0) (v := AG [encA .u8 d1]) hB1 [encA .u8 d1] [8] (by kernel_rfl) (by kernel_rfl) (by simp [len_encA]) (by kernel_rfl) [encA .u8 d1] (by kernel_rfl) (.arr .nil) ?_
 intro g8 st8 hB8
 replace hB2 := hB2.mono st8 (WL.no1 (by omega))
 replace tot := tot.trans (st8.up1 (.inr (by omega)))
 clear hB1
 have hB1 := hB8
 clear hB8
 refine WP.dn ?_
 refine NX.then_n ?_
 refine CP.ret ?_
 replace hs := Option.some.inj hs
 obtain rfl := hs
 exact NX.fin (v := AG [encA .u8 d1]) (Res.one rfl (RV.box (agg := true) (size := 8) (rs := [encA .u8 d1]) hB1 (by kernel_rfl) (by kernel_rfl) (by kernel_rfl) (by kernel_rfl))) tot htL rfl
def F.hash_state_digest (x1 : Int) (x2 : Int) (x3 : Int) (x4 : Int) : Option ((Arr Int 8)) := ((F.hash_state_gives x1 x2 x3 x4).bind fun x5 => ((F.hash_FromNum x5).bind fun d1 => (some d1)))
theorem P.hash_state_digest (g0 : GW) (m0 : Nat) (x1 : Int) (x2 : Int) (x3 : Int) (x4 : Int) (b1 : Nat) (hB1 : Box g0 m0 b1 161 [[.int .u64 x1], [.int .u64 x2], [.int .u64 x3], [.int .u64 x4]] [1, 1, 1, 1]) (hm0 : m0 ≠ 0) (o1 : Arr Int 8) (hs : F.hash_state_digest x1 x2 x3 x4 = some o1) :
  Calls Try.prog 94 #[.pointer (some ⟨b1, 0, none⟩)] g0.w (Ret NoM g0 fun v g => v = AG [encA .u8 o1]) := by
 refine calls_of (args := [.pointer (some ⟨b1, 0, none⟩)]) Try.func94 rfl (m0 + 0) ?_
 intro t ht htL
 refine ⟨_, rfl, ?_⟩
 refine CP.refr 6 [(0, .pointer (some ⟨b1, 0, none⟩))] (by kernel_rfl) (by kernel_rfl) ?_
 intro ds
 have tot : Step (fun l => NoM l ∨ t ≤ l) g0 g0 := Step.refl _ _
 unfold F.hash_state_digest at hs
 refine CP.seqR ?_
 refine WP.alloc (T := 37) (t + 1) [encA .u8 (zA 8)] [8] (by kernel_rfl) (by simp [len_encA]) ?_
 intro g1 b2 st1 hB2
 replace hB1 := hB1.mono st1 (fun x => x)
 replace tot := tot.trans st1.pure
 refine WP.dn ?_
 refine NX.then_n ?_
 refine CP.seqR ?_
 refine WP.stl 1 ?_
 replace hs := Option.bind_eq_some_iff.1 hs
 obtain ⟨x5, hk1, hs⟩ := hs
 have hcal1 := P.hash_state_gives g1 m0 x1 x2 x3 x4 b1 hB1 (by omega) x5 hk1
 refine WP.callC hcal1 (by kernel_rfl) ?_
 rintro _ g2 st2 rfl
 replace hB1 := hB1.mono st2 (fun x => x)
 replace hB2 := hB2.mono st2 (fun x => x)
 replace tot := tot.trans st2.pure
 replace hs := Option.bind_eq_some_iff.1 hs
 obtain ⟨d1, hk2, hs⟩ := hs
 have hcal2 := P.hash_FromNum g2 x5 d1 hk2
 refine WP.callC hcal2 (by kernel_rfl) ?_
 rintro _ g3 st3 rfl
 replace hB1 := hB1.mono st3 (fun x => x)
 replace hB2 := hB2.mono st3 (fun x => x)
 replace tot := tot.trans st3.pure
 refine WP.storeB (ty := 37) (off := 0) (v := AG [encA .u8 d1]) hB2 [encA .u8 d1] [8] (by kernel_rfl) (by kernel_rfl) (by simp [len_encA]) (by kernel_rfl) [encA .u8 d1] (by kernel_rfl) (.arr .nil) ?_
 intro g4 st4 hB3
 replace hB1 := hB1.mono st4 (WL.no1 (by omega))
 replace tot := tot.trans (st4.up1 (.inr (by omega)))
 clear hB2
 have hB2 := hB3
 clear hB3
 refine WP.dn ?_
 refine NX.then_n ?_
 refine CP.ret ?_
 replace hs := Option.some.inj hs
 obtain rfl := hs
 exact NX.fin (v := AG [encA .u8 d1]) (Res.one rfl (RV.box (agg := true) (size := 8) (rs := [encA .u8 d1]) hB2 (by kernel_rfl) (by kernel_rfl) (by kernel_rfl) (by kernel_rfl))) tot htL rfl
end Go.Proofs.Ytlnockimfgfcgaa
