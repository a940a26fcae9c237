/-
  Walks, written by program: each Go function computes the plain function of its name, in whatever world its arguments' facts hold.
-/
import Derived.Test.YtahpmlekenbafaaRows
import Derived.Test.YtahpmlekenbafaaLabN
namespace Go.Proofs.Ytahpmlekenbafaa
open Go.RowKit Go.Lab
attribute [local irreducible] WP CP NX wpList Code.wp Calls
set_option maxRecDepth 100000
set_option maxHeartbeats 4000000
set_option linter.unusedVariables false
def str_0 : ByteArray := ⟨#[112, 97, 121]⟩
def str_1 : ByteArray := ⟨#[108, 101, 110, 32, 111, 117, 116, 32, 111, 102, 32, 114, 97, 110, 103, 101]⟩
def str_2 : ByteArray := ⟨#[99, 97, 110, 110, 111, 116, 32, 98, 101, 32, 110, 101, 103, 97, 116, 105, 118, 101]⟩
structure S_notary_entry where
  f1 : (Arr Int 8)
  f2 : (Arr Int 8)
  deriving Inhabited
def k_S_notary_entry : Kd S_notary_entry := Kd.pull (Kd.pair (Kd.arrI 8 .u8) (Kd.arrI 8 .u8)) (fun x => (x.f1, x.f2))
theorem k_S_notary_entry.opn {g : GW} {cs : List Value} {x : S_notary_entry} (h : k_S_notary_entry.R g cs x) : cs = [encA .u8 x.f1, encA .u8 x.f2].flatten := by
  obtain ⟨q0, d0, rfl, h0, h1⟩ := h
  replace h0 : q0 = encA .u8 x.f1 := h0
  subst h0
  replace h1 : d0 = encA .u8 x.f2 := h1
  subst h1
  exact by simp
theorem k_S_notary_entry.mk {g : GW} {s0 s1 : List Value} {f0 : (Arr Int 8)} {f1 : (Arr Int 8)} (h0 : ((Kd.arrI 8 .u8)).R g s0 f0) (h1 : ((Kd.arrI 8 .u8)).R g s1 f1) : k_S_notary_entry.R g [s0, s1].flatten ⟨f0, f1⟩ := by
  refine ⟨_, _, rfl, h0, (by simpa using h1)⟩
def kv_S_notary_entry (x : S_notary_entry) : Value := AG [encA .u8 x.f1, encA .u8 x.f2]
def eqk_S_notary_entry (x y : S_notary_entry) : Bool := ((x.f1.1 == y.f1.1) && (x.f2.1 == y.f2.1))
theorem keyOk_S_notary_entry : KeyOk Try.prog 136 kv_S_notary_entry eqk_S_notary_entry where
  eqv := fun x y => (EqV.struct (d := 9999) (t := 136) (xs := [encA .u8 x.f1, encA .u8 x.f2]) (ys := [encA .u8 y.f1, encA .u8 y.f2]) (by kernel_rfl) (by kernel_rfl) (EqFi.cons (ns := [8, 8]) (ms := [8, 8]) (t' := 47) (x := AG [encA .u8 x.f1]) (y := AG [encA .u8 y.f1]) (by simp [len_encA]) (by simp [len_encA]) (by kernel_rfl) (by kernel_rfl) (EqV.arr (d := 9997) (t := 47) (e := 5) (m := 8) (k := .u8) (x := x.f1) (y := y.f1) (by kernel_rfl) (by kernel_rfl)) (EqFi.one (ns := [8, 8]) (ms := [8, 8]) (t' := 47) (x := AG [encA .u8 x.f2]) (y := AG [encA .u8 y.f2]) (by simp [len_encA]) (by simp [len_encA]) (by kernel_rfl) (by kernel_rfl) (EqV.arr (d := 9997) (t := 47) (e := 5) (m := 8) (k := .u8) (x := x.f2) (y := y.f2) (by kernel_rfl) (by kernel_rfl)) (Nat.le_of_ble_eq_true rfl))))
  chk := fun w b x => by
    obtain ⟨a0_0, a0_1, a0_2, a0_3, a0_4, a0_5, a0_6, a0_7, h0⟩ := Arr.ex8 x.f1
    obtain ⟨a1_0, a1_1, a1_2, a1_3, a1_4, a1_5, a1_6, a1_7, h1⟩ := Arr.ex8 x.f2
    obtain ⟨x0, x1⟩ := x
    simp only [] at h0 h1
    subst h0; subst h1
    exact evalS_run (a := ()) (by kernel_rfl) w
  inj := fun x y h => by
    obtain ⟨x0, x1⟩ := x
    obtain ⟨y0, y1⟩ := y
    simp only [eqk_S_notary_entry, Bool.and_eq_true, beq_iff_eq] at h
    simp only [kv_S_notary_entry, encA, h]
  bits := fun x => sameBits_ints 9999 _ (by intro c hc; simp only [List.flatten_cons, List.flatten_nil, encA, List.mem_append, List.mem_map, List.not_mem_nil, or_false] at hc; rcases hc with ⟨_, _, rfl⟩ | ⟨_, _, rfl⟩ <;> exact ⟨_, _, rfl⟩)
  now := ⟨.struct (Try.prog.fieldsOf 136), by kernel_rfl, fun _ _ => rfl⟩

def F.close_seated.c1 (q1 : Bool) : Option (Bool) := (some q1)
def F.close_seated (x1 : Int) : Option (Bool) := (if decide (x1 ≥ 2) = true then (F.close_seated.c1 (decide (x1 ≤ 8))) else (F.close_seated.c1 false))
theorem P.close_seated (g0 : GW) (x1 : Int) (o1 : Bool) (hs : F.close_seated x1 = some o1) :
  Calls Try.prog 20 #[.int .i64 x1] g0.w (Ret NoM g0 fun v g => v = .bool o1) := by
 refine calls_of (args := [.int .i64 x1]) Try.func20 rfl (0) ?_
 intro t ht htL
 refine ⟨_, rfl, ?_⟩
 refine CP.refr 9 [(0, .int .i64 x1)] (by kernel_rfl) (by kernel_rfl) ?_
 intro ds
 have tot : Step (fun l => NoM l ∨ t ≤ l) g0 g0 := Step.refl _ _
 unfold F.close_seated at hs
 refine CP.seqR ?_
 refine WP.stl 1 ?_
 refine WP.dn ?_
 refine NX.then_n ?_
 refine CP.cut (fun tm g => ∃ (q1 : Bool), Fr 9 [(2, .bool q1)] tm ∧ Step (fun l => NoM l ∨ t ≤ l) g0 g ∧ (F.close_seated.c1 q1) = some o1) ?_ ?_
 ·refine CP.region ?_
  refine WP.stl 3 ?_
  refine WP.guard 5 (b := decide (x1 ≥ 2)) (by kernel_rfl) (fun h2 => ?_) (fun h2 => ?_)
  ·replace hs := of_if_t hs h2
   refine WP.stl 4 ?_
   refine WP.dn ?_
   refine NX.post ?_
   exact ⟨decide (x1 ≤ 8), ⟨by kernel_rfl, by kernel_rfl⟩, tot, hs⟩
  replace hs := of_if_f hs h2
  refine WP.stl 4 ?_
  refine WP.dn ?_
  refine NX.post ?_
  exact ⟨false, ⟨by kernel_rfl, by kernel_rfl⟩, tot, hs⟩
 clear tot hs
 rintro tm g ⟨q1, hF, tot, hs⟩
 clear ds
 obtain ⟨ds, rfl⟩ := hF.open
 clear hF
 unfold F.close_seated.c1 at hs
 refine CP.ret ?_
 replace hs := Option.some.inj hs
 obtain rfl := hs
 exact NX.fin (v := .bool q1) (Res.still (by kernel_rfl)) tot htL rfl
def F.coin_Right.c1 (q1 : Bool) : Option (Bool) := (some q1)
def F.coin_Right (x1 : Int) : Option (Bool) := (if decide (x1 ≥ 0) = true then (F.coin_Right.c1 (decide (x1 ≤ 1125899906842624))) else (F.coin_Right.c1 false))
theorem P.coin_Right (g0 : GW) (x1 : Int) (o1 : Bool) (hs : F.coin_Right x1 = some o1) :
  Calls Try.prog 21 #[.int .i64 x1] g0.w (Ret NoM g0 fun v g => v = .bool o1) := by
 refine calls_of (args := [.int .i64 x1]) Try.func21 rfl (0) ?_
 intro t ht htL
 refine ⟨_, rfl, ?_⟩
 refine CP.refr 9 [(0, .int .i64 x1)] (by kernel_rfl) (by kernel_rfl) ?_
 intro ds
 have tot : Step (fun l => NoM l ∨ t ≤ l) g0 g0 := Step.refl _ _
 unfold F.coin_Right at hs
 refine CP.seqR ?_
 refine WP.stl 1 ?_
 refine WP.dn ?_
 refine NX.then_n ?_
 refine CP.cut (fun tm g => ∃ (q1 : Bool), Fr 9 [(2, .bool q1)] tm ∧ Step (fun l => NoM l ∨ t ≤ l) g0 g ∧ (F.coin_Right.c1 q1) = some o1) ?_ ?_
 ·refine CP.region ?_
  refine WP.stl 3 ?_
  refine WP.guard 5 (b := decide (x1 ≥ 0)) (by kernel_rfl) (fun h2 => ?_) (fun h2 => ?_)
  ·replace hs := of_if_t hs h2
   refine WP.stl 4 ?_
   refine WP.dn ?_
   refine NX.post ?_
   exact ⟨decide (x1 ≤ 1125899906842624), ⟨by kernel_rfl, by kernel_rfl⟩, tot, hs⟩
  replace hs := of_if_f hs h2
  refine WP.stl 4 ?_
  refine WP.dn ?_
  refine NX.post ?_
  exact ⟨false, ⟨by kernel_rfl, by kernel_rfl⟩, tot, hs⟩
 clear tot hs
 rintro tm g ⟨q1, hF, tot, hs⟩
 clear ds
 obtain ⟨ds, rfl⟩ := hF.open
 clear hF
 unfold F.coin_Right.c1 at hs
 refine CP.ret ?_
 replace hs := Option.some.inj hs
 obtain rfl := hs
 exact NX.fin (v := .bool q1) (Res.still (by kernel_rfl)) tot htL rfl
def F.coin_Add.c1 (x1 : Int) (x2 : Int) (q4 : Bool) : Option (Int × Int) := (if q4 = true then (some (0, 2)) else (some ((IntKind.i64.wrap (x1 + x2)), 0)))
def F.coin_Add (x1 : Int) (x2 : Int) : Option (Int × Int) := ((F.coin_Right x1).bind fun q5 => (if (!q5) = true then (F.coin_Add.c1 x1 x2 true) else ((F.coin_Right x2).bind fun q6 => (if (!q6) = true then (F.coin_Add.c1 x1 x2 true) else ((F.coin_Right (IntKind.i64.wrap (x1 + x2))).bind fun q7 => (F.coin_Add.c1 x1 x2 (!q7)))))))
theorem P.coin_Add (g0 : GW) (x1 : Int) (x2 : Int) (o1 : Int) (o2 : Int) (hs : F.coin_Add x1 x2 = some (o1, o2)) :
  Calls Try.prog 39 #[.int .i64 x1, .int .i64 x2] g0.w (Ret NoM g0 fun v g => v = .tuple #[.int .i64 o1, .int .i64 o2]) := by
 refine calls_of (args := [.int .i64 x1, .int .i64 x2]) Try.func39 rfl (0) ?_
 intro t ht htL
 refine ⟨_, rfl, ?_⟩
 refine CP.refr 24 [(0, .int .i64 x1), (1, .int .i64 x2)] (by kernel_rfl) (by kernel_rfl) ?_
 intro ds
 have tot : Step (fun l => NoM l ∨ t ≤ l) g0 g0 := Step.refl _ _
 unfold F.coin_Add at hs
 refine CP.seqR ?_
 refine WP.stl 2 ?_
 refine WP.dn ?_
 refine NX.then_n ?_
 refine CP.seq ?_
 refine CP.cut (fun tm g => ∃ (q4 : Bool), Fr 24 [(0, .int .i64 x1), (1, .int .i64 x2), (20, .bool q4)] tm ∧ Step (fun l => NoM l ∨ t ≤ l) g0 g ∧ (F.coin_Add.c1 x1 x2 q4) = some (o1, o2)) ?_ ?_
 ·refine CP.region ?_
  refine WP.stl 1 ?_
  replace hs := Option.bind_eq_some_iff.1 hs
  obtain ⟨q5, hk4, hs⟩ := hs
  have hcal4 := P.coin_Right g0 x1 q5 hk4
  refine WP.callC hcal4 (by kernel_rfl) ?_
  rintro _ g4 st4 rfl
  replace tot := tot.trans st4.pure
  refine WP.stl 2 ?_
  refine WP.guard 9 (b := (!q5)) (by kernel_rfl) (fun h4 => ?_) (fun h4 => ?_)
  ·replace hs := of_if_t hs h4
   refine WP.stl 11 ?_
   refine WP.dn ?_
   refine NX.post ?_
   exact ⟨true, ⟨by kernel_rfl, by kernel_rfl⟩, tot, hs⟩
  replace hs := of_if_f hs h4
  refine WP.stl 1 ?_
  replace hs := Option.bind_eq_some_iff.1 hs
  obtain ⟨q6, hk5, hs⟩ := hs
  have hcal5 := P.coin_Right g4 x2 q6 hk5
  refine WP.callC hcal5 (by kernel_rfl) ?_
  rintro _ g5 st5 rfl
  replace tot := tot.trans st5.pure
  refine WP.stl 3 ?_
  refine WP.guard 14 (b := (!q6)) (by kernel_rfl) (fun h5 => ?_) (fun h5 => ?_)
  ·replace hs := of_if_t hs h5
   refine WP.stl 6 ?_
   refine WP.dn ?_
   refine NX.post ?_
   exact ⟨true, ⟨by kernel_rfl, by kernel_rfl⟩, tot, hs⟩
  replace hs := of_if_f hs h5
  refine WP.stl 3 ?_
  replace hs := Option.bind_eq_some_iff.1 hs
  obtain ⟨q7, hk6, hs⟩ := hs
  have hcal6 := P.coin_Right g5 (IntKind.i64.wrap (x1 + x2)) q7 hk6
  refine WP.callC hcal6 (by kernel_rfl) ?_
  rintro _ g6 st6 rfl
  replace tot := tot.trans st6.pure
  refine WP.stl 2 ?_
  refine WP.dn ?_
  refine NX.post ?_
  exact ⟨(!q7), ⟨by kernel_rfl, by kernel_rfl⟩, tot, hs⟩
 clear tot hs
 rintro tm g ⟨q4, hF, tot, hs⟩
 clear ds
 obtain ⟨ds, rfl⟩ := hF.open
 clear hF
 unfold F.coin_Add.c1 at hs
 refine CP.cond (b := q4) (by kernel_rfl) (fun h3 => ?_) (fun h3 => ?_)
 ·replace hs := of_if_t hs h3
  refine CP.seqR ?_
  refine WP.stl 2 ?_
  refine WP.dn ?_
  refine NX.then_n ?_
  refine CP.ret ?_
  refine NX.then_r ?_
  replace hs := Option.some.inj hs
  obtain ⟨rfl, rfl⟩ := Prod.mk.inj hs
  exact NX.fin (v := .tuple #[.int .i64 0, .int .i64 2]) (Res.still (by kernel_rfl)) tot htL rfl
 replace hs := of_if_f hs h3
 refine CP.skip ?_
 refine NX.then_n ?_
 refine CP.seqR ?_
 refine WP.stl 5 ?_
 refine WP.dn ?_
 refine NX.then_n ?_
 refine CP.ret ?_
 replace hs := Option.some.inj hs
 obtain ⟨rfl, rfl⟩ := Prod.mk.inj hs
 exact NX.fin (v := .tuple #[.int .i64 (IntKind.i64.wrap (x1 + x2)), .int .i64 0]) (Res.still (by kernel_rfl)) tot htL rfl
def F.coin_Sum.l1 (l1 : List Int) : Nat → Int → Int → Option (Int × Int)
 | 0, _, _ => none
 | k + 1, x3, x4 => (if decide (x4 < (l1.length : Int)) = true then (if (0 : Int) ≤ x4 ∧ x4 < (l1.length : Int) then ((F.coin_Add x3 (getI l1 x4)).bind fun (x9, x10) => (if (x10 != 0) = true then (some (0, x10)) else (F.coin_Sum.l1 l1 k x9 (IntKind.i64.wrap (x4 + 1))))) else none) else (some (x3, 0)))
def F.coin_Sum (l1 : List Int) : Option (Int × Int) := (F.coin_Sum.l1 l1 fuel 0 0)
theorem P.coin_Sum (g0 : GW) (l1 : List Int) (a1 : Option Addr) (n1 : Nat) (c1 : Nat) (hR1 : RdS (Kd.int .i64) g0 3 a1 n1 c1 l1) (o1 : Int) (o2 : Int) (hs : F.coin_Sum l1 = some (o1, o2)) :
  Calls Try.prog 24 #[.slice a1 n1 c1] g0.w (Ret NoM g0 fun v g => v = .tuple #[.int .i64 o1, .int .i64 o2]) := by
 refine calls_of (args := [.slice a1 n1 c1]) Try.func24 rfl (0) ?_
 intro t ht htL
 refine ⟨_, rfl, ?_⟩
 refine CP.refr 27 [(0, .slice a1 n1 c1)] (by kernel_rfl) (by kernel_rfl) ?_
 intro ds
 have tot : Step (fun l => NoM l ∨ t ≤ l) g0 g0 := Step.refl _ _
 unfold F.coin_Sum at hs
 refine CP.seqR ?_
 refine WP.stl 2 ?_
 refine WP.dn ?_
 refine NX.then_n ?_
 refine CP.seqR ?_
 refine WP.stl 1 ?_
 refine WP.dn ?_
 refine NX.then_n ?_
 refine CP.seq ?_
 refine CP.seqR ?_
 refine WP.stl 1 ?_
 refine WP.len (a := a1) (cp := c1) hR1.len (by kernel_rfl) ?_
 refine WP.stl 1 ?_
 refine WP.dn ?_
 refine NX.then_n ?_
 refine CP.block ?_
 generalize fuel = k1 at hs
 refine CP.loop (fun k1 tm g => ∃ (x3 : Int) (x4 : Int), Fr 27 [(4, .int .i64 x3), (9, .slice a1 n1 c1), (10, .int .i64 (l1.length : Int)), (11, .int .i64 x4)] tm ∧ Step (fun l => NoM l ∨ t ≤ l) g0 g ∧ RdS (Kd.int .i64) g 3 a1 n1 c1 l1 ∧ F.coin_Sum.l1 l1 k1 x3 x4 = some (o1, o2)) k1 ?_ ?_ ?_
 ·exact ⟨0, 0, ⟨by kernel_rfl, by kernel_rfl⟩, tot, hR1, hs⟩
 ·rintro tm g ⟨x3, x4, hF, tot, hR1, hs⟩
  exact absurd hs (by simp [F.coin_Sum.l1])
 clear tot hs hR1
 rintro k1 tm g ⟨x3, x4, hF, tot, hR1, hs⟩
 clear ds
 obtain ⟨ds, rfl⟩ := hF.open
 clear hF
 unfold F.coin_Sum.l1 at hs
 refine CP.seqR ?_
 refine WP.stl 1 ?_
 refine WP.dn ?_
 refine NX.then_n ?_
 refine CP.seq ?_
 refine CP.cond (b := decide (x4 < (l1.length : Int))) (by kernel_rfl) (fun h5 => ?_) (fun h5 => ?_)
 ·replace hs := of_if_t hs h5
  refine CP.skip ?_
  refine NX.then_n ?_
  refine CP.seq ?_
  refine CP.block ?_
  refine CP.seqR ?_
  by_cases hc3 : (0 : Int) ≤ x4 ∧ x4 < (l1.length : Int)
  case neg => rw [if_neg hc3] at hs; cases hs
  replace hs := of_if_p hs hc3
  obtain ⟨b3, u3, ha3⟩ := hR1.at hc3
  refine WP.indexA (t := 22) (e := 3) (sz := 1) (cap := c1) (k := .i64) (i := x4) hR1.len ha3 (by kernel_rfl) (by kernel_rfl) hc3 ?_
  obtain ⟨cs3, hcR3, hcV3⟩ := hR1.src.view (getI_some hc3) ha3
  replace hcR3 := Kd.o_int hcR3
  refine WP.loadV [[.int .i64 (getI l1 x4)]] [1] hcV3 hcR3 rfl (f := 0) (ty := 3) (agg := false) (size := 1) (rs := [[.int .i64 (getI l1 x4)]]) (v := .int .i64 (getI l1 x4)) (by kernel_rfl) (by kernel_rfl) (by kernel_rfl) (by kernel_rfl) ?_
  refine WP.stl 1 ?_
  refine WP.dn ?_
  refine NX.then_n ?_
  refine CP.seqR ?_
  refine WP.stl 2 ?_
  replace hs := Option.bind_eq_some_iff.1 hs
  obtain ⟨⟨x9, x10⟩, hk3, hs⟩ := hs
  dsimp only at hs
  have hcal3 := P.coin_Add g x3 (getI l1 x4) x9 x10 hk3
  refine WP.callC hcal3 (by kernel_rfl) ?_
  rintro _ g3 st3 rfl
  replace hR1 := hR1.mono st3 (fun x => x)
  replace tot := tot.trans st3.pure
  refine WP.stl 5 ?_
  refine WP.dn ?_
  refine NX.then_n ?_
  refine CP.seq ?_
  refine CP.seqR ?_
  refine WP.stl 2 ?_
  refine WP.dn ?_
  refine NX.then_n ?_
  refine CP.refr 27 [(7, .int .i64 x9), (8, .int .i64 x10), (9, .slice a1 n1 c1), (10, .int .i64 (l1.length : Int)), (11, .int .i64 x4), (22, .bool (x10 != 0))] (by kernel_rfl) (by kernel_rfl) ?_
  clear ds
  intro ds
  refine CP.cond (b := (x10 != 0)) (by kernel_rfl) (fun h6 => ?_) (fun h6 => ?_)
  ·replace hs := of_if_t hs h6
   refine CP.seqR ?_
   refine WP.stl 3 ?_
   refine WP.dn ?_
   refine NX.then_n ?_
   refine CP.ret ?_
   refine NX.then_r ?_
   refine NX.block_r ?_
   refine NX.then_r ?_
   refine NX.then_r ?_
   refine NX.block_r ?_
   refine NX.then_r ?_
   replace hs := Option.some.inj hs
   obtain ⟨rfl, rfl⟩ := Prod.mk.inj hs
   exact NX.fin (v := .tuple #[.int .i64 0, .int .i64 x10]) (Res.still (by kernel_rfl)) tot htL rfl
  replace hs := of_if_f hs h6
  refine CP.skip ?_
  refine NX.then_n ?_
  refine CP.region ?_
  refine WP.stl 2 ?_
  refine WP.dn ?_
  refine NX.block_n ?_
  refine NX.then_n ?_
  refine CP.region ?_
  refine WP.stl 2 ?_
  refine WP.dn ?_
  refine NX.post ?_
  exact ⟨x9, (IntKind.i64.wrap (x4 + 1)), ⟨by kernel_rfl, by kernel_rfl⟩, tot, hR1, hs⟩
 replace hs := of_if_f hs h5
 refine CP.exit ?_
 refine NX.then_e ?_
 refine NX.then_e ?_
 refine NX.block_s ?_
 refine NX.then_n ?_
 refine CP.seqR ?_
 refine WP.stl 3 ?_
 refine WP.dn ?_
 refine NX.then_n ?_
 refine CP.ret ?_
 replace hs := Option.some.inj hs
 obtain ⟨rfl, rfl⟩ := Prod.mk.inj hs
 exact NX.fin (v := .tuple #[.int .i64 x3, .int .i64 0]) (Res.still (by kernel_rfl)) tot htL rfl
def F.slices_Clone_int_int_nil : Option ((List Int)) := (some ([]))
theorem P.slices_Clone_int_int_nil (g0 : GW) (r0 : Nat) (o1 : List Int) (hs : F.slices_Clone_int_int_nil = some o1) :
  Calls Try.prog 26 #[.slice none 0 0] g0.w (Ret NoM g0 fun v g => ∃ (a_1 : Option Addr) (n_1 : Nat) (c_1 : Nat), v = .slice a_1 n_1 c_1 ∧ OwnS (Kd.int .i64) g r0 3 a_1 n_1 c_1 o1) := by
 refine calls_of (args := [.slice none 0 0]) Try.func26 rfl (r0 + 0) ?_
 intro t ht htL
 refine ⟨_, rfl, ?_⟩
 refine CP.refr 8 [(0, .slice none 0 0)] (by kernel_rfl) (by kernel_rfl) ?_
 intro ds
 have tot : Step (fun l => NoM l ∨ t ≤ l) g0 g0 := Step.refl _ _
 unfold F.slices_Clone_int_int_nil at hs
 refine CP.seqR ?_
 refine WP.stl 1 ?_
 refine WP.dn ?_
 refine NX.then_n ?_
 refine CP.seq ?_
 refine CP.seqR ?_
 refine WP.stl 2 ?_
 refine WP.dn ?_
 refine NX.then_n ?_
 refine CP.cond_t (by kernel_rfl) ?_
 refine CP.seqR ?_
 refine WP.stl 1 ?_
 refine WP.dn ?_
 refine NX.then_n ?_
 refine CP.ret ?_
 refine NX.then_r ?_
 replace hs := Option.some.inj hs
 obtain rfl := hs
 exact NX.fin (v := .slice none 0 0) (Res.still (by kernel_rfl)) tot htL ⟨none, 0, 0, rfl, (OwnS.nil _ _ _ _)⟩
def F.slices_Clone_int_int_some (l1 : List Int) : Option ((List Int)) := (if ([] : List Int).length + l1.length ≤ 17592186044416 then (some (([] : List Int) ++ l1)) else none)
theorem P.slices_Clone_int_int_some (g0 : GW) (r0 : Nat) (l1 : List Int) (n1 : Nat) (c1 : Nat) (p1 : Addr) (hR1 : RdS (Kd.int .i64) g0 3 (some p1) n1 c1 l1) (o1 : List Int) (hs : F.slices_Clone_int_int_some l1 = some o1) :
  Calls Try.prog 26 #[.slice (some p1) n1 c1] g0.w (Ret NoM g0 fun v g => ∃ (a_1 : Option Addr) (n_1 : Nat) (c_1 : Nat), v = .slice a_1 n_1 c_1 ∧ OwnS (Kd.int .i64) g r0 3 a_1 n_1 c_1 o1) := by
 refine calls_of (args := [.slice (some p1) n1 c1]) Try.func26 rfl (r0 + 0) ?_
 intro t ht htL
 refine ⟨_, rfl, ?_⟩
 refine CP.refr 8 [(0, .slice (some p1) n1 c1)] (by kernel_rfl) (by kernel_rfl) ?_
 intro ds
 have tot : Step (fun l => NoM l ∨ t ≤ l) g0 g0 := Step.refl _ _
 unfold F.slices_Clone_int_int_some at hs
 refine CP.seqR ?_
 refine WP.stl 1 ?_
 refine WP.dn ?_
 refine NX.then_n ?_
 refine CP.seq ?_
 refine CP.seqR ?_
 refine WP.stl 2 ?_
 refine WP.dn ?_
 refine NX.then_n ?_
 refine CP.cond_f (by kernel_rfl) ?_
 refine CP.skip ?_
 refine NX.then_n ?_
 refine CP.seqR ?_
 refine WP.mkSl (kd := (Kd.int .i64)) (t := 22) (e := 3) (bytes := 8) (t + 1) [] ([] : List Int) (by kernel_rfl) (by kernel_rfl) (Nat.le_of_ble_eq_true rfl) (Nat.le_of_ble_eq_true rfl) all_nil (rfl) rfl ?_
 intro g1 a1 st1 hR2
 replace hR1 := hR1.mono st1 (fun x => x)
 replace tot := tot.trans st1.pure
 refine WP.stl 1 ?_
 by_cases hc1 : ([] : List Int).length + l1.length ≤ 17592186044416
 case neg => rw [if_neg hc1] at hs; cases hs
 replace hs := of_if_p hs hc1
 refine WP.append (kd := (Kd.int .i64)) (t := 22) (e := 3) (bytes := 8) (a2 := (some p1)) (c2 := c1) hR2 hR1.src hR1.len (by kernel_rfl) (by kernel_rfl) (by omega) (by simp only [maxLen]; omega) (by omega) ?_
 intro g2 a2 c2 st2 hR3
 replace hR1 := hR1.mono st2 (WL.no1 (by omega))
 replace tot := tot.trans (st2.up1 (.inr (by omega)))
 refine WP.stl 1 ?_
 refine WP.dn ?_
 refine NX.then_n ?_
 refine CP.ret ?_
 obtain ⟨g3, hw1, st3, hnew⟩ := hR3.relab (by omega) r0
 refine NX.regw hw1 ?_
 replace tot := tot.trans (st3.up1 (.inr (by omega)))
 clear hR3
 have hR3 := hnew
 clear hnew
 replace hs := Option.some.inj hs
 obtain rfl := hs
 exact NX.fin (v := .slice a2 (0 + n1) c2) (Res.still (by kernel_rfl)) tot htL ⟨a2, (0 + n1), c2, rfl, hR3⟩
def F.slices_Clone_int_int (l1 : List Int) : Option ((List Int)) := F.slices_Clone_int_int_some l1
theorem P.slices_Clone_int_int (g0 : GW) (r0 : Nat) (l1 : List Int) (a1 : Option Addr) (n1 : Nat) (c1 : Nat) (hR1 : RdS (Kd.int .i64) g0 3 a1 n1 c1 l1) (o1 : List Int) (hs : F.slices_Clone_int_int l1 = some o1) :
  Calls Try.prog 26 #[.slice a1 n1 c1] g0.w (Ret NoM g0 fun v g => ∃ (a_1 : Option Addr) (n_1 : Nat) (c_1 : Nat), v = .slice a_1 n_1 c_1 ∧ OwnS (Kd.int .i64) g r0 3 a_1 n_1 c_1 o1) := by
 rcases hR1.nilOr with ⟨rfl, rfl, rfl, rfl⟩ | ⟨b, rfl⟩
 ·exact P.slices_Clone_int_int_nil _ _ _ hs
 ·exact P.slices_Clone_int_int_some _ _ _ _ _ _ hR1 _ hs
def F.close_others_1.c1 (q1 : Bool) : Option (Int) := (if q1 = true then (some 0) else (some 1))
def F.close_others_1 (x1 : Int) (x2 : Int) (l1 : List Bool) : Option (Int) := (if (x1 == x2) = true then (F.close_others_1.c1 true) else (if (0 : Int) ≤ x1 ∧ x1 < (l1.length : Int) then (F.close_others_1.c1 (getI l1 x1)) else none))
theorem P.close_others_1 (g0 : GW) (m0 : Nat) (m1 : Nat) (x1 : Int) (x2 : Int) (l1 : List Bool) (a1 : Option Addr) (n1 : Nat) (c1 : Nat) (b1 : Nat) (b2 : Nat) (hR1 : RdS Kd.bool g0 4 a1 n1 c1 l1) (hB1 : Box g0 m0 b1 3 [[.int .i64 x2]] [1]) (hB2 : Box g0 m1 b2 28 [[.slice a1 n1 c1]] [1]) (hm1_0 : m1 ≠ m0) (hm0 : m0 ≠ 0) (hm1 : m1 ≠ 0) (o1 : Int) (hs : F.close_others_1 x1 x2 l1 = some o1) :
  Calls Try.prog 40 #[.int .i64 x1, .pointer (some ⟨b1, 0, none⟩), .pointer (some ⟨b2, 0, none⟩)] g0.w (Ret NoM g0 fun v g => v = .int .i64 o1) := by
 refine calls_of (args := [.int .i64 x1, .pointer (some ⟨b1, 0, none⟩), .pointer (some ⟨b2, 0, none⟩)]) Try.func40 rfl (m0 + m1 + 0) ?_
 intro t ht htL
 refine ⟨_, rfl, ?_⟩
 refine CP.refr 14 [(0, .int .i64 x1), (1, .pointer (some ⟨b1, 0, none⟩)), (2, .pointer (some ⟨b2, 0, none⟩))] (by kernel_rfl) (by kernel_rfl) ?_
 intro ds
 have tot : Step (fun l => NoM l ∨ t ≤ l) g0 g0 := Step.refl _ _
 unfold F.close_others_1 at hs
 refine CP.seqR ?_
 refine WP.stl 1 ?_
 refine WP.dn ?_
 refine NX.then_n ?_
 refine CP.seq ?_
 refine CP.cut (fun tm g => ∃ (q1 : Bool), Fr 14 [(13, .bool q1)] tm ∧ Step (fun l => NoM l ∨ t ≤ l) g0 g ∧ (F.close_others_1.c1 q1) = some o1) ?_ ?_
 ·refine CP.region ?_
  refine WP.stl 1 ?_
  refine WP.loadB (v := .int .i64 x2) hB1 (by kernel_rfl) (by kernel_rfl) ?_
  refine WP.stl 2 ?_
  refine WP.guard 8 (b := (x1 == x2)) (by kernel_rfl) (fun h3 => ?_) (fun h3 => ?_)
  ·replace hs := of_if_t hs h3
   refine WP.stl 5 ?_
   refine WP.dn ?_
   refine NX.post ?_
   exact ⟨true, ⟨by kernel_rfl, by kernel_rfl⟩, tot, hs⟩
  replace hs := of_if_f hs h3
  refine WP.loadB (v := .slice a1 n1 c1) hB2 (by kernel_rfl) (by kernel_rfl) ?_
  refine WP.stl 1 ?_
  by_cases hc2 : (0 : Int) ≤ x1 ∧ x1 < (l1.length : Int)
  case neg => rw [if_neg hc2] at hs; cases hs
  replace hs := of_if_p hs hc2
  obtain ⟨b4, u2, ha2⟩ := hR1.at hc2
  refine WP.indexA (t := 28) (e := 4) (sz := 1) (cap := c1) (k := .i64) (i := x1) hR1.len ha2 (by kernel_rfl) (by kernel_rfl) hc2 ?_
  obtain ⟨cs2, hcR2, hcV2⟩ := hR1.src.view (getI_some hc2) ha2
  replace hcR2 := Kd.o_bool hcR2
  refine WP.loadV [[.bool (getI l1 x1)]] [1] hcV2 hcR2 rfl (f := 0) (ty := 4) (agg := false) (size := 1) (rs := [[.bool (getI l1 x1)]]) (v := .bool (getI l1 x1)) (by kernel_rfl) (by kernel_rfl) (by kernel_rfl) (by kernel_rfl) ?_
  refine WP.stl 1 ?_
  refine WP.dn ?_
  refine NX.post ?_
  exact ⟨(getI l1 x1), ⟨by kernel_rfl, by kernel_rfl⟩, tot, hs⟩
 clear tot hs hB1 hB2 hR1
 rintro tm g ⟨q1, hF, tot, hs⟩
 clear ds
 obtain ⟨ds, rfl⟩ := hF.open
 clear hF
 unfold F.close_others_1.c1 at hs
 refine CP.cond (b := q1) (by kernel_rfl) (fun h2 => ?_) (fun h2 => ?_)
 ·replace hs := of_if_t hs h2
  refine CP.seqR ?_
  refine WP.stl 1 ?_
  refine WP.dn ?_
  refine NX.then_n ?_
  refine CP.ret ?_
  refine NX.then_r ?_
  replace hs := Option.some.inj hs
  obtain rfl := hs
  exact NX.fin (v := .int .i64 0) (Res.still (by kernel_rfl)) tot htL rfl
 replace hs := of_if_f hs h2
 refine CP.skip ?_
 refine NX.then_n ?_
 refine CP.seqR ?_
 refine WP.stl 1 ?_
 refine WP.dn ?_
 refine NX.then_n ?_
 refine CP.ret ?_
 replace hs := Option.some.inj hs
 obtain rfl := hs
 exact NX.fin (v := .int .i64 1) (Res.still (by kernel_rfl)) tot htL rfl
def F.close_others.c1 (nx1 : (List Int) → Bool → Int → Option ((List Int) × Bool)) (x3 : Int) (l6 : List Int) (q5 : Bool) : Option ((List Int) × Bool) := (nx1 l6 q5 (IntKind.i64.wrap (x3 + 1)))
def F.close_others.l1 (x1 : Int) (l1 : List Bool) : Nat → (List Int) → Bool → Int → Option ((List Int) × Bool)
 | 0, _, _, _ => none
 | k + 1, l3, q2, x3 => (if decide (x3 < (l1.length : Int)) = true then ((F.close_others_1 x3 x1 l1).bind fun x7 => (if (0 : Int) ≤ x3 ∧ x3 < (l3.length : Int) then (if (0 : Int) ≤ x3 ∧ x3 < ((setI l3 x3 x7).length : Int) then (if ((getI (setI l3 x3 x7) x3) == 0) = true then (F.close_others.c1 (F.close_others.l1 x1 l1 k) x3 (setI l3 x3 x7) q2) else (F.close_others.c1 (F.close_others.l1 x1 l1 k) x3 (setI l3 x3 x7) true)) else none) else none)) else (some (l3, q2)))
def F.close_others (x1 : Int) (l1 : List Bool) : Option ((List Int) × Bool) := (if (0 : Int) ≤ (l1.length : Int) ∧ (l1.length : Int) ≤ 17592186044416 then (F.close_others.l1 x1 l1 fuel (List.replicate (l1.length : Int).toNat (0 : Int)) false 0) else none)
theorem P.close_others (g0 : GW) (r0 : Nat) (x1 : Int) (l1 : List Bool) (a1 : Option Addr) (n1 : Nat) (c1 : Nat) (hR1 : RdS Kd.bool g0 4 a1 n1 c1 l1) (o1 : List Int) (o2 : Bool) (hs : F.close_others x1 l1 = some (o1, o2)) :
  Calls Try.prog 27 #[.int .i64 x1, .slice a1 n1 c1] g0.w (Ret NoM g0 fun v g => ∃ (a_1 : Option Addr) (n_1 : Nat) (c_1 : Nat), v = .tuple #[.slice a_1 n_1 c_1, .bool o2] ∧ OwnS (Kd.int .i64) g r0 3 a_1 n_1 c_1 o1) := by
 refine calls_of (args := [.int .i64 x1, .slice a1 n1 c1]) Try.func27 rfl (r0 + 0) ?_
 intro t ht htL
 refine ⟨_, rfl, ?_⟩
 refine CP.refr 33 [(0, .int .i64 x1), (1, .slice a1 n1 c1)] (by kernel_rfl) (by kernel_rfl) ?_
 intro ds
 have tot : Step (fun l => NoM l ∨ t ≤ l) g0 g0 := Step.refl _ _
 unfold F.close_others at hs
 refine CP.seqR ?_
 refine WP.alloc (T := 3) (t + 1) [[.int .i64 x1]] [1] (by kernel_rfl) rfl ?_
 intro g1 b1 st1 hB1
 replace hR1 := hR1.mono st1 (fun x => x)
 replace tot := tot.trans st1.pure
 refine WP.alloc (T := 28) (t + 2) [[.slice a1 n1 c1]] [1] (by kernel_rfl) rfl ?_
 intro g2 b2 st2 hB2
 replace hR1 := hR1.mono st2 (fun x => x)
 replace hB1 := hB1.mono st2 (fun x => x)
 replace tot := tot.trans st2.pure
 refine WP.stl 2 ?_
 refine WP.dn ?_
 refine NX.then_n ?_
 refine CP.scope ?_
 refine CP.seqR ?_
 refine WP.stl 2 ?_
 refine WP.dn ?_
 refine NX.then_n ?_
 refine CP.seqR ?_
 refine WP.loadB (v := .slice a1 n1 c1) hB2 (by kernel_rfl) (by kernel_rfl) ?_
 refine WP.len (a := a1) (cp := c1) hR1.len (by kernel_rfl) ?_
 by_cases hc1 : (0 : Int) ≤ (l1.length : Int) ∧ (l1.length : Int) ≤ 17592186044416
 case neg => rw [if_neg hc1] at hs; cases hs
 replace hs := of_if_p hs hc1
 refine WP.make (kd := (Kd.int .i64)) (t + 3) (t := 22) (e := 3) (bytes := 8) (kl := .i64) (kc := .i64) (i := (l1.length : Int)) (by kernel_rfl) (by kernel_rfl) (by omega) (by omega) (by omega) (z := 0) (by intro zv hz; cases hz; exact (by exact rfl)) ?_
 intro g3 a2 st3 hR2
 replace hB2 := hB2.mono st3 (fun x => x)
 replace hR1 := hR1.mono st3 (fun x => x)
 replace hB1 := hB1.mono st3 (fun x => x)
 replace tot := tot.trans st3.pure
 refine WP.stl 2 ?_
 refine WP.dn ?_
 refine NX.then_n ?_
 refine CP.seq ?_
 refine CP.label ?_
 refine NX.then_n ?_
 refine CP.seq ?_
 refine CP.seqR ?_
 refine WP.loadB (v := .slice a1 n1 c1) hB2 (by kernel_rfl) (by kernel_rfl) ?_
 refine WP.len (a := a1) (cp := c1) hR1.len (by kernel_rfl) ?_
 refine WP.stl 1 ?_
 refine WP.dn ?_
 refine NX.then_n ?_
 refine CP.refr 33 [(6, .func (.func 40) #[] #[.pointer (some ⟨b1, 0, none⟩), .pointer (some ⟨b2, 0, none⟩)]), (7, .slice a2 ((l1.length : Int).toNat) ((l1.length : Int).toNat)), (8, .bool false), (15, .int .i64 (l1.length : Int)), (16, .int .i64 0)] (by kernel_rfl) (by kernel_rfl) ?_
 clear ds
 intro ds
 refine CP.block ?_
 generalize fuel = k1 at hs
 refine CP.loop (fun k1 tm g => ∃ (l3 : List Int) (a4 : Option Addr) (n3 : Nat) (c3 : Nat) (q2 : Bool) (x3 : Int), Fr 33 [(6, .func (.func 40) #[] #[.pointer (some ⟨b1, 0, none⟩), .pointer (some ⟨b2, 0, none⟩)]), (7, .slice a4 n3 c3), (8, .bool q2), (15, .int .i64 (l1.length : Int)), (16, .int .i64 x3)] tm ∧ Step (fun l => NoM l ∨ t ≤ l) g0 g ∧ Box g (t + 1) b1 3 [[.int .i64 x1]] [1] ∧ Box g (t + 2) b2 28 [[.slice a1 n1 c1]] [1] ∧ RdS Kd.bool g 4 a1 n1 c1 l1 ∧ OwnS (Kd.int .i64) g (t + 3) 3 a4 n3 c3 l3 ∧ F.close_others.l1 x1 l1 k1 l3 q2 x3 = some (o1, o2)) k1 ?_ ?_ ?_
 ·exact ⟨(List.replicate (l1.length : Int).toNat (0 : Int)), a2, (l1.length : Int).toNat, (l1.length : Int).toNat, false, 0, ⟨by kernel_rfl, by kernel_rfl⟩, tot, hB1, hB2, hR1, hR2, hs⟩
 ·rintro tm g ⟨l3, a4, n3, c3, q2, x3, hF, tot, hB1, hB2, hR1, hR4, hs⟩
  exact absurd hs (by simp [F.close_others.l1])
 clear tot hs hB1 hB2 hR1 hR2
 rintro k1 tm g ⟨l3, a4, n3, c3, q2, x3, hF, tot, hB1, hB2, hR1, hR4, hs⟩
 clear ds
 obtain ⟨ds, rfl⟩ := hF.open
 clear hF
 unfold F.close_others.l1 at hs
 refine CP.seqR ?_
 refine WP.stl 1 ?_
 refine WP.dn ?_
 refine NX.then_n ?_
 refine CP.seq ?_
 refine CP.cond (b := decide (x3 < (l1.length : Int))) (by kernel_rfl) (fun h5 => ?_) (fun h5 => ?_)
 ·replace hs := of_if_t hs h5
  refine CP.skip ?_
  refine NX.then_n ?_
  refine CP.cut (fun tm g => ∃ (l6 : List Int) (a7 : Option Addr) (n6 : Nat) (c6 : Nat) (q5 : Bool), Fr 33 [(6, .func (.func 40) #[] #[.pointer (some ⟨b1, 0, none⟩), .pointer (some ⟨b2, 0, none⟩)]), (7, .slice a7 n6 c6), (8, .bool q5), (15, .int .i64 (l1.length : Int)), (16, .int .i64 x3)] tm ∧ Step (fun l => NoM l ∨ t ≤ l) g0 g ∧ Box g (t + 1) b1 3 [[.int .i64 x1]] [1] ∧ Box g (t + 2) b2 28 [[.slice a1 n1 c1]] [1] ∧ RdS Kd.bool g 4 a1 n1 c1 l1 ∧ OwnS (Kd.int .i64) g (t + 3) 3 a7 n6 c6 l6 ∧ (F.close_others.c1 (F.close_others.l1 x1 l1 k1) x3 l6 q5) = some (o1, o2)) ?_ ?_
  ·refine CP.block ?_
   refine CP.seqR ?_
   refine WP.stl 2 ?_
   refine WP.dn ?_
   refine NX.then_n ?_
   refine CP.seqR ?_
   refine WP.stl 4 ?_
   replace hs := Option.bind_eq_some_iff.1 hs
   obtain ⟨x7, hk4, hs⟩ := hs
   have hcal4 := P.close_others_1 g (t + 1) (t + 2) x3 x1 l1 a1 n1 c1 b1 b2 hR1 hB1 hB2 (by omega) (by omega) (by omega) x7 hk4
   refine WP.callC hcal4 (by kernel_rfl) ?_
   rintro _ g10 st10 rfl
   replace hB1 := hB1.mono st10 (fun x => x)
   replace hB2 := hB2.mono st10 (fun x => x)
   replace hR1 := hR1.mono st10 (fun x => x)
   replace hR4 := hR4.mono st10 (fun x => x) (fun x => x)
   replace tot := tot.trans st10.pure
   by_cases hc8 : (0 : Int) ≤ x3 ∧ x3 < (l3.length : Int)
   case neg => rw [if_neg hc8] at hs; cases hs
   replace hs := of_if_p hs hc8
   obtain ⟨b9, u7, ha7⟩ := hR4.at hc8
   refine WP.indexA (t := 22) (e := 3) (sz := 1) (cap := c3) (k := .i64) (i := x3) hR4.len ha7 (by kernel_rfl) (by kernel_rfl) hc8 ?_
   refine WP.storeO (ty := 3) (v := .int .i64 x7) hR4 (by omega) (i := x3.toNat) (by first | omega | (simp only [setI_length] at *; omega)) ha7 (by kernel_rfl) (x := x7) (by exact rfl) (by kernel_rfl) ?_
   intro g11 st11 hO4
   replace hB1 := hB1.mono st11 (WL.no1 (by omega))
   replace hB2 := hB2.mono st11 (WL.no1 (by omega))
   replace hR1 := hR1.mono st11 (WL.no1 (by omega))
   replace tot := tot.trans (st11.up1 (.inr (by omega)))
   clear hR4
   have hR4 : OwnS (Kd.int .i64) g11 (t + 3) 3 a4 n3 c3 (setI l3 x3 x7) := hO4
   clear hO4
   refine WP.dn ?_
   refine NX.then_n ?_
   refine CP.seq ?_
   refine CP.seqR ?_
   refine WP.stl 2 ?_
   by_cases hc9 : (0 : Int) ≤ x3 ∧ x3 < ((setI l3 x3 x7).length : Int)
   case neg => rw [if_neg hc9] at hs; cases hs
   replace hs := of_if_p hs hc9
   obtain ⟨b10, u8, ha8⟩ := hR4.at (i := x3) (by first | exact hc9 | simpa only [setI_length] using hc9)
   refine WP.indexA (t := 22) (e := 3) (sz := 1) (cap := c3) (k := .i64) (i := x3) hR4.len ha8 (by kernel_rfl) (by kernel_rfl) hc9 ?_
   obtain ⟨cs4, hcR4, hcV4⟩ := hR4.src.view (getI_some hc9) ha8
   replace hcR4 := Kd.o_int hcR4
   refine WP.loadV [[.int .i64 (getI (setI l3 x3 x7) x3)]] [1] hcV4 hcR4 rfl (f := 0) (ty := 3) (agg := false) (size := 1) (rs := [[.int .i64 (getI (setI l3 x3 x7) x3)]]) (v := .int .i64 (getI (setI l3 x3 x7) x3)) (by kernel_rfl) (by kernel_rfl) (by kernel_rfl) (by kernel_rfl) ?_
   refine WP.stl 1 ?_
   refine WP.dn ?_
   refine NX.then_n ?_
   refine CP.refr 33 [(6, .func (.func 40) #[] #[.pointer (some ⟨b1, 0, none⟩), .pointer (some ⟨b2, 0, none⟩)]), (7, .slice a4 n3 c3), (8, .bool q2), (15, .int .i64 (l1.length : Int)), (16, .int .i64 x3), (29, .bool ((getI (setI l3 x3 x7) x3) == 0))] (by kernel_rfl) (by kernel_rfl) ?_
   clear ds
   intro ds
   refine CP.cond (b := ((getI (setI l3 x3 x7) x3) == 0)) (by kernel_rfl) (fun h7 => ?_) (fun h7 => ?_)
   ·replace hs := of_if_t hs h7
    refine CP.exit ?_
    refine NX.then_e ?_
    refine NX.block_s ?_
    refine NX.post ?_
    exact ⟨(setI l3 x3 x7), a4, n3, c3, q2, ⟨by kernel_rfl, by kernel_rfl⟩, tot, hB1, hB2, hR1, hR4, hs⟩
   replace hs := of_if_f hs h7
   refine CP.skip ?_
   refine NX.then_n ?_
   refine CP.region ?_
   refine WP.stl 1 ?_
   refine WP.dn ?_
   refine NX.block_n ?_
   refine NX.post ?_
   exact ⟨(setI l3 x3 x7), a4, n3, c3, true, ⟨by kernel_rfl, by kernel_rfl⟩, tot, hB1, hB2, hR1, hR4, hs⟩
  clear tot hs hB1 hB2 hR1 hR4
  rintro tm g ⟨l6, a7, n6, c6, q5, hF, tot, hB1, hB2, hR1, hR7, hs⟩
  clear ds
  obtain ⟨ds, rfl⟩ := hF.open
  clear hF
  unfold F.close_others.c1 at hs
  refine CP.region ?_
  refine WP.stl 2 ?_
  refine WP.dn ?_
  refine NX.post ?_
  exact ⟨l6, a7, n6, c6, q5, (IntKind.i64.wrap (x3 + 1)), ⟨by kernel_rfl, by kernel_rfl⟩, tot, hB1, hB2, hR1, hR7, hs⟩
 replace hs := of_if_f hs h5
 refine CP.exit ?_
 refine NX.then_e ?_
 refine NX.then_e ?_
 refine NX.block_s ?_
 refine NX.then_n ?_
 refine CP.seqR ?_
 refine WP.stl 4 ?_
 refine WP.dn ?_
 refine NX.then_n ?_
 refine CP.ret ?_
 refine NX.scope_r ?_
 obtain ⟨g12, hw1, st12, hnew⟩ := hR4.relab (by omega) r0
 refine NX.regw hw1 ?_
 replace tot := tot.trans (st12.up1 (.inr (by omega)))
 clear hR4
 have hR4 := hnew
 clear hnew
 replace hs := Option.some.inj hs
 obtain ⟨rfl, rfl⟩ := Prod.mk.inj hs
 exact NX.fin (v := .tuple #[.slice a4 n3 c3, .bool q2]) (Res.still (by kernel_rfl)) tot htL ⟨a4, n3, c3, rfl, hR4⟩
def F.coin_weigh.c1 (nx1 : Int → Int → Option (Int × Int)) (l1 : List Int) (x1 : Int) (x2 : Int) (q3 : Bool) : Option (Int × Int) := (if q3 = true then (some (0, 2)) else (nx1 (IntKind.i64.wrap (x1 + (getI l1 x2))) (IntKind.i64.wrap (x2 + 1))))
def F.coin_weigh.l1 (l1 : List Int) : Nat → Int → Int → Option (Int × Int)
 | 0, _, _ => none
 | k + 1, x1, x2 => (if decide (x2 < (l1.length : Int)) = true then (if (0 : Int) ≤ x2 ∧ x2 < (l1.length : Int) then (if decide ((getI l1 x2) < 0) = true then (F.coin_weigh.c1 (F.coin_weigh.l1 l1 k) l1 x1 x2 true) else (F.coin_weigh.c1 (F.coin_weigh.l1 l1 k) l1 x1 x2 (decide ((getI l1 x2) > 1024)))) else none) else (if (x1 == 0) = true then (some (0, 1)) else (some (x1, 0))))
def F.coin_weigh (l1 : List Int) : Option (Int × Int) := (F.coin_weigh.l1 l1 fuel 0 0)
theorem P.coin_weigh (g0 : GW) (l1 : List Int) (a1 : Option Addr) (n1 : Nat) (c1 : Nat) (hR1 : RdS (Kd.int .i64) g0 3 a1 n1 c1 l1) (o1 : Int) (o2 : Int) (hs : F.coin_weigh l1 = some (o1, o2)) :
  Calls Try.prog 41 #[.slice a1 n1 c1] g0.w (Ret NoM g0 fun v g => v = .tuple #[.int .i64 o1, .int .i64 o2]) := by
 refine calls_of (args := [.slice a1 n1 c1]) Try.func41 rfl (0) ?_
 intro t ht htL
 refine ⟨_, rfl, ?_⟩
 refine CP.refr 26 [(0, .slice a1 n1 c1)] (by kernel_rfl) (by kernel_rfl) ?_
 intro ds
 have tot : Step (fun l => NoM l ∨ t ≤ l) g0 g0 := Step.refl _ _
 unfold F.coin_weigh at hs
 refine CP.seqR ?_
 refine WP.stl 2 ?_
 refine WP.dn ?_
 refine NX.then_n ?_
 refine CP.seqR ?_
 refine WP.stl 1 ?_
 refine WP.dn ?_
 refine NX.then_n ?_
 refine CP.seq ?_
 refine CP.seqR ?_
 refine WP.stl 1 ?_
 refine WP.len (a := a1) (cp := c1) hR1.len (by kernel_rfl) ?_
 refine WP.stl 1 ?_
 refine WP.dn ?_
 refine NX.then_n ?_
 refine CP.block ?_
 generalize fuel = k1 at hs
 refine CP.loop (fun k1 tm g => ∃ (x1 : Int) (x2 : Int), Fr 26 [(4, .int .i64 x1), (7, .slice a1 n1 c1), (8, .int .i64 (l1.length : Int)), (9, .int .i64 x2)] tm ∧ Step (fun l => NoM l ∨ t ≤ l) g0 g ∧ RdS (Kd.int .i64) g 3 a1 n1 c1 l1 ∧ F.coin_weigh.l1 l1 k1 x1 x2 = some (o1, o2)) k1 ?_ ?_ ?_
 ·exact ⟨0, 0, ⟨by kernel_rfl, by kernel_rfl⟩, tot, hR1, hs⟩
 ·rintro tm g ⟨x1, x2, hF, tot, hR1, hs⟩
  exact absurd hs (by simp [F.coin_weigh.l1])
 clear tot hs hR1
 rintro k1 tm g ⟨x1, x2, hF, tot, hR1, hs⟩
 clear ds
 obtain ⟨ds, rfl⟩ := hF.open
 clear hF
 unfold F.coin_weigh.l1 at hs
 refine CP.seqR ?_
 refine WP.stl 1 ?_
 refine WP.dn ?_
 refine NX.then_n ?_
 refine CP.seq ?_
 refine CP.cond (b := decide (x2 < (l1.length : Int))) (by kernel_rfl) (fun h9 => ?_) (fun h9 => ?_)
 ·replace hs := of_if_t hs h9
  refine CP.skip ?_
  refine NX.then_n ?_
  refine CP.seq ?_
  refine CP.block ?_
  refine CP.seqR ?_
  by_cases hc3 : (0 : Int) ≤ x2 ∧ x2 < (l1.length : Int)
  case neg => rw [if_neg hc3] at hs; cases hs
  replace hs := of_if_p hs hc3
  obtain ⟨b3, u3, ha3⟩ := hR1.at hc3
  refine WP.indexA (t := 22) (e := 3) (sz := 1) (cap := c1) (k := .i64) (i := x2) hR1.len ha3 (by kernel_rfl) (by kernel_rfl) hc3 ?_
  obtain ⟨cs3, hcR3, hcV3⟩ := hR1.src.view (getI_some hc3) ha3
  replace hcR3 := Kd.o_int hcR3
  refine WP.loadV [[.int .i64 (getI l1 x2)]] [1] hcV3 hcR3 rfl (f := 0) (ty := 3) (agg := false) (size := 1) (rs := [[.int .i64 (getI l1 x2)]]) (v := .int .i64 (getI l1 x2)) (by kernel_rfl) (by kernel_rfl) (by kernel_rfl) (by kernel_rfl) ?_
  refine WP.stl 1 ?_
  refine WP.dn ?_
  refine NX.then_n ?_
  refine CP.seq ?_
  refine CP.cut (fun tm g => ∃ (q3 : Bool), Fr 26 [(4, .int .i64 x1), (6, .int .i64 (getI l1 x2)), (7, .slice a1 n1 c1), (8, .int .i64 (l1.length : Int)), (9, .int .i64 x2), (18, .bool q3)] tm ∧ Step (fun l => NoM l ∨ t ≤ l) g0 g ∧ RdS (Kd.int .i64) g 3 a1 n1 c1 l1 ∧ (F.coin_weigh.c1 (F.coin_weigh.l1 l1 k1) l1 x1 x2 q3) = some (o1, o2)) ?_ ?_
  ·refine CP.region ?_
   refine WP.stl 3 ?_
   refine WP.guard 15 (b := decide ((getI l1 x2) < 0)) (by kernel_rfl) (fun h12 => ?_) (fun h12 => ?_)
   ·replace hs := of_if_t hs h12
    refine WP.stl 3 ?_
    refine WP.dn ?_
    refine NX.post ?_
    exact ⟨true, ⟨by kernel_rfl, by kernel_rfl⟩, tot, hR1, hs⟩
   replace hs := of_if_f hs h12
   refine WP.stl 3 ?_
   refine WP.dn ?_
   refine NX.post ?_
   exact ⟨decide ((getI l1 x2) > 1024), ⟨by kernel_rfl, by kernel_rfl⟩, tot, hR1, hs⟩
  clear tot hs hR1
  rintro tm g ⟨q3, hF, tot, hR1, hs⟩
  clear ds
  obtain ⟨ds, rfl⟩ := hF.open
  clear hF
  unfold F.coin_weigh.c1 at hs
  refine CP.cond (b := q3) (by kernel_rfl) (fun h11 => ?_) (fun h11 => ?_)
  ·replace hs := of_if_t hs h11
   refine CP.seqR ?_
   refine WP.stl 2 ?_
   refine WP.dn ?_
   refine NX.then_n ?_
   refine CP.ret ?_
   refine NX.then_r ?_
   refine NX.block_r ?_
   refine NX.then_r ?_
   refine NX.then_r ?_
   refine NX.block_r ?_
   refine NX.then_r ?_
   replace hs := Option.some.inj hs
   obtain ⟨rfl, rfl⟩ := Prod.mk.inj hs
   exact NX.fin (v := .tuple #[.int .i64 0, .int .i64 2]) (Res.still (by kernel_rfl)) tot htL rfl
  replace hs := of_if_f hs h11
  refine CP.skip ?_
  refine NX.then_n ?_
  refine CP.region ?_
  refine WP.stl 4 ?_
  refine WP.dn ?_
  refine NX.block_n ?_
  refine NX.then_n ?_
  refine CP.region ?_
  refine WP.stl 2 ?_
  refine WP.dn ?_
  refine NX.post ?_
  exact ⟨(IntKind.i64.wrap (x1 + (getI l1 x2))), (IntKind.i64.wrap (x2 + 1)), ⟨by kernel_rfl, by kernel_rfl⟩, tot, hR1, hs⟩
 replace hs := of_if_f hs h9
 refine CP.exit ?_
 refine NX.then_e ?_
 refine NX.then_e ?_
 refine NX.block_s ?_
 refine NX.then_n ?_
 refine CP.seq ?_
 refine CP.seqR ?_
 refine WP.stl 2 ?_
 refine WP.dn ?_
 refine NX.then_n ?_
 refine CP.cond (b := (x1 == 0)) (by kernel_rfl) (fun h13 => ?_) (fun h13 => ?_)
 ·replace hs := of_if_t hs h13
  refine CP.seqR ?_
  refine WP.stl 2 ?_
  refine WP.dn ?_
  refine NX.then_n ?_
  refine CP.ret ?_
  refine NX.then_r ?_
  replace hs := Option.some.inj hs
  obtain ⟨rfl, rfl⟩ := Prod.mk.inj hs
  exact NX.fin (v := .tuple #[.int .i64 0, .int .i64 1]) (Res.still (by kernel_rfl)) tot htL rfl
 replace hs := of_if_f hs h13
 refine CP.skip ?_
 refine NX.then_n ?_
 refine CP.seqR ?_
 refine WP.stl 3 ?_
 refine WP.dn ?_
 refine NX.then_n ?_
 refine CP.ret ?_
 replace hs := Option.some.inj hs
 obtain ⟨rfl, rfl⟩ := Prod.mk.inj hs
 exact NX.fin (v := .tuple #[.int .i64 x1, .int .i64 0]) (Res.still (by kernel_rfl)) tot htL rfl
def F.coin_Split.c2 (l18 : List Int) : Option ((List Int) × Int) := (some (l18, 0))
def F.coin_Split.c3 (nx2 : Int → (List Int) → Int → Option ((List Int) × Int)) (x28 : Int) (x32 : Int) (l23 : List Int) : Option ((List Int) × Int) := (nx2 x32 l23 (IntKind.i64.wrap (x28 + 1)))
def F.coin_Split.l2 (l1 : List Int) : Nat → Int → (List Int) → Int → Option ((List Int) × Int)
 | 0, _, _, _ => none
 | k + 1, x27, l20, x28 => (if decide (x28 < (l1.length : Int)) = true then (if (0 : Int) ≤ x28 ∧ x28 < (l1.length : Int) then (if (x27 == 0) = true then (F.coin_Split.c2 l20) else (if ((getI l1 x28) == 0) = true then (F.coin_Split.c3 (F.coin_Split.l2 l1 k) x28 x27 l20) else (if (0 : Int) ≤ x28 ∧ x28 < (l20.length : Int) then (if (0 : Int) ≤ x28 ∧ x28 < (l20.length : Int) then (F.coin_Split.c3 (F.coin_Split.l2 l1 k) x28 (IntKind.i64.wrap (x27 - 1)) (setI l20 x28 (IntKind.i64.wrap ((getI l20 x28) + 1)))) else none) else none))) else none) else (F.coin_Split.c2 l20))
def F.coin_Split.l1 (x1 : Int) (l1 : List Int) (x2 : Int) : Nat → Int → (List Int) → Int → Option ((List Int) × Int)
 | 0, _, _, _ => none
 | k + 1, x10, l7, x11 => (if decide (x11 < (l1.length : Int)) = true then (if (0 : Int) ≤ x11 ∧ x11 < (l1.length : Int) then (if x2 ≠ 0 then (if (0 : Int) ≤ x11 ∧ x11 < (l7.length : Int) then (if (0 : Int) ≤ x11 ∧ x11 < ((setI l7 x11 (IntKind.i64.wrap ((IntKind.i64.wrap (x1 * (getI l1 x11))).tdiv x2))).length : Int) then (F.coin_Split.l1 x1 l1 x2 k (IntKind.i64.wrap (x10 - (getI (setI l7 x11 (IntKind.i64.wrap ((IntKind.i64.wrap (x1 * (getI l1 x11))).tdiv x2))) x11))) (setI l7 x11 (IntKind.i64.wrap ((IntKind.i64.wrap (x1 * (getI l1 x11))).tdiv x2))) (IntKind.i64.wrap (x11 + 1))) else none) else none) else none) else none) else (F.coin_Split.l2 l1 fuel x10 l7 0))
def F.coin_Split.c1 (x1 : Int) (l1 : List Int) (q2 : Bool) : Option ((List Int) × Int) := (if q2 = true then (some ([], 1)) else ((F.coin_weigh l1).bind fun (x2, x3) => (if (x3 != 0) = true then (some ([], x3)) else (if (0 : Int) ≤ (l1.length : Int) ∧ (l1.length : Int) ≤ 17592186044416 then (F.coin_Split.l1 x1 l1 x2 fuel x1 (List.replicate (l1.length : Int).toNat (0 : Int)) 0) else none))))
def F.coin_Split (x1 : Int) (l1 : List Int) : Option ((List Int) × Int) := ((F.coin_Right x1).bind fun q1 => (if (!q1) = true then (some ([], 2)) else (if ((l1.length : Int) == 0) = true then (F.coin_Split.c1 x1 l1 true) else (F.coin_Split.c1 x1 l1 (decide ((l1.length : Int) > 8))))))
theorem P.coin_Split (g0 : GW) (r0 : Nat) (x1 : Int) (l1 : List Int) (a1 : Option Addr) (n1 : Nat) (c1 : Nat) (hR1 : RdS (Kd.int .i64) g0 3 a1 n1 c1 l1) (o1 : List Int) (o2 : Int) (hs : F.coin_Split x1 l1 = some (o1, o2)) :
  Calls Try.prog 28 #[.int .i64 x1, .slice a1 n1 c1] g0.w (Ret NoM g0 fun v g => ∃ (a_1 : Option Addr) (n_1 : Nat) (c_1 : Nat), v = .tuple #[.slice a_1 n_1 c_1, .int .i64 o2] ∧ OwnS (Kd.int .i64) g r0 3 a_1 n_1 c_1 o1) := by
 refine calls_of (args := [.int .i64 x1, .slice a1 n1 c1]) Try.func28 rfl (r0 + 0) ?_
 intro t ht htL
 refine ⟨_, rfl, ?_⟩
 refine CP.refr 84 [(0, .int .i64 x1), (1, .slice a1 n1 c1)] (by kernel_rfl) (by kernel_rfl) ?_
 intro ds
 have tot : Step (fun l => NoM l ∨ t ≤ l) g0 g0 := Step.refl _ _
 unfold F.coin_Split at hs
 refine CP.seqR ?_
 refine WP.stl 2 ?_
 refine WP.dn ?_
 refine NX.then_n ?_
 refine CP.scope ?_
 refine CP.seq ?_
 refine CP.block ?_
 refine CP.seqR ?_
 refine WP.stl 1 ?_
 replace hs := Option.bind_eq_some_iff.1 hs
 obtain ⟨q1, hk1, hs⟩ := hs
 have hcal1 := P.coin_Right g0 x1 q1 hk1
 refine WP.callC hcal1 (by kernel_rfl) ?_
 rintro _ g1 st1 rfl
 replace hR1 := hR1.mono st1 (fun x => x)
 replace tot := tot.trans st1.pure
 refine WP.stl 2 ?_
 refine WP.dn ?_
 refine NX.then_n ?_
 refine CP.cond (b := (!q1)) (by kernel_rfl) (fun h1 => ?_) (fun h1 => ?_)
 ·replace hs := of_if_t hs h1
  refine CP.seqR ?_
  refine WP.stl 2 ?_
  refine WP.dn ?_
  refine NX.then_n ?_
  refine CP.ret ?_
  refine NX.block_r ?_
  refine NX.then_r ?_
  refine NX.scope_r ?_
  replace hs := Option.some.inj hs
  obtain ⟨rfl, rfl⟩ := Prod.mk.inj hs
  exact NX.fin (v := .tuple #[.slice none 0 0, .int .i64 2]) (Res.still (by kernel_rfl)) tot htL ⟨none, 0, 0, rfl, (OwnS.nil _ _ _ _)⟩
 replace hs := of_if_f hs h1
 refine CP.cut (fun tm g => ∃ (q2 : Bool), Fr 84 [(0, .int .i64 x1), (1, .slice a1 n1 c1), (18, .bool q2)] tm ∧ Step (fun l => NoM l ∨ t ≤ l) g0 g ∧ RdS (Kd.int .i64) g 3 a1 n1 c1 l1 ∧ (F.coin_Split.c1 x1 l1 q2) = some (o1, o2)) ?_ ?_
 ·refine CP.region ?_
  refine WP.stl 1 ?_
  refine WP.len (a := a1) (cp := c1) hR1.len (by kernel_rfl) ?_
  refine WP.stl 2 ?_
  refine WP.guard 22 (b := ((l1.length : Int) == 0)) (by kernel_rfl) (fun h37 => ?_) (fun h37 => ?_)
  ·replace hs := of_if_t hs h37
   refine WP.stl 5 ?_
   refine WP.dn ?_
   refine NX.post ?_
   exact ⟨true, ⟨by kernel_rfl, by kernel_rfl⟩, tot, hR1, hs⟩
  replace hs := of_if_f hs h37
  refine WP.stl 1 ?_
  refine WP.len (a := a1) (cp := c1) hR1.len (by kernel_rfl) ?_
  refine WP.stl 3 ?_
  refine WP.dn ?_
  refine NX.post ?_
  exact ⟨decide ((l1.length : Int) > 8), ⟨by kernel_rfl, by kernel_rfl⟩, tot, hR1, hs⟩
 clear tot hs hR1
 rintro tm g ⟨q2, hF, tot, hR1, hs⟩
 clear ds
 obtain ⟨ds, rfl⟩ := hF.open
 clear hF
 unfold F.coin_Split.c1 at hs
 refine CP.cond (b := q2) (by kernel_rfl) (fun h3 => ?_) (fun h3 => ?_)
 ·replace hs := of_if_t hs h3
  refine CP.seqR ?_
  refine WP.stl 2 ?_
  refine WP.dn ?_
  refine NX.then_n ?_
  refine CP.ret ?_
  refine NX.block_r ?_
  refine NX.then_r ?_
  refine NX.scope_r ?_
  replace hs := Option.some.inj hs
  obtain ⟨rfl, rfl⟩ := Prod.mk.inj hs
  exact NX.fin (v := .tuple #[.slice none 0 0, .int .i64 1]) (Res.still (by kernel_rfl)) tot htL ⟨none, 0, 0, rfl, (OwnS.nil _ _ _ _)⟩
 replace hs := of_if_f hs h3
 refine CP.skip ?_
 refine NX.block_n ?_
 refine NX.then_n ?_
 refine CP.seqR ?_
 refine WP.stl 1 ?_
 replace hs := Option.bind_eq_some_iff.1 hs
 obtain ⟨⟨x2, x3⟩, hk2, hs⟩ := hs
 dsimp only at hs
 have hcal2 := P.coin_weigh g l1 a1 n1 c1 hR1 x2 x3 hk2
 refine WP.callC hcal2 (by kernel_rfl) ?_
 rintro _ g2 st2 rfl
 replace hR1 := hR1.mono st2 (fun x => x)
 replace tot := tot.trans st2.pure
 refine WP.stl 5 ?_
 refine WP.dn ?_
 refine NX.then_n ?_
 refine CP.seq ?_
 refine CP.seqR ?_
 refine WP.stl 2 ?_
 refine WP.dn ?_
 refine NX.then_n ?_
 refine CP.cond (b := (x3 != 0)) (by kernel_rfl) (fun h4 => ?_) (fun h4 => ?_)
 ·replace hs := of_if_t hs h4
  refine CP.seqR ?_
  refine WP.stl 3 ?_
  refine WP.dn ?_
  refine NX.then_n ?_
  refine CP.ret ?_
  refine NX.then_r ?_
  refine NX.scope_r ?_
  replace hs := Option.some.inj hs
  obtain ⟨rfl, rfl⟩ := Prod.mk.inj hs
  exact NX.fin (v := .tuple #[.slice none 0 0, .int .i64 x3]) (Res.still (by kernel_rfl)) tot htL ⟨none, 0, 0, rfl, (OwnS.nil _ _ _ _)⟩
 replace hs := of_if_f hs h4
 refine CP.skip ?_
 refine NX.then_n ?_
 refine CP.seqR ?_
 refine WP.stl 2 ?_
 refine WP.dn ?_
 refine NX.then_n ?_
 refine CP.seqR ?_
 refine WP.stl 1 ?_
 refine WP.len (a := a1) (cp := c1) hR1.len (by kernel_rfl) ?_
 by_cases hc1 : (0 : Int) ≤ (l1.length : Int) ∧ (l1.length : Int) ≤ 17592186044416
 case neg => rw [if_neg hc1] at hs; cases hs
 replace hs := of_if_p hs hc1
 refine WP.make (kd := (Kd.int .i64)) (t + 1) (t := 22) (e := 3) (bytes := 8) (kl := .i64) (kc := .i64) (i := (l1.length : Int)) (by kernel_rfl) (by kernel_rfl) (by omega) (by omega) (by omega) (z := 0) (by intro zv hz; cases hz; exact (by exact rfl)) ?_
 intro g3 a2 st3 hR2
 replace hR1 := hR1.mono st3 (fun x => x)
 replace tot := tot.trans st3.pure
 refine WP.stl 1 ?_
 refine WP.dn ?_
 refine NX.then_n ?_
 refine CP.refr 84 [(0, .int .i64 x1), (1, .slice a1 n1 c1), (6, .int .i64 x2), (8, .int .i64 x1), (9, .slice a2 ((l1.length : Int).toNat) ((l1.length : Int).toNat))] (by kernel_rfl) (by kernel_rfl) ?_
 clear ds
 intro ds
 refine CP.seq ?_
 refine CP.seqR ?_
 refine WP.stl 1 ?_
 refine WP.len (a := a1) (cp := c1) hR1.len (by kernel_rfl) ?_
 refine WP.stl 1 ?_
 refine WP.dn ?_
 refine NX.then_n ?_
 refine CP.block ?_
 generalize fuel = k1 at hs
 refine CP.loop (fun k1 tm g => ∃ (x10 : Int) (l7 : List Int) (a8 : Option Addr) (n7 : Nat) (c7 : Nat) (x11 : Int), Fr 84 [(0, .int .i64 x1), (1, .slice a1 n1 c1), (6, .int .i64 x2), (8, .int .i64 x10), (9, .slice a8 n7 c7), (39, .slice a1 n1 c1), (40, .int .i64 (l1.length : Int)), (41, .int .i64 x11)] tm ∧ Step (fun l => NoM l ∨ t ≤ l) g0 g ∧ RdS (Kd.int .i64) g 3 a1 n1 c1 l1 ∧ OwnS (Kd.int .i64) g (t + 1) 3 a8 n7 c7 l7 ∧ F.coin_Split.l1 x1 l1 x2 k1 x10 l7 x11 = some (o1, o2)) k1 ?_ ?_ ?_
 ·exact ⟨x1, (List.replicate (l1.length : Int).toNat (0 : Int)), a2, (l1.length : Int).toNat, (l1.length : Int).toNat, 0, ⟨by kernel_rfl, by kernel_rfl⟩, tot, hR1, hR2, hs⟩
 ·rintro tm g ⟨x10, l7, a8, n7, c7, x11, hF, tot, hR1, hR8, hs⟩
  exact absurd hs (by simp [F.coin_Split.l1])
 clear tot hs hR1 hR2
 rintro k1 tm g ⟨x10, l7, a8, n7, c7, x11, hF, tot, hR1, hR8, hs⟩
 clear ds
 obtain ⟨ds, rfl⟩ := hF.open
 clear hF
 unfold F.coin_Split.l1 at hs
 refine CP.seqR ?_
 refine WP.stl 1 ?_
 refine WP.dn ?_
 refine NX.then_n ?_
 refine CP.seq ?_
 refine CP.cond (b := decide (x11 < (l1.length : Int))) (by kernel_rfl) (fun h19 => ?_) (fun h19 => ?_)
 ·replace hs := of_if_t hs h19
  refine CP.skip ?_
  refine NX.then_n ?_
  refine CP.seq ?_
  refine CP.block ?_
  refine CP.seqR ?_
  refine WP.stl 1 ?_
  by_cases hc22 : (0 : Int) ≤ x11 ∧ x11 < (l1.length : Int)
  case neg => rw [if_neg hc22] at hs; cases hs
  replace hs := of_if_p hs hc22
  obtain ⟨b19, u19, ha19⟩ := hR1.at hc22
  refine WP.indexA (t := 22) (e := 3) (sz := 1) (cap := c1) (k := .i64) (i := x11) hR1.len ha19 (by kernel_rfl) (by kernel_rfl) hc22 ?_
  obtain ⟨cs13, hcR13, hcV13⟩ := hR1.src.view (getI_some hc22) ha19
  replace hcR13 := Kd.o_int hcR13
  refine WP.loadV [[.int .i64 (getI l1 x11)]] [1] hcV13 hcR13 rfl (f := 0) (ty := 3) (agg := false) (size := 1) (rs := [[.int .i64 (getI l1 x11)]]) (v := .int .i64 (getI l1 x11)) (by kernel_rfl) (by kernel_rfl) (by kernel_rfl) (by kernel_rfl) ?_
  refine WP.stl 2 ?_
  refine WP.dn ?_
  refine NX.then_n ?_
  refine CP.seqR ?_
  refine WP.stl 6 ?_
  by_cases hc23 : x2 ≠ 0
  case neg => rw [if_neg hc23] at hs; cases hs
  replace hs := of_if_p hs hc23
  refine WP.quo (k := .i64) (x := (IntKind.i64.wrap (x1 * (getI l1 x11)))) (y := x2) (by kernel_rfl) hc23 ?_
  by_cases hc24 : (0 : Int) ≤ x11 ∧ x11 < (l7.length : Int)
  case neg => rw [if_neg hc24] at hs; cases hs
  replace hs := of_if_p hs hc24
  obtain ⟨b20, u20, ha20⟩ := hR8.at hc24
  refine WP.indexA (t := 22) (e := 3) (sz := 1) (cap := c7) (k := .i64) (i := x11) hR8.len ha20 (by kernel_rfl) (by kernel_rfl) hc24 ?_
  refine WP.storeO (ty := 3) (v := .int .i64 (IntKind.i64.wrap ((IntKind.i64.wrap (x1 * (getI l1 x11))).tdiv x2))) hR8 (by omega) (i := x11.toNat) (by first | omega | (simp only [setI_length] at *; omega)) ha20 (by kernel_rfl) (x := (IntKind.i64.wrap ((IntKind.i64.wrap (x1 * (getI l1 x11))).tdiv x2))) (by exact rfl) (by kernel_rfl) ?_
  intro g10 st10 hO7
  replace hR1 := hR1.mono st10 (WL.no1 (by omega))
  replace tot := tot.trans (st10.up1 (.inr (by omega)))
  clear hR8
  have hR8 : OwnS (Kd.int .i64) g10 (t + 1) 3 a8 n7 c7 (setI l7 x11 (IntKind.i64.wrap ((IntKind.i64.wrap (x1 * (getI l1 x11))).tdiv x2))) := hO7
  clear hO7
  refine WP.dn ?_
  refine NX.then_n ?_
  refine CP.refr 84 [(0, .int .i64 x1), (1, .slice a1 n1 c1), (6, .int .i64 x2), (8, .int .i64 x10), (9, .slice a8 n7 c7), (10, .int .i64 x11), (39, .slice a1 n1 c1), (40, .int .i64 (l1.length : Int)), (41, .int .i64 x11)] (by kernel_rfl) (by kernel_rfl) ?_
  clear ds
  intro ds
  refine CP.region ?_
  refine WP.stl 3 ?_
  by_cases hc25 : (0 : Int) ≤ x11 ∧ x11 < ((setI l7 x11 (IntKind.i64.wrap ((IntKind.i64.wrap (x1 * (getI l1 x11))).tdiv x2))).length : Int)
  case neg => rw [if_neg hc25] at hs; cases hs
  replace hs := of_if_p hs hc25
  obtain ⟨b21, u21, ha21⟩ := hR8.at (i := x11) (by first | exact hc25 | simpa only [setI_length] using hc25)
  refine WP.indexA (t := 22) (e := 3) (sz := 1) (cap := c7) (k := .i64) (i := x11) hR8.len ha21 (by kernel_rfl) (by kernel_rfl) hc25 ?_
  obtain ⟨cs14, hcR14, hcV14⟩ := hR8.src.view (getI_some hc25) ha21
  replace hcR14 := Kd.o_int hcR14
  refine WP.loadV [[.int .i64 (getI (setI l7 x11 (IntKind.i64.wrap ((IntKind.i64.wrap (x1 * (getI l1 x11))).tdiv x2))) x11)]] [1] hcV14 hcR14 rfl (f := 0) (ty := 3) (agg := false) (size := 1) (rs := [[.int .i64 (getI (setI l7 x11 (IntKind.i64.wrap ((IntKind.i64.wrap (x1 * (getI l1 x11))).tdiv x2))) x11)]]) (v := .int .i64 (getI (setI l7 x11 (IntKind.i64.wrap ((IntKind.i64.wrap (x1 * (getI l1 x11))).tdiv x2))) x11)) (by kernel_rfl) (by kernel_rfl) (by kernel_rfl) (by kernel_rfl) ?_
  refine WP.stl 2 ?_
  refine WP.dn ?_
  refine NX.block_n ?_
  refine NX.then_n ?_
  refine CP.region ?_
  refine WP.stl 2 ?_
  refine WP.dn ?_
  refine NX.post ?_
  exact ⟨(IntKind.i64.wrap (x10 - (getI (setI l7 x11 (IntKind.i64.wrap ((IntKind.i64.wrap (x1 * (getI l1 x11))).tdiv x2))) x11))), (setI l7 x11 (IntKind.i64.wrap ((IntKind.i64.wrap (x1 * (getI l1 x11))).tdiv x2))), a8, n7, c7, (IntKind.i64.wrap (x11 + 1)), ⟨by kernel_rfl, by kernel_rfl⟩, tot, hR1, hR8, hs⟩
 replace hs := of_if_f hs h19
 refine CP.exit ?_
 refine NX.then_e ?_
 refine NX.then_e ?_
 refine NX.block_s ?_
 refine NX.then_n ?_
 refine CP.seq ?_
 refine CP.label ?_
 refine NX.then_n ?_
 refine CP.cut (fun tm g => ∃ (l18 : List Int) (a19 : Option Addr) (n18 : Nat) (c18 : Nat), Fr 84 [(9, .slice a19 n18 c18)] tm ∧ Step (fun l => NoM l ∨ t ≤ l) g0 g ∧ OwnS (Kd.int .i64) g (t + 1) 3 a19 n18 c18 l18 ∧ (F.coin_Split.c2 l18) = some (o1, o2)) ?_ ?_
 ·refine CP.seqR ?_
  refine WP.stl 1 ?_
  refine WP.len (a := a1) (cp := c1) hR1.len (by kernel_rfl) ?_
  refine WP.stl 1 ?_
  refine WP.dn ?_
  refine NX.then_n ?_
  refine CP.block ?_
  generalize fuel = k2 at hs
  refine CP.loop (fun k2 tm g => ∃ (x27 : Int) (l20 : List Int) (a21 : Option Addr) (n20 : Nat) (c20 : Nat) (x28 : Int), Fr 84 [(8, .int .i64 x27), (9, .slice a21 n20 c20), (61, .slice a1 n1 c1), (62, .int .i64 (l1.length : Int)), (63, .int .i64 x28)] tm ∧ Step (fun l => NoM l ∨ t ≤ l) g0 g ∧ OwnS (Kd.int .i64) g (t + 1) 3 a21 n20 c20 l20 ∧ RdS (Kd.int .i64) g 3 a1 n1 c1 l1 ∧ F.coin_Split.l2 l1 k2 x27 l20 x28 = some (o1, o2)) k2 ?_ ?_ ?_
  ·exact ⟨x10, l7, a8, n7, c7, 0, ⟨by kernel_rfl, by kernel_rfl⟩, tot, hR8, hR1, hs⟩
  ·rintro tm g ⟨x27, l20, a21, n20, c20, x28, hF, tot, hR21, hR1, hs⟩
   exact absurd hs (by simp [F.coin_Split.l2])
  clear tot hs hR8 hR1
  rintro k2 tm g ⟨x27, l20, a21, n20, c20, x28, hF, tot, hR21, hR1, hs⟩
  clear ds
  obtain ⟨ds, rfl⟩ := hF.open
  clear hF
  unfold F.coin_Split.l2 at hs
  refine CP.seqR ?_
  refine WP.stl 1 ?_
  refine WP.dn ?_
  refine NX.then_n ?_
  refine CP.seq ?_
  refine CP.cond (b := decide (x28 < (l1.length : Int))) (by kernel_rfl) (fun h32 => ?_) (fun h32 => ?_)
  ·replace hs := of_if_t hs h32
   refine CP.skip ?_
   refine NX.then_n ?_
   refine CP.cut (fun tm g => ∃ (x32 : Int) (l23 : List Int) (a24 : Option Addr) (n23 : Nat) (c23 : Nat), Fr 84 [(8, .int .i64 x32), (9, .slice a24 n23 c23), (61, .slice a1 n1 c1), (62, .int .i64 (l1.length : Int)), (63, .int .i64 x28)] tm ∧ Step (fun l => NoM l ∨ t ≤ l) g0 g ∧ OwnS (Kd.int .i64) g (t + 1) 3 a24 n23 c23 l23 ∧ RdS (Kd.int .i64) g 3 a1 n1 c1 l1 ∧ (F.coin_Split.c3 (F.coin_Split.l2 l1 k2) x28 x32 l23) = some (o1, o2)) ?_ ?_
   ·refine CP.block ?_
    refine CP.seqR ?_
    refine WP.stl 1 ?_
    by_cases hc41 : (0 : Int) ≤ x28 ∧ x28 < (l1.length : Int)
    case neg => rw [if_neg hc41] at hs; cases hs
    replace hs := of_if_p hs hc41
    obtain ⟨b37, u37, ha37⟩ := hR1.at hc41
    refine WP.indexA (t := 22) (e := 3) (sz := 1) (cap := c1) (k := .i64) (i := x28) hR1.len ha37 (by kernel_rfl) (by kernel_rfl) hc41 ?_
    obtain ⟨cs25, hcR25, hcV25⟩ := hR1.src.view (getI_some hc41) ha37
    replace hcR25 := Kd.o_int hcR25
    refine WP.loadV [[.int .i64 (getI l1 x28)]] [1] hcV25 hcR25 rfl (f := 0) (ty := 3) (agg := false) (size := 1) (rs := [[.int .i64 (getI l1 x28)]]) (v := .int .i64 (getI l1 x28)) (by kernel_rfl) (by kernel_rfl) (by kernel_rfl) (by kernel_rfl) ?_
    refine WP.stl 2 ?_
    refine WP.dn ?_
    refine NX.then_n ?_
    refine CP.seq ?_
    refine CP.block ?_
    refine CP.seqR ?_
    refine WP.stl 3 ?_
    refine WP.dn ?_
    refine NX.then_n ?_
    refine CP.cond (b := (x27 == 0)) (by kernel_rfl) (fun h35 => ?_) (fun h35 => ?_)
    ·replace hs := of_if_t hs h35
     refine CP.exit ?_
     refine NX.block_o (by rfl) ?_
     refine NX.then_e ?_
     refine NX.block_o (by rfl) ?_
     refine NX.then_e ?_
     refine NX.then_e ?_
     refine NX.block_s ?_
     refine NX.post ?_
     exact ⟨l20, a21, n20, c20, ⟨by kernel_rfl, by kernel_rfl⟩, tot, hR21, hs⟩
    replace hs := of_if_f hs h35
    refine CP.seqR ?_
    refine WP.stl 3 ?_
    refine WP.dn ?_
    refine NX.then_n ?_
    refine CP.cond (b := ((getI l1 x28) == 0)) (by kernel_rfl) (fun h36 => ?_) (fun h36 => ?_)
    ·replace hs := of_if_t hs h36
     refine CP.exit ?_
     refine NX.block_o (by rfl) ?_
     refine NX.then_e ?_
     refine NX.block_s ?_
     refine NX.post ?_
     exact ⟨x27, l20, a21, n20, c20, ⟨by kernel_rfl, by kernel_rfl⟩, tot, hR21, hR1, hs⟩
    replace hs := of_if_f hs h36
    refine CP.skip ?_
    refine NX.block_n ?_
    refine NX.then_n ?_
    refine CP.seqR ?_
    refine WP.stl 2 ?_
    by_cases hc42 : (0 : Int) ≤ x28 ∧ x28 < (l20.length : Int)
    case neg => rw [if_neg hc42] at hs; cases hs
    replace hs := of_if_p hs hc42
    obtain ⟨b38, u38, ha38⟩ := hR21.at hc42
    refine WP.indexA (t := 22) (e := 3) (sz := 1) (cap := c20) (k := .i64) (i := x28) hR21.len ha38 (by kernel_rfl) (by kernel_rfl) hc42 ?_
    obtain ⟨cs26, hcR26, hcV26⟩ := hR21.src.view (getI_some hc42) ha38
    replace hcR26 := Kd.o_int hcR26
    refine WP.loadV [[.int .i64 (getI l20 x28)]] [1] hcV26 hcR26 rfl (f := 0) (ty := 3) (agg := false) (size := 1) (rs := [[.int .i64 (getI l20 x28)]]) (v := .int .i64 (getI l20 x28)) (by kernel_rfl) (by kernel_rfl) (by kernel_rfl) (by kernel_rfl) ?_
    refine WP.stl 1 ?_
    by_cases hc43 : (0 : Int) ≤ x28 ∧ x28 < (l20.length : Int)
    case neg => rw [if_neg hc43] at hs; cases hs
    replace hs := of_if_p hs hc43
    obtain ⟨b39, u39, ha39⟩ := hR21.at hc43
    refine WP.indexA (t := 22) (e := 3) (sz := 1) (cap := c20) (k := .i64) (i := x28) hR21.len ha39 (by kernel_rfl) (by kernel_rfl) hc43 ?_
    refine WP.storeO (ty := 3) (v := .int .i64 (IntKind.i64.wrap ((getI l20 x28) + 1))) hR21 (by omega) (i := x28.toNat) (by first | omega | (simp only [setI_length] at *; omega)) ha39 (by kernel_rfl) (x := (IntKind.i64.wrap ((getI l20 x28) + 1))) (by exact rfl) (by kernel_rfl) ?_
    intro g17 st17 hO13
    replace hR1 := hR1.mono st17 (WL.no1 (by omega))
    replace tot := tot.trans (st17.up1 (.inr (by omega)))
    clear hR21
    have hR21 : OwnS (Kd.int .i64) g17 (t + 1) 3 a21 n20 c20 (setI l20 x28 (IntKind.i64.wrap ((getI l20 x28) + 1))) := hO13
    clear hO13
    refine WP.dn ?_
    refine NX.then_n ?_
    refine CP.refr 84 [(8, .int .i64 x27), (9, .slice a21 n20 c20), (61, .slice a1 n1 c1), (62, .int .i64 (l1.length : Int)), (63, .int .i64 x28)] (by kernel_rfl) (by kernel_rfl) ?_
    clear ds
    intro ds
    refine CP.region ?_
    refine WP.stl 3 ?_
    refine WP.dn ?_
    refine NX.block_n ?_
    refine NX.post ?_
    exact ⟨(IntKind.i64.wrap (x27 - 1)), (setI l20 x28 (IntKind.i64.wrap ((getI l20 x28) + 1))), a21, n20, c20, ⟨by kernel_rfl, by kernel_rfl⟩, tot, hR21, hR1, hs⟩
   clear tot hs hR21 hR1
   rintro tm g ⟨x32, l23, a24, n23, c23, hF, tot, hR24, hR1, hs⟩
   clear ds
   obtain ⟨ds, rfl⟩ := hF.open
   clear hF
   unfold F.coin_Split.c3 at hs
   refine CP.region ?_
   refine WP.stl 2 ?_
   refine WP.dn ?_
   refine NX.post ?_
   exact ⟨x32, l23, a24, n23, c23, (IntKind.i64.wrap (x28 + 1)), ⟨by kernel_rfl, by kernel_rfl⟩, tot, hR24, hR1, hs⟩
  replace hs := of_if_f hs h32
  refine CP.exit ?_
  refine NX.then_e ?_
  refine NX.then_e ?_
  refine NX.block_s ?_
  refine NX.post ?_
  exact ⟨l20, a21, n20, c20, ⟨by kernel_rfl, by kernel_rfl⟩, tot, hR21, hs⟩
 clear tot hs hR1 hR8
 rintro tm g ⟨l18, a19, n18, c18, hF, tot, hR19, hs⟩
 clear ds
 obtain ⟨ds, rfl⟩ := hF.open
 clear hF
 unfold F.coin_Split.c2 at hs
 refine CP.seqR ?_
 refine WP.stl 3 ?_
 refine WP.dn ?_
 refine NX.then_n ?_
 refine CP.ret ?_
 refine NX.scope_r ?_
 obtain ⟨g13, hw1, st13, hnew⟩ := hR19.relab (by omega) r0
 refine NX.regw hw1 ?_
 replace tot := tot.trans (st13.up1 (.inr (by omega)))
 clear hR19
 have hR19 := hnew
 clear hnew
 replace hs := Option.some.inj hs
 obtain ⟨rfl, rfl⟩ := Prod.mk.inj hs
 exact NX.fin (v := .tuple #[.slice a19 n18 c18, .int .i64 0]) (Res.still (by kernel_rfl)) tot htL ⟨a19, n18, c18, rfl, hR19⟩
def F.close_Forfeit.l1 (l5 : List Int) : Nat → (List Int) → Int → Option ((List Int) × Int)
 | 0, _, _ => none
 | k + 1, l6, x6 => (if decide (x6 < (l5.length : Int)) = true then (if (0 : Int) ≤ x6 ∧ x6 < (l5.length : Int) then (if (0 : Int) ≤ x6 ∧ x6 < (l6.length : Int) then (if (0 : Int) ≤ x6 ∧ x6 < (l6.length : Int) then (F.close_Forfeit.l1 l5 k (setI l6 x6 (IntKind.i64.wrap ((getI l6 x6) + (getI l5 x6)))) (IntKind.i64.wrap (x6 + 1))) else none) else none) else none) else (some (l6, 0)))
def F.close_Forfeit.c1 (l1 : List Int) (x1 : Int) (x2 : Int) (l2 : List Bool) (q2 : Bool) : Option ((List Int) × Int) := (if q2 = true then (some ([], 28)) else ((F.coin_Right x2).bind fun q3 => (if (!q3) = true then (some ([], 2)) else ((F.coin_Sum l1).bind fun (x3, x4) => (if (x4 != 0) = true then (some ([], x4)) else ((F.slices_Clone_int_int l1).bind fun l3 => ((F.close_others x1 l2).bind fun (l4, q4) => (if (!q4) = true then (some (l3, 0)) else (if (0 : Int) ≤ x1 ∧ x1 < (l1.length : Int) then ((F.coin_Split (imin x2 (getI l1 x1)) l4).bind fun (l5, x5) => (if (x5 != 0) = true then (some ([], x5)) else (if (0 : Int) ≤ x1 ∧ x1 < (l3.length : Int) then (if (0 : Int) ≤ x1 ∧ x1 < (l3.length : Int) then (F.close_Forfeit.l1 l5 fuel (setI l3 x1 (IntKind.i64.wrap ((getI l3 x1) - (imin x2 (getI l1 x1))))) 0) else none) else none))) else none)))))))))
def F.close_Forfeit (l1 : List Int) (x1 : Int) (x2 : Int) (l2 : List Bool) : Option ((List Int) × Int) := ((F.close_seated (l1.length : Int)).bind fun q1 => (if (!q1) = true then (some ([], 1)) else (if ((l2.length : Int) != (l1.length : Int)) = true then (some ([], 3)) else (if decide (x1 < 0) = true then (F.close_Forfeit.c1 l1 x1 x2 l2 true) else (F.close_Forfeit.c1 l1 x1 x2 l2 (decide (x1 ≥ (l1.length : Int))))))))
theorem P.close_Forfeit (g0 : GW) (r0 : Nat) (l1 : List Int) (x1 : Int) (x2 : Int) (l2 : List Bool) (a1 : Option Addr) (n1 : Nat) (c1 : Nat) (a2 : Option Addr) (n2 : Nat) (c2 : Nat) (hR1 : RdS (Kd.int .i64) g0 3 a1 n1 c1 l1) (hR2 : RdS Kd.bool g0 4 a2 n2 c2 l2) (o1 : List Int) (o2 : Int) (hs : F.close_Forfeit l1 x1 x2 l2 = some (o1, o2)) :
  Calls Try.prog 12 #[.slice a1 n1 c1, .int .i64 x1, .int .i64 x2, .slice a2 n2 c2] g0.w (Ret NoM g0 fun v g => ∃ (a_1 : Option Addr) (n_1 : Nat) (c_1 : Nat), v = .tuple #[.slice a_1 n_1 c_1, .int .i64 o2] ∧ OwnS (Kd.int .i64) g r0 3 a_1 n_1 c_1 o1) := by
 refine calls_of (args := [.slice a1 n1 c1, .int .i64 x1, .int .i64 x2, .slice a2 n2 c2]) Try.func12 rfl (r0 + 0) ?_
 intro t ht htL
 refine ⟨_, rfl, ?_⟩
 refine CP.refr 101 [(0, .slice a1 n1 c1), (1, .int .i64 x1), (2, .int .i64 x2), (3, .slice a2 n2 c2)] (by kernel_rfl) (by kernel_rfl) ?_
 intro ds
 have tot : Step (fun l => NoM l ∨ t ≤ l) g0 g0 := Step.refl _ _
 unfold F.close_Forfeit at hs
 refine CP.seqR ?_
 refine WP.stl 2 ?_
 refine WP.dn ?_
 refine NX.then_n ?_
 refine CP.seq ?_
 refine CP.block ?_
 refine CP.seqR ?_
 refine WP.stl 1 ?_
 refine WP.len (a := a1) (cp := c1) hR1.len (by kernel_rfl) ?_
 replace hs := Option.bind_eq_some_iff.1 hs
 obtain ⟨q1, hk1, hs⟩ := hs
 have hcal1 := P.close_seated g0 (l1.length : Int) q1 hk1
 refine WP.callC hcal1 (by kernel_rfl) ?_
 rintro _ g1 st1 rfl
 replace hR1 := hR1.mono st1 (fun x => x)
 replace hR2 := hR2.mono st1 (fun x => x)
 replace tot := tot.trans st1.pure
 refine WP.stl 2 ?_
 refine WP.dn ?_
 refine NX.then_n ?_
 refine CP.cond (b := (!q1)) (by kernel_rfl) (fun h1 => ?_) (fun h1 => ?_)
 ·replace hs := of_if_t hs h1
  refine CP.seqR ?_
  refine WP.stl 2 ?_
  refine WP.dn ?_
  refine NX.then_n ?_
  refine CP.ret ?_
  refine NX.block_r ?_
  refine NX.then_r ?_
  replace hs := Option.some.inj hs
  obtain ⟨rfl, rfl⟩ := Prod.mk.inj hs
  exact NX.fin (v := .tuple #[.slice none 0 0, .int .i64 1]) (Res.still (by kernel_rfl)) tot htL ⟨none, 0, 0, rfl, (OwnS.nil _ _ _ _)⟩
 replace hs := of_if_f hs h1
 refine CP.seqR ?_
 refine WP.stl 1 ?_
 refine WP.len (a := a2) (cp := c2) hR2.len (by kernel_rfl) ?_
 refine WP.stl 1 ?_
 refine WP.len (a := a1) (cp := c1) hR1.len (by kernel_rfl) ?_
 refine WP.stl 2 ?_
 refine WP.dn ?_
 refine NX.then_n ?_
 refine CP.refr 101 [(0, .slice a1 n1 c1), (1, .int .i64 x1), (2, .int .i64 x2), (3, .slice a2 n2 c2), (25, .bool ((l2.length : Int) != (l1.length : Int)))] (by kernel_rfl) (by kernel_rfl) ?_
 clear ds
 intro ds
 refine CP.cond (b := ((l2.length : Int) != (l1.length : Int))) (by kernel_rfl) (fun h2 => ?_) (fun h2 => ?_)
 ·replace hs := of_if_t hs h2
  refine CP.seqR ?_
  refine WP.stl 2 ?_
  refine WP.dn ?_
  refine NX.then_n ?_
  refine CP.ret ?_
  refine NX.block_r ?_
  refine NX.then_r ?_
  replace hs := Option.some.inj hs
  obtain ⟨rfl, rfl⟩ := Prod.mk.inj hs
  exact NX.fin (v := .tuple #[.slice none 0 0, .int .i64 3]) (Res.still (by kernel_rfl)) tot htL ⟨none, 0, 0, rfl, (OwnS.nil _ _ _ _)⟩
 replace hs := of_if_f hs h2
 refine CP.cut (fun tm g => ∃ (q2 : Bool), Fr 101 [(0, .slice a1 n1 c1), (1, .int .i64 x1), (2, .int .i64 x2), (3, .slice a2 n2 c2), (31, .bool q2)] tm ∧ Step (fun l => NoM l ∨ t ≤ l) g0 g ∧ RdS (Kd.int .i64) g 3 a1 n1 c1 l1 ∧ RdS Kd.bool g 4 a2 n2 c2 l2 ∧ (F.close_Forfeit.c1 l1 x1 x2 l2 q2) = some (o1, o2)) ?_ ?_
 ·refine CP.region ?_
  refine WP.stl 3 ?_
  refine WP.guard 34 (b := decide (x1 < 0)) (by kernel_rfl) (fun h12 => ?_) (fun h12 => ?_)
  ·replace hs := of_if_t hs h12
   refine WP.stl 6 ?_
   refine WP.dn ?_
   refine NX.post ?_
   exact ⟨true, ⟨by kernel_rfl, by kernel_rfl⟩, tot, hR1, hR2, hs⟩
  replace hs := of_if_f hs h12
  refine WP.stl 2 ?_
  refine WP.len (a := a1) (cp := c1) hR1.len (by kernel_rfl) ?_
  refine WP.stl 3 ?_
  refine WP.dn ?_
  refine NX.post ?_
  exact ⟨decide (x1 ≥ (l1.length : Int)), ⟨by kernel_rfl, by kernel_rfl⟩, tot, hR1, hR2, hs⟩
 clear tot hs hR1 hR2
 rintro tm g ⟨q2, hF, tot, hR1, hR2, hs⟩
 clear ds
 obtain ⟨ds, rfl⟩ := hF.open
 clear hF
 unfold F.close_Forfeit.c1 at hs
 refine CP.cond (b := q2) (by kernel_rfl) (fun h4 => ?_) (fun h4 => ?_)
 ·replace hs := of_if_t hs h4
  refine CP.seqR ?_
  refine WP.stl 2 ?_
  refine WP.dn ?_
  refine NX.then_n ?_
  refine CP.ret ?_
  refine NX.block_r ?_
  refine NX.then_r ?_
  replace hs := Option.some.inj hs
  obtain ⟨rfl, rfl⟩ := Prod.mk.inj hs
  exact NX.fin (v := .tuple #[.slice none 0 0, .int .i64 28]) (Res.still (by kernel_rfl)) tot htL ⟨none, 0, 0, rfl, (OwnS.nil _ _ _ _)⟩
 replace hs := of_if_f hs h4
 refine CP.seqR ?_
 refine WP.stl 1 ?_
 replace hs := Option.bind_eq_some_iff.1 hs
 obtain ⟨q3, hk2, hs⟩ := hs
 have hcal2 := P.coin_Right g x2 q3 hk2
 refine WP.callC hcal2 (by kernel_rfl) ?_
 rintro _ g2 st2 rfl
 replace hR1 := hR1.mono st2 (fun x => x)
 replace hR2 := hR2.mono st2 (fun x => x)
 replace tot := tot.trans st2.pure
 refine WP.stl 2 ?_
 refine WP.dn ?_
 refine NX.then_n ?_
 refine CP.cond (b := (!q3)) (by kernel_rfl) (fun h5 => ?_) (fun h5 => ?_)
 ·replace hs := of_if_t hs h5
  refine CP.seqR ?_
  refine WP.stl 2 ?_
  refine WP.dn ?_
  refine NX.then_n ?_
  refine CP.ret ?_
  refine NX.block_r ?_
  refine NX.then_r ?_
  replace hs := Option.some.inj hs
  obtain ⟨rfl, rfl⟩ := Prod.mk.inj hs
  exact NX.fin (v := .tuple #[.slice none 0 0, .int .i64 2]) (Res.still (by kernel_rfl)) tot htL ⟨none, 0, 0, rfl, (OwnS.nil _ _ _ _)⟩
 replace hs := of_if_f hs h5
 refine CP.skip ?_
 refine NX.block_n ?_
 refine NX.then_n ?_
 refine CP.seq ?_
 refine CP.seqR ?_
 refine WP.stl 1 ?_
 replace hs := Option.bind_eq_some_iff.1 hs
 obtain ⟨⟨x3, x4⟩, hk3, hs⟩ := hs
 dsimp only at hs
 have hcal3 := P.coin_Sum g2 l1 a1 n1 c1 hR1 x3 x4 hk3
 refine WP.callC hcal3 (by kernel_rfl) ?_
 rintro _ g3 st3 rfl
 replace hR1 := hR1.mono st3 (fun x => x)
 replace hR2 := hR2.mono st3 (fun x => x)
 replace tot := tot.trans st3.pure
 refine WP.stl 5 ?_
 refine WP.dn ?_
 refine NX.then_n ?_
 refine CP.seqR ?_
 refine WP.stl 2 ?_
 refine WP.dn ?_
 refine NX.then_n ?_
 refine CP.refr 101 [(0, .slice a1 n1 c1), (1, .int .i64 x1), (2, .int .i64 x2), (3, .slice a2 n2 c2), (11, .int .i64 x4), (50, .bool (x4 != 0))] (by kernel_rfl) (by kernel_rfl) ?_
 clear ds
 intro ds
 refine CP.cond (b := (x4 != 0)) (by kernel_rfl) (fun h6 => ?_) (fun h6 => ?_)
 ·replace hs := of_if_t hs h6
  refine CP.seqR ?_
  refine WP.stl 3 ?_
  refine WP.dn ?_
  refine NX.then_n ?_
  refine CP.ret ?_
  refine NX.then_r ?_
  replace hs := Option.some.inj hs
  obtain ⟨rfl, rfl⟩ := Prod.mk.inj hs
  exact NX.fin (v := .tuple #[.slice none 0 0, .int .i64 x4]) (Res.still (by kernel_rfl)) tot htL ⟨none, 0, 0, rfl, (OwnS.nil _ _ _ _)⟩
 replace hs := of_if_f hs h6
 refine CP.skip ?_
 refine NX.then_n ?_
 refine CP.seqR ?_
 refine WP.stl 1 ?_
 replace hs := Option.bind_eq_some_iff.1 hs
 obtain ⟨l3, hk4, hs⟩ := hs
 have hcal4 := P.slices_Clone_int_int g3 (t + 1) l1 a1 n1 c1 hR1 l3 hk4
 refine WP.callC hcal4 (by kernel_rfl) ?_
 rintro _ g4 st4 ⟨a3, n3, c3, rfl, hR3⟩
 replace hR1 := hR1.mono st4 (fun x => x)
 replace hR2 := hR2.mono st4 (fun x => x)
 replace tot := tot.trans st4.pure
 refine WP.stl 1 ?_
 refine WP.dn ?_
 refine NX.then_n ?_
 refine CP.seqR ?_
 refine WP.stl 2 ?_
 replace hs := Option.bind_eq_some_iff.1 hs
 obtain ⟨⟨l4, q4⟩, hk5, hs⟩ := hs
 dsimp only at hs
 have hcal5 := P.close_others g4 (t + 2) x1 l2 a2 n2 c2 hR2 l4 q4 hk5
 refine WP.callC hcal5 (by kernel_rfl) ?_
 rintro _ g5 st5 ⟨a4, n4, c4, rfl, hR4⟩
 replace hR1 := hR1.mono st5 (fun x => x)
 replace hR2 := hR2.mono st5 (fun x => x)
 replace hR3 := hR3.mono st5 (fun x => x) (fun x => x)
 replace tot := tot.trans st5.pure
 refine WP.stl 5 ?_
 refine WP.dn ?_
 refine NX.then_n ?_
 refine CP.seq ?_
 refine CP.seqR ?_
 refine WP.stl 2 ?_
 refine WP.dn ?_
 refine NX.then_n ?_
 refine CP.refr 101 [(0, .slice a1 n1 c1), (1, .int .i64 x1), (2, .int .i64 x2), (12, .slice a3 n3 c3), (13, .slice a4 n4 c4), (61, .bool (!q4))] (by kernel_rfl) (by kernel_rfl) ?_
 clear ds
 intro ds
 refine CP.cond (b := (!q4)) (by kernel_rfl) (fun h7 => ?_) (fun h7 => ?_)
 ·replace hs := of_if_t hs h7
  refine CP.seqR ?_
  refine WP.stl 3 ?_
  refine WP.dn ?_
  refine NX.then_n ?_
  refine CP.ret ?_
  refine NX.then_r ?_
  obtain ⟨g6, hw1, st6, hnew⟩ := hR3.relab (by omega) r0
  refine NX.regw hw1 ?_
  replace tot := tot.trans (st6.up1 (.inr (by omega)))
  clear hR3
  have hR3 := hnew
  clear hnew
  replace hs := Option.some.inj hs
  obtain ⟨rfl, rfl⟩ := Prod.mk.inj hs
  exact NX.fin (v := .tuple #[.slice a3 n3 c3, .int .i64 0]) (Res.still (by kernel_rfl)) tot htL ⟨a3, n3, c3, rfl, hR3⟩
 replace hs := of_if_f hs h7
 refine CP.skip ?_
 refine NX.then_n ?_
 refine CP.seqR ?_
 refine WP.stl 3 ?_
 by_cases hc1 : (0 : Int) ≤ x1 ∧ x1 < (l1.length : Int)
 case neg => rw [if_neg hc1] at hs; cases hs
 replace hs := of_if_p hs hc1
 obtain ⟨b1, u1, ha1⟩ := hR1.at hc1
 refine WP.indexA (t := 22) (e := 3) (sz := 1) (cap := c1) (k := .i64) (i := x1) hR1.len ha1 (by kernel_rfl) (by kernel_rfl) hc1 ?_
 obtain ⟨cs1, hcR1, hcV1⟩ := hR1.src.view (getI_some hc1) ha1
 replace hcR1 := Kd.o_int hcR1
 refine WP.loadV [[.int .i64 (getI l1 x1)]] [1] hcV1 hcR1 rfl (f := 0) (ty := 3) (agg := false) (size := 1) (rs := [[.int .i64 (getI l1 x1)]]) (v := .int .i64 (getI l1 x1)) (by kernel_rfl) (by kernel_rfl) (by kernel_rfl) (by kernel_rfl) ?_
 refine WP.stl 2 ?_
 refine WP.dn ?_
 refine NX.then_n ?_
 refine CP.seqR ?_
 refine WP.stl 2 ?_
 replace hs := Option.bind_eq_some_iff.1 hs
 obtain ⟨⟨l5, x5⟩, hk6, hs⟩ := hs
 dsimp only at hs
 obtain ⟨g8, hw2, st8, hnew⟩ := hR4.freeze (by omega)
 refine WP.regw hw2 ?_
 replace hR3 := hR3.mono st8 (WL.no1 (by omega)) (WL.no1 (by omega))
 replace tot := tot.trans (st8.up1 (.inr (by omega)))
 clear hR4
 have hR4 := hnew
 clear hnew
 have hcal6 := P.coin_Split g8 (t + 3) (imin x2 (getI l1 x1)) l4 a4 n4 c4 hR4 l5 x5 hk6
 refine WP.callC hcal6 (by kernel_rfl) ?_
 rintro _ g7 st7 ⟨a5, n5, c5, rfl, hR5⟩
 replace hR3 := hR3.mono st7 (fun x => x) (fun x => x)
 replace hR4 := hR4.mono st7 (fun x => x)
 replace tot := tot.trans st7.pure
 refine WP.stl 5 ?_
 refine WP.dn ?_
 refine NX.then_n ?_
 refine CP.refr 101 [(1, .int .i64 x1), (12, .slice a3 n3 c3), (15, .int .i64 (imin x2 (getI l1 x1))), (16, .slice a5 n5 c5), (17, .int .i64 x5)] (by kernel_rfl) (by kernel_rfl) ?_
 clear ds
 intro ds
 refine CP.seq ?_
 refine CP.seqR ?_
 refine WP.stl 2 ?_
 refine WP.dn ?_
 refine NX.then_n ?_
 refine CP.cond (b := (x5 != 0)) (by kernel_rfl) (fun h8 => ?_) (fun h8 => ?_)
 ·replace hs := of_if_t hs h8
  refine CP.seqR ?_
  refine WP.stl 3 ?_
  refine WP.dn ?_
  refine NX.then_n ?_
  refine CP.ret ?_
  refine NX.then_r ?_
  replace hs := Option.some.inj hs
  obtain ⟨rfl, rfl⟩ := Prod.mk.inj hs
  exact NX.fin (v := .tuple #[.slice none 0 0, .int .i64 x5]) (Res.still (by kernel_rfl)) tot htL ⟨none, 0, 0, rfl, (OwnS.nil _ _ _ _)⟩
 replace hs := of_if_f hs h8
 refine CP.skip ?_
 refine NX.then_n ?_
 refine CP.seqR ?_
 refine WP.stl 2 ?_
 by_cases hc2 : (0 : Int) ≤ x1 ∧ x1 < (l3.length : Int)
 case neg => rw [if_neg hc2] at hs; cases hs
 replace hs := of_if_p hs hc2
 obtain ⟨b2, u2, ha2⟩ := hR3.at hc2
 refine WP.indexA (t := 22) (e := 3) (sz := 1) (cap := c3) (k := .i64) (i := x1) hR3.len ha2 (by kernel_rfl) (by kernel_rfl) hc2 ?_
 obtain ⟨cs2, hcR2, hcV2⟩ := hR3.src.view (getI_some hc2) ha2
 replace hcR2 := Kd.o_int hcR2
 refine WP.loadV [[.int .i64 (getI l3 x1)]] [1] hcV2 hcR2 rfl (f := 0) (ty := 3) (agg := false) (size := 1) (rs := [[.int .i64 (getI l3 x1)]]) (v := .int .i64 (getI l3 x1)) (by kernel_rfl) (by kernel_rfl) (by kernel_rfl) (by kernel_rfl) ?_
 refine WP.stl 2 ?_
 by_cases hc3 : (0 : Int) ≤ x1 ∧ x1 < (l3.length : Int)
 case neg => rw [if_neg hc3] at hs; cases hs
 replace hs := of_if_p hs hc3
 obtain ⟨b3, u3, ha3⟩ := hR3.at hc3
 refine WP.indexA (t := 22) (e := 3) (sz := 1) (cap := c3) (k := .i64) (i := x1) hR3.len ha3 (by kernel_rfl) (by kernel_rfl) hc3 ?_
 refine WP.storeO (ty := 3) (v := .int .i64 (IntKind.i64.wrap ((getI l3 x1) - (imin x2 (getI l1 x1))))) hR3 (by omega) (i := x1.toNat) (by first | omega | (simp only [setI_length] at *; omega)) ha3 (by kernel_rfl) (x := (IntKind.i64.wrap ((getI l3 x1) - (imin x2 (getI l1 x1))))) (by exact rfl) (by kernel_rfl) ?_
 intro g9 st9 hO1
 replace hR5 := hR5.mono st9 (WL.no1 (by omega)) (WL.no1 (by omega))
 replace tot := tot.trans (st9.up1 (.inr (by omega)))
 clear hR3
 have hR3 : OwnS (Kd.int .i64) g9 (t + 1) 3 a3 n3 c3 (setI l3 x1 (IntKind.i64.wrap ((getI l3 x1) - (imin x2 (getI l1 x1))))) := hO1
 clear hO1
 refine WP.dn ?_
 refine NX.then_n ?_
 refine CP.seq ?_
 refine CP.seqR ?_
 refine WP.stl 1 ?_
 refine WP.len (a := a5) (cp := c5) hR5.len (by kernel_rfl) ?_
 refine WP.stl 1 ?_
 refine WP.dn ?_
 refine NX.then_n ?_
 refine CP.refr 101 [(12, .slice a3 n3 c3), (85, .slice a5 n5 c5), (86, .int .i64 (l5.length : Int)), (87, .int .i64 0)] (by kernel_rfl) (by kernel_rfl) ?_
 clear ds
 intro ds
 refine CP.block ?_
 generalize fuel = k1 at hs
 refine CP.loop (fun k1 tm g => ∃ (l6 : List Int) (a6 : Option Addr) (n6 : Nat) (c6 : Nat) (x6 : Int), Fr 101 [(12, .slice a6 n6 c6), (85, .slice a5 n5 c5), (86, .int .i64 (l5.length : Int)), (87, .int .i64 x6)] tm ∧ Step (fun l => NoM l ∨ t ≤ l) g0 g ∧ OwnS (Kd.int .i64) g (t + 1) 3 a6 n6 c6 l6 ∧ OwnS (Kd.int .i64) g (t + 3) 3 a5 n5 c5 l5 ∧ F.close_Forfeit.l1 l5 k1 l6 x6 = some (o1, o2)) k1 ?_ ?_ ?_
 ·exact ⟨(setI l3 x1 (IntKind.i64.wrap ((getI l3 x1) - (imin x2 (getI l1 x1))))), a3, n3, c3, 0, ⟨by kernel_rfl, by kernel_rfl⟩, tot, hR3, hR5, hs⟩
 ·rintro tm g ⟨l6, a6, n6, c6, x6, hF, tot, hR6, hR5, hs⟩
  exact absurd hs (by simp [F.close_Forfeit.l1])
 clear tot hs hR3 hR5
 rintro k1 tm g ⟨l6, a6, n6, c6, x6, hF, tot, hR6, hR5, hs⟩
 clear ds
 obtain ⟨ds, rfl⟩ := hF.open
 clear hF
 unfold F.close_Forfeit.l1 at hs
 refine CP.seqR ?_
 refine WP.stl 1 ?_
 refine WP.dn ?_
 refine NX.then_n ?_
 refine CP.seq ?_
 refine CP.cond (b := decide (x6 < (l5.length : Int))) (by kernel_rfl) (fun h11 => ?_) (fun h11 => ?_)
 ·replace hs := of_if_t hs h11
  refine CP.skip ?_
  refine NX.then_n ?_
  refine CP.seq ?_
  refine CP.block ?_
  refine CP.seqR ?_
  refine WP.stl 1 ?_
  by_cases hc10 : (0 : Int) ≤ x6 ∧ x6 < (l5.length : Int)
  case neg => rw [if_neg hc10] at hs; cases hs
  replace hs := of_if_p hs hc10
  obtain ⟨b10, u10, ha10⟩ := hR5.at hc10
  refine WP.indexA (t := 22) (e := 3) (sz := 1) (cap := c5) (k := .i64) (i := x6) hR5.len ha10 (by kernel_rfl) (by kernel_rfl) hc10 ?_
  obtain ⟨cs7, hcR7, hcV7⟩ := hR5.src.view (getI_some hc10) ha10
  replace hcR7 := Kd.o_int hcR7
  refine WP.loadV [[.int .i64 (getI l5 x6)]] [1] hcV7 hcR7 rfl (f := 0) (ty := 3) (agg := false) (size := 1) (rs := [[.int .i64 (getI l5 x6)]]) (v := .int .i64 (getI l5 x6)) (by kernel_rfl) (by kernel_rfl) (by kernel_rfl) (by kernel_rfl) ?_
  refine WP.stl 2 ?_
  refine WP.dn ?_
  refine NX.then_n ?_
  refine CP.region ?_
  refine WP.stl 2 ?_
  by_cases hc11 : (0 : Int) ≤ x6 ∧ x6 < (l6.length : Int)
  case neg => rw [if_neg hc11] at hs; cases hs
  replace hs := of_if_p hs hc11
  obtain ⟨b11, u11, ha11⟩ := hR6.at hc11
  refine WP.indexA (t := 22) (e := 3) (sz := 1) (cap := c6) (k := .i64) (i := x6) hR6.len ha11 (by kernel_rfl) (by kernel_rfl) hc11 ?_
  obtain ⟨cs8, hcR8, hcV8⟩ := hR6.src.view (getI_some hc11) ha11
  replace hcR8 := Kd.o_int hcR8
  refine WP.loadV [[.int .i64 (getI l6 x6)]] [1] hcV8 hcR8 rfl (f := 0) (ty := 3) (agg := false) (size := 1) (rs := [[.int .i64 (getI l6 x6)]]) (v := .int .i64 (getI l6 x6)) (by kernel_rfl) (by kernel_rfl) (by kernel_rfl) (by kernel_rfl) ?_
  refine WP.stl 2 ?_
  by_cases hc12 : (0 : Int) ≤ x6 ∧ x6 < (l6.length : Int)
  case neg => rw [if_neg hc12] at hs; cases hs
  replace hs := of_if_p hs hc12
  obtain ⟨b12, u12, ha12⟩ := hR6.at hc12
  refine WP.indexA (t := 22) (e := 3) (sz := 1) (cap := c6) (k := .i64) (i := x6) hR6.len ha12 (by kernel_rfl) (by kernel_rfl) hc12 ?_
  refine WP.storeO (ty := 3) (v := .int .i64 (IntKind.i64.wrap ((getI l6 x6) + (getI l5 x6)))) hR6 (by omega) (i := x6.toNat) (by first | omega | (simp only [setI_length] at *; omega)) ha12 (by kernel_rfl) (x := (IntKind.i64.wrap ((getI l6 x6) + (getI l5 x6)))) (by exact rfl) (by kernel_rfl) ?_
  intro g12 st12 hO4
  replace hR5 := hR5.mono st12 (WL.no1 (by omega)) (WL.no1 (by omega))
  replace tot := tot.trans (st12.up1 (.inr (by omega)))
  clear hR6
  have hR6 : OwnS (Kd.int .i64) g12 (t + 1) 3 a6 n6 c6 (setI l6 x6 (IntKind.i64.wrap ((getI l6 x6) + (getI l5 x6)))) := hO4
  clear hO4
  refine WP.dn ?_
  refine NX.block_n ?_
  refine NX.then_n ?_
  refine CP.refr 101 [(12, .slice a6 n6 c6), (85, .slice a5 n5 c5), (86, .int .i64 (l5.length : Int)), (87, .int .i64 x6)] (by kernel_rfl) (by kernel_rfl) ?_
  clear ds
  intro ds
  refine CP.region ?_
  refine WP.stl 2 ?_
  refine WP.dn ?_
  refine NX.post ?_
  exact ⟨(setI l6 x6 (IntKind.i64.wrap ((getI l6 x6) + (getI l5 x6)))), a6, n6, c6, (IntKind.i64.wrap (x6 + 1)), ⟨by kernel_rfl, by kernel_rfl⟩, tot, hR6, hR5, hs⟩
 replace hs := of_if_f hs h11
 refine CP.exit ?_
 refine NX.then_e ?_
 refine NX.then_e ?_
 refine NX.block_s ?_
 refine NX.then_n ?_
 refine CP.seqR ?_
 refine WP.stl 3 ?_
 refine WP.dn ?_
 refine NX.then_n ?_
 refine CP.ret ?_
 obtain ⟨g13, hw3, st13, hnew⟩ := hR6.relab (by omega) r0
 refine NX.regw hw3 ?_
 replace tot := tot.trans (st13.up1 (.inr (by omega)))
 clear hR6
 have hR6 := hnew
 clear hnew
 replace hs := Option.some.inj hs
 obtain ⟨rfl, rfl⟩ := Prod.mk.inj hs
 exact NX.fin (v := .tuple #[.slice a6 n6 c6, .int .i64 0]) (Res.still (by kernel_rfl)) tot htL ⟨a6, n6, c6, rfl, hR6⟩
def F.close_Adds_1 (x1 : Int) : Option (Bool) := ((F.coin_Right x1).bind fun q1 => (some (!q1)))
theorem P.close_Adds_1 (g0 : GW) (x1 : Int) (o1 : Bool) (hs : F.close_Adds_1 x1 = some o1) :
  Calls Try.prog 23 #[.int .i64 x1] g0.w (Ret NoM g0 fun v g => v = .bool o1) := by
 refine calls_of (args := [.int .i64 x1]) Try.func23 rfl (0) ?_
 intro t ht htL
 refine ⟨_, rfl, ?_⟩
 refine CP.refr 6 [(0, .int .i64 x1)] (by kernel_rfl) (by kernel_rfl) ?_
 intro ds
 have tot : Step (fun l => NoM l ∨ t ≤ l) g0 g0 := Step.refl _ _
 unfold F.close_Adds_1 at hs
 refine CP.seqR ?_
 refine WP.stl 1 ?_
 refine WP.dn ?_
 refine NX.then_n ?_
 refine CP.seqR ?_
 refine WP.stl 1 ?_
 replace hs := Option.bind_eq_some_iff.1 hs
 obtain ⟨q1, hk1, hs⟩ := hs
 have hcal1 := P.coin_Right g0 x1 q1 hk1
 refine WP.callC hcal1 (by kernel_rfl) ?_
 rintro _ g1 st1 rfl
 replace tot := tot.trans st1.pure
 refine WP.stl 2 ?_
 refine WP.dn ?_
 refine NX.then_n ?_
 refine CP.ret ?_
 replace hs := Option.some.inj hs
 obtain rfl := hs
 exact NX.fin (v := .bool (!q1)) (Res.still (by kernel_rfl)) tot htL rfl
def F.slices_IndexFunc_int_int.l1 (l1 : List Int) : Nat → Int → Option (Int)
 | 0, _ => none
 | k + 1, x1 => (if decide (x1 < (l1.length : Int)) = true then (if (0 : Int) ≤ x1 ∧ x1 < (l1.length : Int) then ((F.close_Adds_1 (getI l1 x1)).bind fun q3 => (if q3 = true then (some x1) else (F.slices_IndexFunc_int_int.l1 l1 k (IntKind.i64.wrap (x1 + 1))))) else none) else (some (-1)))
def F.slices_IndexFunc_int_int (l1 : List Int) : Option (Int) := (F.slices_IndexFunc_int_int.l1 l1 fuel 0)
theorem P.slices_IndexFunc_int_int (g0 : GW) (l1 : List Int) (a1 : Option Addr) (n1 : Nat) (c1 : Nat) (hR1 : RdS (Kd.int .i64) g0 3 a1 n1 c1 l1) (o1 : Int) (hs : F.slices_IndexFunc_int_int l1 = some o1) :
  Calls Try.prog 38 #[.slice a1 n1 c1, .func (.func 23) #[] #[]] g0.w (Ret NoM g0 fun v g => v = .int .i64 o1) := by
 refine calls_of (args := [.slice a1 n1 c1, .func (.func 23) #[] #[]]) Try.func38 rfl (0) ?_
 intro t ht htL
 refine ⟨_, rfl, ?_⟩
 refine CP.refr 19 [(0, .slice a1 n1 c1), (1, .func (.func 23) #[] #[])] (by kernel_rfl) (by kernel_rfl) ?_
 intro ds
 have tot : Step (fun l => NoM l ∨ t ≤ l) g0 g0 := Step.refl _ _
 unfold F.slices_IndexFunc_int_int at hs
 refine CP.seqR ?_
 refine WP.stl 1 ?_
 refine WP.dn ?_
 refine NX.then_n ?_
 refine CP.seq ?_
 refine CP.seqR ?_
 refine WP.stl 1 ?_
 refine WP.len (a := a1) (cp := c1) hR1.len (by kernel_rfl) ?_
 refine WP.stl 1 ?_
 refine WP.dn ?_
 refine NX.then_n ?_
 refine CP.block ?_
 generalize fuel = k1 at hs
 refine CP.loop (fun k1 tm g => ∃ (x1 : Int), Fr 19 [(0, .slice a1 n1 c1), (1, .func (.func 23) #[] #[]), (7, .int .i64 (l1.length : Int)), (8, .int .i64 x1)] tm ∧ Step (fun l => NoM l ∨ t ≤ l) g0 g ∧ RdS (Kd.int .i64) g 3 a1 n1 c1 l1 ∧ F.slices_IndexFunc_int_int.l1 l1 k1 x1 = some o1) k1 ?_ ?_ ?_
 ·exact ⟨0, ⟨by kernel_rfl, by kernel_rfl⟩, tot, hR1, hs⟩
 ·rintro tm g ⟨x1, hF, tot, hR1, hs⟩
  exact absurd hs (by simp [F.slices_IndexFunc_int_int.l1])
 clear tot hs hR1
 rintro k1 tm g ⟨x1, hF, tot, hR1, hs⟩
 clear ds
 obtain ⟨ds, rfl⟩ := hF.open
 clear hF
 unfold F.slices_IndexFunc_int_int.l1 at hs
 refine CP.seqR ?_
 refine WP.stl 1 ?_
 refine WP.dn ?_
 refine NX.then_n ?_
 refine CP.seq ?_
 refine CP.cond (b := decide (x1 < (l1.length : Int))) (by kernel_rfl) (fun h5 => ?_) (fun h5 => ?_)
 ·replace hs := of_if_t hs h5
  refine CP.skip ?_
  refine NX.then_n ?_
  refine CP.seq ?_
  refine CP.block ?_
  refine CP.seqR ?_
  refine WP.stl 2 ?_
  refine WP.dn ?_
  refine NX.then_n ?_
  refine CP.seqR ?_
  refine WP.stl 3 ?_
  by_cases hc3 : (0 : Int) ≤ x1 ∧ x1 < (l1.length : Int)
  case neg => rw [if_neg hc3] at hs; cases hs
  replace hs := of_if_p hs hc3
  obtain ⟨b3, u3, ha3⟩ := hR1.at hc3
  refine WP.indexA (t := 22) (e := 3) (sz := 1) (cap := c1) (k := .i64) (i := x1) hR1.len ha3 (by kernel_rfl) (by kernel_rfl) hc3 ?_
  obtain ⟨cs3, hcR3, hcV3⟩ := hR1.src.view (getI_some hc3) ha3
  replace hcR3 := Kd.o_int hcR3
  refine WP.loadV [[.int .i64 (getI l1 x1)]] [1] hcV3 hcR3 rfl (f := 0) (ty := 3) (agg := false) (size := 1) (rs := [[.int .i64 (getI l1 x1)]]) (v := .int .i64 (getI l1 x1)) (by kernel_rfl) (by kernel_rfl) (by kernel_rfl) (by kernel_rfl) ?_
  replace hs := Option.bind_eq_some_iff.1 hs
  obtain ⟨q3, hk3, hs⟩ := hs
  have hcal3 := P.close_Adds_1 g (getI l1 x1) q3 hk3
  refine WP.callC hcal3 (by kernel_rfl) ?_
  rintro _ g3 st3 rfl
  replace hR1 := hR1.mono st3 (fun x => x)
  replace tot := tot.trans st3.pure
  refine WP.dn ?_
  refine NX.then_n ?_
  refine CP.cond (b := q3) (by kernel_rfl) (fun h6 => ?_) (fun h6 => ?_)
  ·replace hs := of_if_t hs h6
   refine CP.seqR ?_
   refine WP.stl 2 ?_
   refine WP.dn ?_
   refine NX.then_n ?_
   refine CP.ret ?_
   refine NX.block_r ?_
   refine NX.then_r ?_
   refine NX.then_r ?_
   refine NX.block_r ?_
   refine NX.then_r ?_
   replace hs := Option.some.inj hs
   obtain rfl := hs
   exact NX.fin (v := .int .i64 x1) (Res.still (by kernel_rfl)) tot htL rfl
  replace hs := of_if_f hs h6
  refine CP.skip ?_
  refine NX.block_n ?_
  refine NX.then_n ?_
  refine CP.region ?_
  refine WP.stl 2 ?_
  refine WP.dn ?_
  refine NX.post ?_
  exact ⟨(IntKind.i64.wrap (x1 + 1)), ⟨by kernel_rfl, by kernel_rfl⟩, tot, hR1, hs⟩
 replace hs := of_if_f hs h5
 refine CP.exit ?_
 refine NX.then_e ?_
 refine NX.then_e ?_
 refine NX.block_s ?_
 refine NX.then_n ?_
 refine CP.seqR ?_
 refine WP.stl 1 ?_
 refine WP.dn ?_
 refine NX.then_n ?_
 refine CP.ret ?_
 replace hs := Option.some.inj hs
 obtain rfl := hs
 exact NX.fin (v := .int .i64 (-1)) (Res.still (by kernel_rfl)) tot htL rfl
def F.slices_ContainsFunc_int_int (l1 : List Int) : Option (Bool) := ((F.slices_IndexFunc_int_int l1).bind fun x1 => (some (decide (x1 ≥ 0))))
theorem P.slices_ContainsFunc_int_int (g0 : GW) (l1 : List Int) (a1 : Option Addr) (n1 : Nat) (c1 : Nat) (hR1 : RdS (Kd.int .i64) g0 3 a1 n1 c1 l1) (o1 : Bool) (hs : F.slices_ContainsFunc_int_int l1 = some o1) :
  Calls Try.prog 22 #[.slice a1 n1 c1, .func (.func 23) #[] #[]] g0.w (Ret NoM g0 fun v g => v = .bool o1) := by
 refine calls_of (args := [.slice a1 n1 c1, .func (.func 23) #[] #[]]) Try.func22 rfl (0) ?_
 intro t ht htL
 refine ⟨_, rfl, ?_⟩
 refine CP.refr 9 [(0, .slice a1 n1 c1), (1, .func (.func 23) #[] #[])] (by kernel_rfl) (by kernel_rfl) ?_
 intro ds
 have tot : Step (fun l => NoM l ∨ t ≤ l) g0 g0 := Step.refl _ _
 unfold F.slices_ContainsFunc_int_int at hs
 refine CP.seqR ?_
 refine WP.stl 1 ?_
 refine WP.dn ?_
 refine NX.then_n ?_
 refine CP.seqR ?_
 refine WP.stl 2 ?_
 replace hs := Option.bind_eq_some_iff.1 hs
 obtain ⟨x1, hk1, hs⟩ := hs
 have hcal1 := P.slices_IndexFunc_int_int g0 l1 a1 n1 c1 hR1 x1 hk1
 refine WP.callC hcal1 (by kernel_rfl) ?_
 rintro _ g1 st1 rfl
 replace hR1 := hR1.mono st1 (fun x => x)
 replace tot := tot.trans st1.pure
 refine WP.stl 2 ?_
 refine WP.dn ?_
 refine NX.then_n ?_
 refine CP.ret ?_
 replace hs := Option.some.inj hs
 obtain rfl := hs
 exact NX.fin (v := .bool (decide (x1 ≥ 0))) (Res.still (by kernel_rfl)) tot htL rfl
def F.close_Adds.c1 (q4 : Bool) : Option (Int) := (if q4 = true then (some 22) else (some 0))
def F.close_Adds (x1 : Int) (x2 : Int) (l1 : List Int) : Option (Int) := ((F.close_seated x2).bind fun q1 => (if (!q1) = true then (some 1) else ((F.coin_Right x1).bind fun q2 => (if (!q2) = true then (some 2) else (if ((l1.length : Int) != x2) = true then (some 3) else ((F.slices_ContainsFunc_int_int l1).bind fun q3 => (if q3 = true then (some 2) else ((F.coin_Sum l1).bind fun (x3, x4) => (if (x4 != 0) = true then (F.close_Adds.c1 true) else (F.close_Adds.c1 (x3 != x1)))))))))))
theorem P.close_Adds (g0 : GW) (x1 : Int) (x2 : Int) (l1 : List Int) (a1 : Option Addr) (n1 : Nat) (c1 : Nat) (hR1 : RdS (Kd.int .i64) g0 3 a1 n1 c1 l1) (o1 : Int) (hs : F.close_Adds x1 x2 l1 = some o1) :
  Calls Try.prog 10 #[.int .i64 x1, .int .i64 x2, .slice a1 n1 c1] g0.w (Ret NoM g0 fun v g => v = .int .i64 o1) := by
 refine calls_of (args := [.int .i64 x1, .int .i64 x2, .slice a1 n1 c1]) Try.func10 rfl (0) ?_
 intro t ht htL
 refine ⟨_, rfl, ?_⟩
 refine CP.refr 37 [(0, .int .i64 x1), (1, .int .i64 x2), (2, .slice a1 n1 c1)] (by kernel_rfl) (by kernel_rfl) ?_
 intro ds
 have tot : Step (fun l => NoM l ∨ t ≤ l) g0 g0 := Step.refl _ _
 unfold F.close_Adds at hs
 refine CP.seqR ?_
 refine WP.stl 1 ?_
 refine WP.dn ?_
 refine NX.then_n ?_
 refine CP.seq ?_
 refine CP.block ?_
 refine CP.seqR ?_
 refine WP.stl 1 ?_
 replace hs := Option.bind_eq_some_iff.1 hs
 obtain ⟨q1, hk1, hs⟩ := hs
 have hcal1 := P.close_seated g0 x2 q1 hk1
 refine WP.callC hcal1 (by kernel_rfl) ?_
 rintro _ g1 st1 rfl
 replace hR1 := hR1.mono st1 (fun x => x)
 replace tot := tot.trans st1.pure
 refine WP.stl 2 ?_
 refine WP.dn ?_
 refine NX.then_n ?_
 refine CP.cond (b := (!q1)) (by kernel_rfl) (fun h1 => ?_) (fun h1 => ?_)
 ·replace hs := of_if_t hs h1
  refine CP.seqR ?_
  refine WP.stl 1 ?_
  refine WP.dn ?_
  refine NX.then_n ?_
  refine CP.ret ?_
  refine NX.block_r ?_
  refine NX.then_r ?_
  replace hs := Option.some.inj hs
  obtain rfl := hs
  exact NX.fin (v := .int .i64 1) (Res.still (by kernel_rfl)) tot htL rfl
 replace hs := of_if_f hs h1
 refine CP.seqR ?_
 refine WP.stl 1 ?_
 replace hs := Option.bind_eq_some_iff.1 hs
 obtain ⟨q2, hk2, hs⟩ := hs
 have hcal2 := P.coin_Right g1 x1 q2 hk2
 refine WP.callC hcal2 (by kernel_rfl) ?_
 rintro _ g2 st2 rfl
 replace hR1 := hR1.mono st2 (fun x => x)
 replace tot := tot.trans st2.pure
 refine WP.stl 2 ?_
 refine WP.dn ?_
 refine NX.then_n ?_
 refine CP.cond (b := (!q2)) (by kernel_rfl) (fun h2 => ?_) (fun h2 => ?_)
 ·replace hs := of_if_t hs h2
  refine CP.seqR ?_
  refine WP.stl 1 ?_
  refine WP.dn ?_
  refine NX.then_n ?_
  refine CP.ret ?_
  refine NX.block_r ?_
  refine NX.then_r ?_
  replace hs := Option.some.inj hs
  obtain rfl := hs
  exact NX.fin (v := .int .i64 2) (Res.still (by kernel_rfl)) tot htL rfl
 replace hs := of_if_f hs h2
 refine CP.seqR ?_
 refine WP.stl 1 ?_
 refine WP.len (a := a1) (cp := c1) hR1.len (by kernel_rfl) ?_
 refine WP.stl 3 ?_
 refine WP.dn ?_
 refine NX.then_n ?_
 refine CP.refr 37 [(0, .int .i64 x1), (2, .slice a1 n1 c1), (17, .bool ((l1.length : Int) != x2))] (by kernel_rfl) (by kernel_rfl) ?_
 clear ds
 intro ds
 refine CP.cond (b := ((l1.length : Int) != x2)) (by kernel_rfl) (fun h3 => ?_) (fun h3 => ?_)
 ·replace hs := of_if_t hs h3
  refine CP.seqR ?_
  refine WP.stl 1 ?_
  refine WP.dn ?_
  refine NX.then_n ?_
  refine CP.ret ?_
  refine NX.block_r ?_
  refine NX.then_r ?_
  replace hs := Option.some.inj hs
  obtain rfl := hs
  exact NX.fin (v := .int .i64 3) (Res.still (by kernel_rfl)) tot htL rfl
 replace hs := of_if_f hs h3
 refine CP.seqR ?_
 refine WP.stl 1 ?_
 replace hs := Option.bind_eq_some_iff.1 hs
 obtain ⟨q3, hk3, hs⟩ := hs
 have hcal3 := P.slices_ContainsFunc_int_int g2 l1 a1 n1 c1 hR1 q3 hk3
 refine WP.callC hcal3 (by kernel_rfl) ?_
 rintro _ g3 st3 rfl
 replace hR1 := hR1.mono st3 (fun x => x)
 replace tot := tot.trans st3.pure
 refine WP.stl 1 ?_
 refine WP.dn ?_
 refine NX.then_n ?_
 refine CP.cond (b := q3) (by kernel_rfl) (fun h4 => ?_) (fun h4 => ?_)
 ·replace hs := of_if_t hs h4
  refine CP.seqR ?_
  refine WP.stl 1 ?_
  refine WP.dn ?_
  refine NX.then_n ?_
  refine CP.ret ?_
  refine NX.block_r ?_
  refine NX.then_r ?_
  replace hs := Option.some.inj hs
  obtain rfl := hs
  exact NX.fin (v := .int .i64 2) (Res.still (by kernel_rfl)) tot htL rfl
 replace hs := of_if_f hs h4
 refine CP.skip ?_
 refine NX.block_n ?_
 refine NX.then_n ?_
 refine CP.seq ?_
 refine CP.seqR ?_
 refine WP.stl 1 ?_
 replace hs := Option.bind_eq_some_iff.1 hs
 obtain ⟨⟨x3, x4⟩, hk4, hs⟩ := hs
 dsimp only at hs
 have hcal4 := P.coin_Sum g3 l1 a1 n1 c1 hR1 x3 x4 hk4
 refine WP.callC hcal4 (by kernel_rfl) ?_
 rintro _ g4 st4 rfl
 replace hR1 := hR1.mono st4 (fun x => x)
 replace tot := tot.trans st4.pure
 refine WP.stl 5 ?_
 refine WP.dn ?_
 refine NX.then_n ?_
 refine CP.cut (fun tm g => ∃ (q4 : Bool), Fr 37 [(36, .bool q4)] tm ∧ Step (fun l => NoM l ∨ t ≤ l) g0 g ∧ (F.close_Adds.c1 q4) = some o1) ?_ ?_
 ·refine CP.region ?_
  refine WP.stl 3 ?_
  refine WP.guard 32 (b := (x4 != 0)) (by kernel_rfl) (fun h7 => ?_) (fun h7 => ?_)
  ·replace hs := of_if_t hs h7
   refine WP.stl 4 ?_
   refine WP.dn ?_
   refine NX.post ?_
   exact ⟨true, ⟨by kernel_rfl, by kernel_rfl⟩, tot, hs⟩
  replace hs := of_if_f hs h7
  refine WP.stl 4 ?_
  refine WP.dn ?_
  refine NX.post ?_
  exact ⟨(x3 != x1), ⟨by kernel_rfl, by kernel_rfl⟩, tot, hs⟩
 clear tot hs
 rintro tm g ⟨q4, hF, tot, hs⟩
 clear ds
 obtain ⟨ds, rfl⟩ := hF.open
 clear hF
 unfold F.close_Adds.c1 at hs
 refine CP.cond (b := q4) (by kernel_rfl) (fun h6 => ?_) (fun h6 => ?_)
 ·replace hs := of_if_t hs h6
  refine CP.seqR ?_
  refine WP.stl 1 ?_
  refine WP.dn ?_
  refine NX.then_n ?_
  refine CP.ret ?_
  refine NX.then_r ?_
  replace hs := Option.some.inj hs
  obtain rfl := hs
  exact NX.fin (v := .int .i64 22) (Res.still (by kernel_rfl)) tot htL rfl
 replace hs := of_if_f hs h6
 refine CP.skip ?_
 refine NX.then_n ?_
 refine CP.seqR ?_
 refine WP.stl 1 ?_
 refine WP.dn ?_
 refine NX.then_n ?_
 refine CP.ret ?_
 replace hs := Option.some.inj hs
 obtain rfl := hs
 exact NX.fin (v := .int .i64 0) (Res.still (by kernel_rfl)) tot htL rfl
def N.baizeref03_Alike_0 : List (List Nat) := [[], [], [0, 1], [0, 1, 2], [], [], [4, 5], [4, 5, 6], [0, 1, 2, 3, 4, 5, 6, 7]]
def F.baizeref03_Alike.l1 (l1 : List Int) (l2 : List Int) : Nat → Int → Option (Bool)
 | 0, _ => none
 | k + 1, x1 => (if decide (x1 < (l1.length : Int)) = true then (if (0 : Int) ≤ x1 ∧ x1 < (l1.length : Int) then (if (0 : Int) ≤ x1 ∧ x1 < (l2.length : Int) then (if ((getI l1 x1) != (getI l2 x1)) = true then (some false) else (F.baizeref03_Alike.l1 l1 l2 k (IntKind.i64.wrap (x1 + 1)))) else none) else none) else (some true))
def F.baizeref03_Alike (l1 : List Int) (l2 : List Int) : Option (Bool) := (if ((l1.length : Int) != (l2.length : Int)) = true then (some false) else (F.baizeref03_Alike.l1 l1 l2 fuel 0))
theorem P.baizeref03_Alike (g0 : GW) (l1 : List Int) (l2 : List Int) (a1 : Option Addr) (n1 : Nat) (c1 : Nat) (a2 : Option Addr) (n2 : Nat) (c2 : Nat) (hR1 : RdS (Kd.int .i64) g0 3 a1 n1 c1 l1) (hR2 : RdS (Kd.int .i64) g0 3 a2 n2 c2 l2) (o1 : Bool) (hs : F.baizeref03_Alike l1 l2 = some o1) :
  Calls Try.prog 14 #[.slice a1 n1 c1, .slice a2 n2 c2] g0.w (Ret NoM g0 fun v g => v = .bool o1) := by
 refine calls_of (args := [.slice a1 n1 c1, .slice a2 n2 c2]) Try.func14 rfl (0) ?_
 intro t ht htL
 refine ⟨_, rfl, ?_⟩
 refine CP.refr 26 [(0, .slice a1 n1 c1), (1, .slice a2 n2 c2)] (by kernel_rfl) (by kernel_rfl) ?_
 intro ds
 have tot : Step (fun l => NoM l ∨ t ≤ l) g0 g0 := Step.refl _ _
 unfold F.baizeref03_Alike at hs
 refine CP.seqR ?_
 refine WP.stl 1 ?_
 refine WP.dn ?_
 refine NX.then_n ?_
 refine CP.seq ?_
 refine CP.seqR ?_
 refine WP.stl 1 ?_
 refine WP.len (a := a1) (cp := c1) hR1.len (by kernel_rfl) ?_
 refine WP.stl 1 ?_
 refine WP.len (a := a2) (cp := c2) hR2.len (by kernel_rfl) ?_
 refine WP.stl 1 ?_
 refine WP.dn ?_
 refine NX.then_n ?_
 refine CP.cond (b := ((l1.length : Int) != (l2.length : Int))) (by kernel_rfl) (fun h1 => ?_) (fun h1 => ?_)
 ·replace hs := of_if_t hs h1
  refine CP.seqR ?_
  refine WP.stl 1 ?_
  refine WP.dn ?_
  refine NX.then_n ?_
  refine CP.ret ?_
  refine NX.then_r ?_
  replace hs := Option.some.inj hs
  obtain rfl := hs
  exact NX.fin (v := .bool false) (Res.still (by kernel_rfl)) tot htL rfl
 replace hs := of_if_f hs h1
 refine CP.skip ?_
 refine NX.then_n ?_
 refine CP.seq ?_
 refine CP.seqR ?_
 refine WP.stl 1 ?_
 refine WP.dn ?_
 refine NX.then_n ?_
 refine CP.block ?_
 generalize fuel = k1 at hs
 refine CP.loop (fun k1 tm g => ∃ (x1 : Int), Fr 26 [(0, .slice a1 n1 c1), (1, .slice a2 n2 c2), (5, .int .i64 x1)] tm ∧ Step (fun l => NoM l ∨ t ≤ l) g0 g ∧ RdS (Kd.int .i64) g 3 a1 n1 c1 l1 ∧ RdS (Kd.int .i64) g 3 a2 n2 c2 l2 ∧ F.baizeref03_Alike.l1 l1 l2 k1 x1 = some o1) k1 ?_ ?_ ?_
 ·exact ⟨0, ⟨by kernel_rfl, by kernel_rfl⟩, tot, hR1, hR2, hs⟩
 ·rintro tm g ⟨x1, hF, tot, hR1, hR2, hs⟩
  exact absurd hs (by simp [F.baizeref03_Alike.l1])
 clear tot hs hR1 hR2
 rintro k1 tm g ⟨x1, hF, tot, hR1, hR2, hs⟩
 clear ds
 obtain ⟨ds, rfl⟩ := hF.open
 clear hF
 unfold F.baizeref03_Alike.l1 at hs
 refine CP.seq ?_
 refine CP.seqR ?_
 refine WP.stl 2 ?_
 refine WP.len (a := a1) (cp := c1) hR1.len (by kernel_rfl) ?_
 refine WP.stl 1 ?_
 refine WP.dn ?_
 refine NX.then_n ?_
 refine CP.cond (b := decide (x1 < (l1.length : Int))) (by kernel_rfl) (fun h6 => ?_) (fun h6 => ?_)
 ·replace hs := of_if_t hs h6
  refine CP.skip ?_
  refine NX.then_n ?_
  refine CP.seq ?_
  refine CP.block ?_
  refine CP.seq ?_
  by_cases hc5 : (0 : Int) ≤ x1 ∧ x1 < (l1.length : Int)
  case neg => rw [if_neg hc5] at hs; cases hs
  replace hs := of_if_p hs hc5
  by_cases hc6 : (0 : Int) ≤ x1 ∧ x1 < (l2.length : Int)
  case neg => rw [if_neg hc6] at hs; cases hs
  replace hs := of_if_p hs hc6
  obtain ⟨b5, u5, ha5⟩ := hR1.at hc5
  obtain ⟨b6, u6, ha6⟩ := hR2.at hc6
  refine CP.drawL (by kernel_rfl) [2, 3, 6, 7] N.baizeref03_Alike_0 [⟨none, [], [], fun l g => RdS (Kd.int .i64) g 3 a1 n1 c1 l1⟩, ⟨none, [], [], fun l g => RdS (Kd.int .i64) g 3 a2 n2 c2 l2⟩, ⟨some 0, [], [0], fun l g => l.getD 0 undef = .pointer (some ⟨b5, u5 + x1.toNat * 1, none⟩)⟩, ⟨some 1, [], [1], fun l g => l.getD 0 undef = .int .i64 (getI l1 x1)⟩, ⟨some 2, [], [2], fun l g => l.getD 0 undef = .pointer (some ⟨b6, u6 + x1.toNat * 1, none⟩)⟩, ⟨some 3, [], [3], fun l g => l.getD 0 undef = .int .i64 (getI l2 x1)⟩] [[], [], [], []] [] [0, 1, 4, 5] [8] (by kernel_rfl) (by simp) (by simp) ⟨fun _ _ _ _ st h0 hl hj hR1 => (RdS.mono (e := 3) hR1 st h0), fun _ _ _ _ st h0 hl hj hR2 => (RdS.mono (e := 3) hR2 st h0), fun _ _ _ _ st h0 hl hj e0 => e0, fun _ _ _ _ st h0 hl hj e1 => e1, fun _ _ _ _ st h0 hl hj e2 => e2, fun _ _ _ _ st h0 hl hj e3 => e3, tv⟩ ⟨hR1, hR2, tv, tv, tv, tv, tv⟩ (by kernel_rfl) (fun vs => by kernel_rfl) ?_ ?_ ?_
  ·intro j hj
   have hq : j = 0 := by have h : j < 1 := hj; omega
   rcases hq with rfl
   ·intro vs gq stq hl hf
    obtain ⟨v0, v1, v2, v3, rfl⟩ := len_k4 hl
    have e1 := (show v1 = .int .i64 (getI l1 x1) from hf _ (memI 3 rfl) (by kernel_rfl))
    subst e1
    have e3 := (show v3 = .int .i64 (getI l2 x1) from hf _ (memI 5 rfl) (by kernel_rfl))
    subst e3
    show Option.isSome _ = true
    kernel_rfl
  ·intro j hj
   have hq : j = 0 ∨ j = 1 ∨ j = 2 ∨ j = 3 := by have h : j < 4 := hj; omega
   rcases hq with rfl | rfl | rfl | rfl
   ·intro vs gq stq hl hf
    obtain ⟨v0, v1, v2, v3, rfl⟩ := len_k4 hl
    have hR1 := (show RdS (Kd.int .i64) gq 3 a1 n1 c1 l1 from hf _ (memI 0 rfl) (by kernel_rfl))
    refine WP.indexA (t := 22) (e := 3) (sz := 1) (cap := c1) (k := .i64) (i := x1) hR1.len ha5 (by kernel_rfl) (by kernel_rfl) hc5 ?_
    refine WP.dn (Shown.ok (v := .pointer (some ⟨b5, u5 + x1.toNat * 1, none⟩)) (by kernel_rfl) (Step.refl _ _) ?_)
    exact ⟨tv, tv, rfl, tv, tv, tv, tv⟩
   ·intro vs gq stq hl hf
    obtain ⟨v0, v1, v2, v3, rfl⟩ := len_k4 hl
    have hR1 := (show RdS (Kd.int .i64) gq 3 a1 n1 c1 l1 from hf _ (memI 0 rfl) (by kernel_rfl))
    have e0 := (show v0 = .pointer (some ⟨b5, u5 + x1.toNat * 1, none⟩) from hf _ (memI 2 rfl) (by kernel_rfl))
    subst e0
    obtain ⟨cs5, hcR5, hcV5⟩ := hR1.src.view (getI_some hc5) ha5
    replace hcR5 := Kd.o_int hcR5
    refine WP.loadV [[.int .i64 (getI l1 x1)]] [1] hcV5 hcR5 rfl (f := 0) (ty := 3) (agg := false) (size := 1) (rs := [[.int .i64 (getI l1 x1)]]) (v := .int .i64 (getI l1 x1)) (by kernel_rfl) (by kernel_rfl) (by kernel_rfl) (by kernel_rfl) ?_
    refine WP.dn (Shown.ok (v := .int .i64 (getI l1 x1)) (by kernel_rfl) (Step.refl _ _) ?_)
    exact ⟨tv, tv, tv, rfl, tv, tv, tv⟩
   ·intro vs gq stq hl hf
    obtain ⟨v0, v1, v2, v3, rfl⟩ := len_k4 hl
    have hR2 := (show RdS (Kd.int .i64) gq 3 a2 n2 c2 l2 from hf _ (memI 1 rfl) (by kernel_rfl))
    refine WP.indexA (t := 22) (e := 3) (sz := 1) (cap := c2) (k := .i64) (i := x1) hR2.len ha6 (by kernel_rfl) (by kernel_rfl) hc6 ?_
    refine WP.dn (Shown.ok (v := .pointer (some ⟨b6, u6 + x1.toNat * 1, none⟩)) (by kernel_rfl) (Step.refl _ _) ?_)
    exact ⟨tv, tv, tv, tv, rfl, tv, tv⟩
   ·intro vs gq stq hl hf
    obtain ⟨v0, v1, v2, v3, rfl⟩ := len_k4 hl
    have hR2 := (show RdS (Kd.int .i64) gq 3 a2 n2 c2 l2 from hf _ (memI 1 rfl) (by kernel_rfl))
    have e2 := (show v2 = .pointer (some ⟨b6, u6 + x1.toNat * 1, none⟩) from hf _ (memI 4 rfl) (by kernel_rfl))
    subst e2
    obtain ⟨cs6, hcR6, hcV6⟩ := hR2.src.view (getI_some hc6) ha6
    replace hcR6 := Kd.o_int hcR6
    refine WP.loadV [[.int .i64 (getI l2 x1)]] [1] hcV6 hcR6 rfl (f := 0) (ty := 3) (agg := false) (size := 1) (rs := [[.int .i64 (getI l2 x1)]]) (v := .int .i64 (getI l2 x1)) (by kernel_rfl) (by kernel_rfl) (by kernel_rfl) (by kernel_rfl) ?_
    refine WP.dn (Shown.ok (v := .int .i64 (getI l2 x1)) (by kernel_rfl) (Step.refl _ _) ?_)
    exact ⟨tv, tv, tv, tv, tv, rfl, tv⟩
  intro vs g1 st1 hl hf
  obtain ⟨v0, v1, v2, v3, rfl⟩ := len_k4 hl
  have e1 := (show v1 = .int .i64 (getI l1 x1) from hf _ (memI 3 rfl) (by kernel_rfl))
  subst e1
  have e3 := (show v3 = .int .i64 (getI l2 x1) from hf _ (memI 5 rfl) (by kernel_rfl))
  subst e3
  replace hR1 := hR1.mono st1.toNo (fun x => x)
  replace hR2 := hR2.mono st1.toNo (fun x => x)
  replace tot := tot.trans st1.toNo.pure
  refine NX.then_n ?_
  refine CP.refr 26 [(0, .slice a1 n1 c1), (1, .slice a2 n2 c2), (5, .int .i64 x1), (25, .bool ((getI l1 x1) != (getI l2 x1)))] (by kernel_rfl) (by kernel_rfl) ?_
  clear ds
  intro ds
  refine CP.cond (b := ((getI l1 x1) != (getI l2 x1))) (by kernel_rfl) (fun h7 => ?_) (fun h7 => ?_)
  ·replace hs := of_if_t hs h7
   refine CP.seqR ?_
   refine WP.stl 1 ?_
   refine WP.dn ?_
   refine NX.then_n ?_
   refine CP.ret ?_
   refine NX.block_r ?_
   refine NX.then_r ?_
   refine NX.then_r ?_
   refine NX.block_r ?_
   refine NX.then_r ?_
   replace hs := Option.some.inj hs
   obtain rfl := hs
   exact NX.fin (v := .bool false) (Res.still (by kernel_rfl)) tot htL rfl
  replace hs := of_if_f hs h7
  refine CP.skip ?_
  refine NX.block_n ?_
  refine NX.then_n ?_
  refine CP.region ?_
  refine WP.stl 3 ?_
  refine WP.dn ?_
  refine NX.post ?_
  exact ⟨(IntKind.i64.wrap (x1 + 1)), ⟨by kernel_rfl, by kernel_rfl⟩, tot, hR1, hR2, hs⟩
 replace hs := of_if_f hs h6
 refine CP.exit ?_
 refine NX.then_e ?_
 refine NX.then_e ?_
 refine NX.block_s ?_
 refine NX.then_n ?_
 refine CP.seqR ?_
 refine WP.stl 1 ?_
 refine WP.dn ?_
 refine NX.then_n ?_
 refine CP.ret ?_
 replace hs := Option.some.inj hs
 obtain rfl := hs
 exact NX.fin (v := .bool true) (Res.still (by kernel_rfl)) tot htL rfl
def F.baizelaw35_told.c1 (q3 : Bool) : Option (Bool) := (some q3)
def F.baizelaw35_told : Option (Bool) := ((F.close_Forfeit ([10, 0, 5]) 0 4 ([false, false, false])).bind fun (l1, x1) => ((F.close_Forfeit ([10, 0, 5]) 0 4 ([false, true, false])).bind fun (l2, x2) => ((F.close_Adds 10 2 ([4, 6])).bind fun x5 => (if (x5 == 0) = true then ((F.close_Adds 10 2 ([4, 5])).bind fun x6 => (if (x6 == 22) = true then (if (x1 == 0) = true then (if (x2 == 0) = true then ((F.baizeref03_Alike l1 ([6, 2, 7])).bind fun q4 => (if q4 = true then ((F.baizeref03_Alike l2 ([6, 0, 9])).bind fun q5 => (F.baizelaw35_told.c1 q5)) else (F.baizelaw35_told.c1 false))) else (F.baizelaw35_told.c1 false)) else (F.baizelaw35_told.c1 false)) else (F.baizelaw35_told.c1 false))) else (F.baizelaw35_told.c1 false)))))
theorem P.baizelaw35_told (g0 : GW) (o1 : Bool) (hs : F.baizelaw35_told = some o1) :
  Calls Try.prog 9 #[] g0.w (Ret NoM g0 fun v g => v = .bool o1) := by
 refine calls_of (args := []) Try.func9 rfl (0) ?_
 intro t ht htL
 refine ⟨_, rfl, ?_⟩
 refine CP.refr 43 [] (by kernel_rfl) (by kernel_rfl) ?_
 intro ds
 have tot : Step (fun l => NoM l ∨ t ≤ l) g0 g0 := Step.refl _ _
 unfold F.baizelaw35_told at hs
 refine CP.seqR ?_
 refine WP.stl 1 ?_
 refine WP.dn ?_
 refine NX.then_n ?_
 refine CP.seqR ?_
 refine WP.mkSl (kd := (Kd.int .i64)) (t := 22) (e := 3) (bytes := 8) (t + 1) [.int .i64 10, .int .i64 0, .int .i64 5] [10, 0, 5] (by kernel_rfl) (by kernel_rfl) (Nat.le_of_ble_eq_true rfl) (Nat.le_of_ble_eq_true rfl) (all_cons rfl (all_cons rfl (all_cons rfl all_nil))) (⟨_, _, rfl, (by exact rfl), ⟨_, _, rfl, (by exact rfl), ⟨_, _, rfl, (by exact rfl), rfl⟩⟩⟩) rfl ?_
 intro g1 a1 st1 hR1
 replace tot := tot.trans st1.pure
 refine WP.mkSl (kd := Kd.bool) (t := 28) (e := 4) (bytes := 1) (t + 2) [.bool false, .bool false, .bool false] [false, false, false] (by kernel_rfl) (by kernel_rfl) (Nat.le_of_ble_eq_true rfl) (Nat.le_of_ble_eq_true rfl) (all_cons rfl (all_cons rfl (all_cons rfl all_nil))) (⟨_, _, rfl, (by exact rfl), ⟨_, _, rfl, (by exact rfl), ⟨_, _, rfl, (by exact rfl), rfl⟩⟩⟩) rfl ?_
 intro g2 a2 st2 hR2
 replace hR1 := hR1.mono st2 (fun x => x) (fun x => x)
 replace tot := tot.trans st2.pure
 replace hs := Option.bind_eq_some_iff.1 hs
 obtain ⟨⟨l1, x1⟩, hk1, hs⟩ := hs
 dsimp only at hs
 obtain ⟨g4, hw1, st4, hnew⟩ := hR1.freeze (by omega)
 refine WP.regw hw1 ?_
 replace hR2 := hR2.mono st4 (WL.no1 (by omega)) (WL.no1 (by omega))
 replace tot := tot.trans (st4.up1 (.inr (by omega)))
 clear hR1
 have hR1 := hnew
 clear hnew
 obtain ⟨g5, hw2, st5, hnew⟩ := hR2.freeze (by omega)
 refine WP.regw hw2 ?_
 replace hR1 := hR1.mono st5 (WL.no1 (by omega))
 replace tot := tot.trans (st5.up1 (.inr (by omega)))
 clear hR2
 have hR2 := hnew
 clear hnew
 have hcal1 := P.close_Forfeit g5 (t + 3) ([10, 0, 5]) 0 4 ([false, false, false]) a1 3 3 a2 3 3 hR1 hR2 l1 x1 hk1
 refine WP.callC hcal1 (by kernel_rfl) ?_
 rintro _ g3 st3 ⟨a3, n1, c1, rfl, hR3⟩
 replace hR1 := hR1.mono st3 (fun x => x)
 replace hR2 := hR2.mono st3 (fun x => x)
 replace tot := tot.trans st3.pure
 refine WP.stl 5 ?_
 refine WP.dn ?_
 refine NX.then_n ?_
 refine CP.seqR ?_
 refine WP.mkSl (kd := (Kd.int .i64)) (t := 22) (e := 3) (bytes := 8) (t + 4) [.int .i64 10, .int .i64 0, .int .i64 5] [10, 0, 5] (by kernel_rfl) (by kernel_rfl) (Nat.le_of_ble_eq_true rfl) (Nat.le_of_ble_eq_true rfl) (all_cons rfl (all_cons rfl (all_cons rfl all_nil))) (⟨_, _, rfl, (by exact rfl), ⟨_, _, rfl, (by exact rfl), ⟨_, _, rfl, (by exact rfl), rfl⟩⟩⟩) rfl ?_
 intro g6 a4 st6 hR4
 replace hR3 := hR3.mono st6 (fun x => x) (fun x => x)
 replace tot := tot.trans st6.pure
 refine WP.mkSl (kd := Kd.bool) (t := 28) (e := 4) (bytes := 1) (t + 5) [.bool false, .bool true, .bool false] [false, true, false] (by kernel_rfl) (by kernel_rfl) (Nat.le_of_ble_eq_true rfl) (Nat.le_of_ble_eq_true rfl) (all_cons rfl (all_cons rfl (all_cons rfl all_nil))) (⟨_, _, rfl, (by exact rfl), ⟨_, _, rfl, (by exact rfl), ⟨_, _, rfl, (by exact rfl), rfl⟩⟩⟩) rfl ?_
 intro g7 a5 st7 hR5
 replace hR3 := hR3.mono st7 (fun x => x) (fun x => x)
 replace hR4 := hR4.mono st7 (fun x => x) (fun x => x)
 replace tot := tot.trans st7.pure
 replace hs := Option.bind_eq_some_iff.1 hs
 obtain ⟨⟨l2, x2⟩, hk2, hs⟩ := hs
 dsimp only at hs
 obtain ⟨g9, hw3, st9, hnew⟩ := hR4.freeze (by omega)
 refine WP.regw hw3 ?_
 replace hR3 := hR3.mono st9 (WL.no1 (by omega)) (WL.no1 (by omega))
 replace hR5 := hR5.mono st9 (WL.no1 (by omega)) (WL.no1 (by omega))
 replace tot := tot.trans (st9.up1 (.inr (by omega)))
 clear hR4
 have hR4 := hnew
 clear hnew
 obtain ⟨g10, hw4, st10, hnew⟩ := hR5.freeze (by omega)
 refine WP.regw hw4 ?_
 replace hR3 := hR3.mono st10 (WL.no1 (by omega)) (WL.no1 (by omega))
 replace hR4 := hR4.mono st10 (WL.no1 (by omega))
 replace tot := tot.trans (st10.up1 (.inr (by omega)))
 clear hR5
 have hR5 := hnew
 clear hnew
 have hcal2 := P.close_Forfeit g10 (t + 6) ([10, 0, 5]) 0 4 ([false, true, false]) a4 3 3 a5 3 3 hR4 hR5 l2 x2 hk2
 refine WP.callC hcal2 (by kernel_rfl) ?_
 rintro _ g8 st8 ⟨a6, n2, c2, rfl, hR6⟩
 replace hR3 := hR3.mono st8 (fun x => x) (fun x => x)
 replace hR4 := hR4.mono st8 (fun x => x)
 replace hR5 := hR5.mono st8 (fun x => x)
 replace tot := tot.trans st8.pure
 refine WP.stl 5 ?_
 refine WP.dn ?_
 refine NX.then_n ?_
 refine CP.refr 43 [(1, .slice a3 n1 c1), (2, .int .i64 x1), (3, .slice a6 n2 c2), (4, .int .i64 x2)] (by kernel_rfl) (by kernel_rfl) ?_
 clear ds
 intro ds
 refine CP.cut (fun tm g => ∃ (q3 : Bool), Fr 43 [(0, .bool q3)] tm ∧ Step (fun l => NoM l ∨ t ≤ l) g0 g ∧ (F.baizelaw35_told.c1 q3) = some o1) ?_ ?_
 ·refine CP.region ?_
  refine WP.mkSl (kd := (Kd.int .i64)) (t := 22) (e := 3) (bytes := 8) (t + 11) [.int .i64 4, .int .i64 6] [4, 6] (by kernel_rfl) (by kernel_rfl) (Nat.le_of_ble_eq_true rfl) (Nat.le_of_ble_eq_true rfl) (all_cons rfl (all_cons rfl all_nil)) (⟨_, _, rfl, (by exact rfl), ⟨_, _, rfl, (by exact rfl), rfl⟩⟩) rfl ?_
  intro g23 a11 st23 hR11
  replace hR3 := hR3.mono st23 (fun x => x) (fun x => x)
  replace hR6 := hR6.mono st23 (fun x => x) (fun x => x)
  replace tot := tot.trans st23.pure
  replace hs := Option.bind_eq_some_iff.1 hs
  obtain ⟨x5, hk7, hs⟩ := hs
  have hS5 : 0 ∉ ([(t + 11)] : List Nat) := by simp <;> omega
  have stl5 := GW.lend_step g23 [(t + 11)]
  have hRl7 := hR11.lendTo hS5 (by simp)
  refine WP.regw (g' := GW.lend g23 [(t + 11)]) rfl ?_
  have hcal7 := P.close_Adds (GW.lend g23 [(t + 11)]) 10 2 ([4, 6]) a11 2 2 hRl7 x5 hk7
  refine WP.callC hcal7 (by kernel_rfl) ?_
  rintro _ g24 st24 rfl
  have st25 := (GW.back_step st24).lentS
  have hO7 := hR11.backTo hS5 (by simp) st24 (fun x => x)
  refine WP.regw (g' := GW.back g23 g24 [(t + 11)]) rfl ?_
  generalize GW.back g23 g24 [(t + 11)] = g25 at *
  replace hR3 := hR3.mono st25 (WL.no1 (by omega)) (WL.no1 (by omega))
  replace hR6 := hR6.mono st25 (WL.no1 (by omega)) (WL.no1 (by omega))
  replace tot := tot.trans (st25.up1 (.inr (by omega)))
  clear hR11
  have hR11 : OwnS (Kd.int .i64) g25 (t + 11) 3 a11 2 2 ([4, 6]) := hO7
  clear hO7
  refine WP.stl 2 ?_
  refine WP.guard 20 (b := (x5 == 0)) (by kernel_rfl) (fun h6 => ?_) (fun h6 => ?_)
  ·replace hs := of_if_t hs h6
   refine WP.mkSl (kd := (Kd.int .i64)) (t := 22) (e := 3) (bytes := 8) (t + 12) [.int .i64 4, .int .i64 5] [4, 5] (by kernel_rfl) (by kernel_rfl) (Nat.le_of_ble_eq_true rfl) (Nat.le_of_ble_eq_true rfl) (all_cons rfl (all_cons rfl all_nil)) (⟨_, _, rfl, (by exact rfl), ⟨_, _, rfl, (by exact rfl), rfl⟩⟩) rfl ?_
   intro g26 a12 st26 hR12
   replace hR3 := hR3.mono st26 (fun x => x) (fun x => x)
   replace hR6 := hR6.mono st26 (fun x => x) (fun x => x)
   replace hR11 := hR11.mono st26 (fun x => x) (fun x => x)
   replace tot := tot.trans st26.pure
   replace hs := Option.bind_eq_some_iff.1 hs
   obtain ⟨x6, hk8, hs⟩ := hs
   have hS6 : 0 ∉ ([(t + 12)] : List Nat) := by simp <;> omega
   have stl6 := GW.lend_step g26 [(t + 12)]
   have hRl8 := hR12.lendTo hS6 (by simp)
   refine WP.regw (g' := GW.lend g26 [(t + 12)]) rfl ?_
   have hcal8 := P.close_Adds (GW.lend g26 [(t + 12)]) 10 2 ([4, 5]) a12 2 2 hRl8 x6 hk8
   refine WP.callC hcal8 (by kernel_rfl) ?_
   rintro _ g27 st27 rfl
   have st28 := (GW.back_step st27).lentS
   have hO8 := hR12.backTo hS6 (by simp) st27 (fun x => x)
   refine WP.regw (g' := GW.back g26 g27 [(t + 12)]) rfl ?_
   generalize GW.back g26 g27 [(t + 12)] = g28 at *
   replace hR3 := hR3.mono st28 (WL.no1 (by omega)) (WL.no1 (by omega))
   replace hR6 := hR6.mono st28 (WL.no1 (by omega)) (WL.no1 (by omega))
   replace hR11 := hR11.mono st28 (WL.no1 (by omega)) (WL.no1 (by omega))
   replace tot := tot.trans (st28.up1 (.inr (by omega)))
   clear hR12
   have hR12 : OwnS (Kd.int .i64) g28 (t + 12) 3 a12 2 2 ([4, 5]) := hO8
   clear hO8
   refine WP.stl 3 ?_
   refine WP.guard 25 (b := (x6 == 22)) (by kernel_rfl) (fun h7 => ?_) (fun h7 => ?_)
   ·replace hs := of_if_t hs h7
    refine WP.stl 4 ?_
    refine WP.guard 29 (b := (x1 == 0)) (by kernel_rfl) (fun h8 => ?_) (fun h8 => ?_)
    ·replace hs := of_if_t hs h8
     refine WP.stl 4 ?_
     refine WP.guard 33 (b := (x2 == 0)) (by kernel_rfl) (fun h9 => ?_) (fun h9 => ?_)
     ·replace hs := of_if_t hs h9
      refine WP.stl 1 ?_
      refine WP.mkSl (kd := (Kd.int .i64)) (t := 22) (e := 3) (bytes := 8) (t + 13) [.int .i64 6, .int .i64 2, .int .i64 7] [6, 2, 7] (by kernel_rfl) (by kernel_rfl) (Nat.le_of_ble_eq_true rfl) (Nat.le_of_ble_eq_true rfl) (all_cons rfl (all_cons rfl (all_cons rfl all_nil))) (⟨_, _, rfl, (by exact rfl), ⟨_, _, rfl, (by exact rfl), ⟨_, _, rfl, (by exact rfl), rfl⟩⟩⟩) rfl ?_
      intro g29 a13 st29 hR13
      replace hR3 := hR3.mono st29 (fun x => x) (fun x => x)
      replace hR6 := hR6.mono st29 (fun x => x) (fun x => x)
      replace hR11 := hR11.mono st29 (fun x => x) (fun x => x)
      replace hR12 := hR12.mono st29 (fun x => x) (fun x => x)
      replace tot := tot.trans st29.pure
      replace hs := Option.bind_eq_some_iff.1 hs
      obtain ⟨q4, hk9, hs⟩ := hs
      have hS7 : 0 ∉ ([(t + 3), (t + 13)] : List Nat) := by simp <;> omega
      have stl7 := GW.lend_step g29 [(t + 3), (t + 13)]
      have hRl9 := hR3.lendTo hS7 (by simp)
      have hRl10 := hR13.lendTo hS7 (by simp)
      refine WP.regw (g' := GW.lend g29 [(t + 3), (t + 13)]) rfl ?_
      have hcal9 := P.baizeref03_Alike (GW.lend g29 [(t + 3), (t + 13)]) l1 ([6, 2, 7]) a3 n1 c1 a13 3 3 hRl9 hRl10 q4 hk9
      refine WP.callC hcal9 (by kernel_rfl) ?_
      rintro _ g30 st30 rfl
      have st31 := (GW.back_step st30).lentS
      have hO9 := hR3.backTo hS7 (by simp) st30 (fun x => x)
      have hO10 := hR13.backTo hS7 (by simp) st30 (fun x => x)
      refine WP.regw (g' := GW.back g29 g30 [(t + 3), (t + 13)]) rfl ?_
      generalize GW.back g29 g30 [(t + 3), (t + 13)] = g31 at *
      replace hR6 := hR6.mono st31 (WL.no2 (by omega) (by omega)) (WL.no2 (by omega) (by omega))
      replace hR11 := hR11.mono st31 (WL.no2 (by omega) (by omega)) (WL.no2 (by omega) (by omega))
      replace hR12 := hR12.mono st31 (WL.no2 (by omega) (by omega)) (WL.no2 (by omega) (by omega))
      replace tot := tot.trans (st31.up2 (.inr (by omega)) (.inr (by omega)))
      clear hR3
      have hR3 : OwnS (Kd.int .i64) g31 (t + 3) 3 a3 n1 c1 l1 := hO9
      clear hO9
      clear hR13
      have hR13 : OwnS (Kd.int .i64) g31 (t + 13) 3 a13 3 3 ([6, 2, 7]) := hO10
      clear hO10
      refine WP.stl 2 ?_
      refine WP.guard 38 (b := q4) (by kernel_rfl) (fun h10 => ?_) (fun h10 => ?_)
      ·replace hs := of_if_t hs h10
       refine WP.stl 1 ?_
       refine WP.mkSl (kd := (Kd.int .i64)) (t := 22) (e := 3) (bytes := 8) (t + 14) [.int .i64 6, .int .i64 0, .int .i64 9] [6, 0, 9] (by kernel_rfl) (by kernel_rfl) (Nat.le_of_ble_eq_true rfl) (Nat.le_of_ble_eq_true rfl) (all_cons rfl (all_cons rfl (all_cons rfl all_nil))) (⟨_, _, rfl, (by exact rfl), ⟨_, _, rfl, (by exact rfl), ⟨_, _, rfl, (by exact rfl), rfl⟩⟩⟩) rfl ?_
       intro g32 a14 st32 hR14
       replace hR3 := hR3.mono st32 (fun x => x) (fun x => x)
       replace hR6 := hR6.mono st32 (fun x => x) (fun x => x)
       replace hR11 := hR11.mono st32 (fun x => x) (fun x => x)
       replace hR12 := hR12.mono st32 (fun x => x) (fun x => x)
       replace hR13 := hR13.mono st32 (fun x => x) (fun x => x)
       replace tot := tot.trans st32.pure
       replace hs := Option.bind_eq_some_iff.1 hs
       obtain ⟨q5, hk10, hs⟩ := hs
       have hS8 : 0 ∉ ([(t + 6), (t + 14)] : List Nat) := by simp <;> omega
       have stl8 := GW.lend_step g32 [(t + 6), (t + 14)]
       have hRl11 := hR6.lendTo hS8 (by simp)
       have hRl12 := hR14.lendTo hS8 (by simp)
       refine WP.regw (g' := GW.lend g32 [(t + 6), (t + 14)]) rfl ?_
       have hcal10 := P.baizeref03_Alike (GW.lend g32 [(t + 6), (t + 14)]) l2 ([6, 0, 9]) a6 n2 c2 a14 3 3 hRl11 hRl12 q5 hk10
       refine WP.callC hcal10 (by kernel_rfl) ?_
       rintro _ g33 st33 rfl
       have st34 := (GW.back_step st33).lentS
       have hO11 := hR6.backTo hS8 (by simp) st33 (fun x => x)
       have hO12 := hR14.backTo hS8 (by simp) st33 (fun x => x)
       refine WP.regw (g' := GW.back g32 g33 [(t + 6), (t + 14)]) rfl ?_
       generalize GW.back g32 g33 [(t + 6), (t + 14)] = g34 at *
       replace hR3 := hR3.mono st34 (WL.no2 (by omega) (by omega)) (WL.no2 (by omega) (by omega))
       replace hR11 := hR11.mono st34 (WL.no2 (by omega) (by omega)) (WL.no2 (by omega) (by omega))
       replace hR12 := hR12.mono st34 (WL.no2 (by omega) (by omega)) (WL.no2 (by omega) (by omega))
       replace hR13 := hR13.mono st34 (WL.no2 (by omega) (by omega)) (WL.no2 (by omega) (by omega))
       replace tot := tot.trans (st34.up2 (.inr (by omega)) (.inr (by omega)))
       clear hR6
       have hR6 : OwnS (Kd.int .i64) g34 (t + 6) 3 a6 n2 c2 l2 := hO11
       clear hO11
       clear hR14
       have hR14 : OwnS (Kd.int .i64) g34 (t + 14) 3 a14 3 3 ([6, 0, 9]) := hO12
       clear hO12
       refine WP.stl 2 ?_
       refine WP.dn ?_
       refine NX.post ?_
       exact ⟨q5, ⟨by kernel_rfl, by kernel_rfl⟩, tot, hs⟩
      replace hs := of_if_f hs h10
      refine WP.stl 5 ?_
      refine WP.dn ?_
      refine NX.post ?_
      exact ⟨false, ⟨by kernel_rfl, by kernel_rfl⟩, tot, hs⟩
     replace hs := of_if_f hs h9
     refine WP.stl 10 ?_
     refine WP.dn ?_
     refine NX.post ?_
     exact ⟨false, ⟨by kernel_rfl, by kernel_rfl⟩, tot, hs⟩
    replace hs := of_if_f hs h8
    refine WP.stl 14 ?_
    refine WP.dn ?_
    refine NX.post ?_
    exact ⟨false, ⟨by kernel_rfl, by kernel_rfl⟩, tot, hs⟩
   replace hs := of_if_f hs h7
   refine WP.stl 18 ?_
   refine WP.dn ?_
   refine NX.post ?_
   exact ⟨false, ⟨by kernel_rfl, by kernel_rfl⟩, tot, hs⟩
  replace hs := of_if_f hs h6
  refine WP.stl 23 ?_
  refine WP.dn ?_
  refine NX.post ?_
  exact ⟨false, ⟨by kernel_rfl, by kernel_rfl⟩, tot, hs⟩
 clear tot hs hR3 hR6
 rintro tm g ⟨q3, hF, tot, hs⟩
 clear ds
 obtain ⟨ds, rfl⟩ := hF.open
 clear hF
 unfold F.baizelaw35_told.c1 at hs
 refine CP.ret ?_
 replace hs := Option.some.inj hs
 obtain rfl := hs
 exact NX.fin (v := .bool q3) (Res.still (by kernel_rfl)) tot htL rfl
def F.slices_Clone_byte_byte_nil : Option ((List Int)) := (some ([]))
theorem P.slices_Clone_byte_byte_nil (g0 : GW) (r0 : Nat) (o1 : List Int) (hs : F.slices_Clone_byte_byte_nil = some o1) :
  Calls Try.prog 42 #[.slice none 0 0] g0.w (Ret NoM g0 fun v g => ∃ (a_1 : Option Addr) (n_1 : Nat) (c_1 : Nat), v = .slice a_1 n_1 c_1 ∧ OwnS (Kd.int .u8) g r0 5 a_1 n_1 c_1 o1) := by
 refine calls_of (args := [.slice none 0 0]) Try.func42 rfl (r0 + 0) ?_
 intro t ht htL
 refine ⟨_, rfl, ?_⟩
 refine CP.refr 8 [(0, .slice none 0 0)] (by kernel_rfl) (by kernel_rfl) ?_
 intro ds
 have tot : Step (fun l => NoM l ∨ t ≤ l) g0 g0 := Step.refl _ _
 unfold F.slices_Clone_byte_byte_nil at hs
 refine CP.seqR ?_
 refine WP.stl 1 ?_
 refine WP.dn ?_
 refine NX.then_n ?_
 refine CP.seq ?_
 refine CP.seqR ?_
 refine WP.stl 2 ?_
 refine WP.dn ?_
 refine NX.then_n ?_
 refine CP.cond_t (by kernel_rfl) ?_
 refine CP.seqR ?_
 refine WP.stl 1 ?_
 refine WP.dn ?_
 refine NX.then_n ?_
 refine CP.ret ?_
 refine NX.then_r ?_
 replace hs := Option.some.inj hs
 obtain rfl := hs
 exact NX.fin (v := .slice none 0 0) (Res.still (by kernel_rfl)) tot htL ⟨none, 0, 0, rfl, (OwnS.nil _ _ _ _)⟩
def F.slices_Clone_byte_byte_some (l1 : List Int) : Option ((List Int)) := (if ([] : List Int).length + l1.length ≤ 140737488355328 then (some (([] : List Int) ++ l1)) else none)
theorem P.slices_Clone_byte_byte_some (g0 : GW) (r0 : Nat) (l1 : List Int) (n1 : Nat) (c1 : Nat) (p1 : Addr) (hR1 : RdS (Kd.int .u8) g0 5 (some p1) n1 c1 l1) (o1 : List Int) (hs : F.slices_Clone_byte_byte_some l1 = some o1) :
  Calls Try.prog 42 #[.slice (some p1) n1 c1] g0.w (Ret NoM g0 fun v g => ∃ (a_1 : Option Addr) (n_1 : Nat) (c_1 : Nat), v = .slice a_1 n_1 c_1 ∧ OwnS (Kd.int .u8) g r0 5 a_1 n_1 c_1 o1) := by
 refine calls_of (args := [.slice (some p1) n1 c1]) Try.func42 rfl (r0 + 0) ?_
 intro t ht htL
 refine ⟨_, rfl, ?_⟩
 refine CP.refr 8 [(0, .slice (some p1) n1 c1)] (by kernel_rfl) (by kernel_rfl) ?_
 intro ds
 have tot : Step (fun l => NoM l ∨ t ≤ l) g0 g0 := Step.refl _ _
 unfold F.slices_Clone_byte_byte_some at hs
 refine CP.seqR ?_
 refine WP.stl 1 ?_
 refine WP.dn ?_
 refine NX.then_n ?_
 refine CP.seq ?_
 refine CP.seqR ?_
 refine WP.stl 2 ?_
 refine WP.dn ?_
 refine NX.then_n ?_
 refine CP.cond_f (by kernel_rfl) ?_
 refine CP.skip ?_
 refine NX.then_n ?_
 refine CP.seqR ?_
 refine WP.mkSl (kd := (Kd.int .u8)) (t := 74) (e := 5) (bytes := 1) (t + 1) [] ([] : List Int) (by kernel_rfl) (by kernel_rfl) (Nat.le_of_ble_eq_true rfl) (Nat.le_of_ble_eq_true rfl) all_nil (rfl) rfl ?_
 intro g1 a1 st1 hR2
 replace hR1 := hR1.mono st1 (fun x => x)
 replace tot := tot.trans st1.pure
 refine WP.stl 1 ?_
 by_cases hc1 : ([] : List Int).length + l1.length ≤ 140737488355328
 case neg => rw [if_neg hc1] at hs; cases hs
 replace hs := of_if_p hs hc1
 refine WP.append (kd := (Kd.int .u8)) (t := 74) (e := 5) (bytes := 1) (a2 := (some p1)) (c2 := c1) hR2 hR1.src hR1.len (by kernel_rfl) (by kernel_rfl) (by omega) (by simp only [maxLen]; omega) (by omega) ?_
 intro g2 a2 c2 st2 hR3
 replace hR1 := hR1.mono st2 (WL.no1 (by omega))
 replace tot := tot.trans (st2.up1 (.inr (by omega)))
 refine WP.stl 1 ?_
 refine WP.dn ?_
 refine NX.then_n ?_
 refine CP.ret ?_
 obtain ⟨g3, hw1, st3, hnew⟩ := hR3.relab (by omega) r0
 refine NX.regw hw1 ?_
 replace tot := tot.trans (st3.up1 (.inr (by omega)))
 clear hR3
 have hR3 := hnew
 clear hnew
 replace hs := Option.some.inj hs
 obtain rfl := hs
 exact NX.fin (v := .slice a2 (0 + n1) c2) (Res.still (by kernel_rfl)) tot htL ⟨a2, (0 + n1), c2, rfl, hR3⟩
def F.slices_Clone_byte_byte (l1 : List Int) : Option ((List Int)) := F.slices_Clone_byte_byte_some l1
theorem P.slices_Clone_byte_byte (g0 : GW) (r0 : Nat) (l1 : List Int) (a1 : Option Addr) (n1 : Nat) (c1 : Nat) (hR1 : RdS (Kd.int .u8) g0 5 a1 n1 c1 l1) (o1 : List Int) (hs : F.slices_Clone_byte_byte l1 = some o1) :
  Calls Try.prog 42 #[.slice a1 n1 c1] g0.w (Ret NoM g0 fun v g => ∃ (a_1 : Option Addr) (n_1 : Nat) (c_1 : Nat), v = .slice a_1 n_1 c_1 ∧ OwnS (Kd.int .u8) g r0 5 a_1 n_1 c_1 o1) := by
 rcases hR1.nilOr with ⟨rfl, rfl, rfl, rfl⟩ | ⟨b, rfl⟩
 ·exact P.slices_Clone_byte_byte_nil _ _ _ hs
 ·exact P.slices_Clone_byte_byte_some _ _ _ _ _ _ hR1 _ hs
def F.octet_PutNum.l1 : Nat → Int → (List Int) → Option ((List Int))
 | 0, _, _ => none
 | k + 1, x2, l3 => (if decide (x2 ≥ 128) = true then (if l3.length + ([(bitOr .u8 (IntKind.u8.wrap x2) 128)]).length ≤ 140737488355328 then (F.octet_PutNum.l1 k (shV false .u64 x2 7) (l3 ++ [(bitOr .u8 (IntKind.u8.wrap x2) 128)])) else none) else (if l3.length + ([(IntKind.u8.wrap x2)]).length ≤ 140737488355328 then (some (l3 ++ [(IntKind.u8.wrap x2)])) else none))
def F.octet_PutNum (l1 : List Int) (x1 : Int) : Option ((List Int)) := ((F.slices_Clone_byte_byte l1).bind fun l2 => (F.octet_PutNum.l1 fuel x1 l2))
theorem P.octet_PutNum (g0 : GW) (r0 : Nat) (l1 : List Int) (x1 : Int) (a1 : Option Addr) (n1 : Nat) (c1 : Nat) (hR1 : RdS (Kd.int .u8) g0 5 a1 n1 c1 l1) (o1 : List Int) (hs : F.octet_PutNum l1 x1 = some o1) :
  Calls Try.prog 33 #[.slice a1 n1 c1, .int .u64 x1] g0.w (Ret NoM g0 fun v g => ∃ (a_1 : Option Addr) (n_1 : Nat) (c_1 : Nat), v = .slice a_1 n_1 c_1 ∧ OwnS (Kd.int .u8) g r0 5 a_1 n_1 c_1 o1) := by
 refine calls_of (args := [.slice a1 n1 c1, .int .u64 x1]) Try.func33 rfl (r0 + 0) ?_
 intro t ht htL
 refine ⟨_, rfl, ?_⟩
 refine CP.refr 23 [(0, .slice a1 n1 c1), (1, .int .u64 x1)] (by kernel_rfl) (by kernel_rfl) ?_
 intro ds
 have tot : Step (fun l => NoM l ∨ t ≤ l) g0 g0 := Step.refl _ _
 unfold F.octet_PutNum at hs
 refine CP.seqR ?_
 refine WP.stl 1 ?_
 refine WP.dn ?_
 refine NX.then_n ?_
 refine CP.seqR ?_
 refine WP.stl 1 ?_
 replace hs := Option.bind_eq_some_iff.1 hs
 obtain ⟨l2, hk1, hs⟩ := hs
 have hcal1 := P.slices_Clone_byte_byte g0 (t + 1) l1 a1 n1 c1 hR1 l2 hk1
 refine WP.callC hcal1 (by kernel_rfl) ?_
 rintro _ g1 st1 ⟨a2, n2, c2, rfl, hR2⟩
 replace hR1 := hR1.mono st1 (fun x => x)
 replace tot := tot.trans st1.pure
 refine WP.stl 1 ?_
 refine WP.dn ?_
 refine NX.then_n ?_
 refine CP.seq ?_
 refine CP.block ?_
 generalize fuel = k1 at hs
 refine CP.loop (fun k1 tm g => ∃ (x2 : Int) (l3 : List Int) (a7 : Option Addr) (n3 : Nat) (c5 : Nat), Fr 23 [(1, .int .u64 x2), (5, .slice a7 n3 c5)] tm ∧ Step (fun l => NoM l ∨ t ≤ l) g0 g ∧ OwnS (Kd.int .u8) g (t + 1) 5 a7 n3 c5 l3 ∧ F.octet_PutNum.l1 k1 x2 l3 = some o1) k1 ?_ ?_ ?_
 ·exact ⟨x1, l2, a2, n2, c2, ⟨by kernel_rfl, by kernel_rfl⟩, tot, hR2, hs⟩
 ·rintro tm g ⟨x2, l3, a7, n3, c5, hF, tot, hR7, hs⟩
  exact absurd hs (by simp [F.octet_PutNum.l1])
 clear tot hs hR2
 rintro k1 tm g ⟨x2, l3, a7, n3, c5, hF, tot, hR7, hs⟩
 clear ds
 obtain ⟨ds, rfl⟩ := hF.open
 clear hF
 unfold F.octet_PutNum.l1 at hs
 refine CP.seq ?_
 refine CP.seqR ?_
 refine WP.stl 2 ?_
 refine WP.dn ?_
 refine NX.then_n ?_
 refine CP.cond (b := decide (x2 ≥ 128)) (by kernel_rfl) (fun h3 => ?_) (fun h3 => ?_)
 ·replace hs := of_if_t hs h3
  refine CP.skip ?_
  refine NX.then_n ?_
  refine CP.block ?_
  refine CP.seqR ?_
  refine WP.stl 4 ?_
  refine WP.mkSl (kd := (Kd.int .u8)) (t := 74) (e := 5) (bytes := 1) (t + 6) [.int .u8 (bitOr .u8 (IntKind.u8.wrap x2) 128)] [(bitOr .u8 (IntKind.u8.wrap x2) 128)] (by kernel_rfl) (by kernel_rfl) (Nat.le_of_ble_eq_true rfl) (Nat.le_of_ble_eq_true rfl) (all_cons rfl all_nil) (⟨_, _, rfl, (by exact rfl), rfl⟩) rfl ?_
  intro g10 a13 st10 hR13
  replace hR7 := hR7.mono st10 (fun x => x) (fun x => x)
  replace tot := tot.trans st10.pure
  by_cases hc5 : l3.length + ([(bitOr .u8 (IntKind.u8.wrap x2) 128)]).length ≤ 140737488355328
  case neg => rw [if_neg hc5] at hs; cases hs
  replace hs := of_if_p hs hc5
  refine WP.append (kd := (Kd.int .u8)) (t := 74) (e := 5) (bytes := 1) (a2 := a13) (c2 := 1) hR7 hR13.src hR13.len (by kernel_rfl) (by kernel_rfl) (by omega) (by simp only [maxLen]; omega) (by omega) ?_
  intro g11 a14 c9 st11 hR14
  replace hR13 := hR13.mono st11 (WL.no1 (by omega)) (WL.no1 (by omega))
  replace tot := tot.trans (st11.up1 (.inr (by omega)))
  refine WP.stl 1 ?_
  refine WP.dn ?_
  refine NX.then_n ?_
  refine CP.region ?_
  refine WP.stl 3 ?_
  refine WP.dn ?_
  refine NX.block_n ?_
  refine NX.post ?_
  exact ⟨(shV false .u64 x2 7), (l3 ++ [(bitOr .u8 (IntKind.u8.wrap x2) 128)]), a14, (n3 + 1), c9, ⟨by kernel_rfl, by kernel_rfl⟩, tot, hR14, hs⟩
 replace hs := of_if_f hs h3
 refine CP.exit ?_
 refine NX.then_e ?_
 refine NX.then_e ?_
 refine NX.block_s ?_
 refine NX.then_n ?_
 refine CP.seqR ?_
 refine WP.stl 3 ?_
 refine WP.mkSl (kd := (Kd.int .u8)) (t := 74) (e := 5) (bytes := 1) (t + 7) [.int .u8 (IntKind.u8.wrap x2)] [(IntKind.u8.wrap x2)] (by kernel_rfl) (by kernel_rfl) (Nat.le_of_ble_eq_true rfl) (Nat.le_of_ble_eq_true rfl) (all_cons rfl all_nil) (⟨_, _, rfl, (by exact rfl), rfl⟩) rfl ?_
 intro g12 a15 st12 hR15
 replace hR7 := hR7.mono st12 (fun x => x) (fun x => x)
 replace tot := tot.trans st12.pure
 by_cases hc6 : l3.length + ([(IntKind.u8.wrap x2)]).length ≤ 140737488355328
 case neg => rw [if_neg hc6] at hs; cases hs
 replace hs := of_if_p hs hc6
 refine WP.append (kd := (Kd.int .u8)) (t := 74) (e := 5) (bytes := 1) (a2 := a15) (c2 := 1) hR7 hR15.src hR15.len (by kernel_rfl) (by kernel_rfl) (by omega) (by simp only [maxLen]; omega) (by omega) ?_
 intro g13 a16 c10 st13 hR16
 replace hR15 := hR15.mono st13 (WL.no1 (by omega)) (WL.no1 (by omega))
 replace tot := tot.trans (st13.up1 (.inr (by omega)))
 refine WP.stl 1 ?_
 refine WP.dn ?_
 refine NX.then_n ?_
 refine CP.ret ?_
 obtain ⟨g14, hw1, st14, hnew⟩ := hR16.relab (by omega) r0
 refine NX.regw hw1 ?_
 replace tot := tot.trans (st14.up1 (.inr (by omega)))
 clear hR16
 have hR16 := hnew
 clear hnew
 replace hs := Option.some.inj hs
 obtain rfl := hs
 exact NX.fin (v := .slice a16 (n3 + 1) c10) (Res.still (by kernel_rfl)) tot htL ⟨a16, (n3 + 1), c10, rfl, hR16⟩
def F.octet_turn (x1 : Int) : Option (Int) := (some (bitXor .u64 (shV true .u64 (IntKind.u64.wrap x1) 1) (IntKind.u64.wrap (shV false .i64 x1 63))))
theorem P.octet_turn (g0 : GW) (x1 : Int) (o1 : Int) (hs : F.octet_turn x1 = some o1) :
  Calls Try.prog 50 #[.int .i64 x1] g0.w (Ret NoM g0 fun v g => v = .int .u64 o1) := by
 refine calls_of (args := [.int .i64 x1]) Try.func50 rfl (0) ?_
 intro t ht htL
 refine ⟨_, rfl, ?_⟩
 refine CP.refr 10 [(0, .int .i64 x1)] (by kernel_rfl) (by kernel_rfl) ?_
 intro ds
 have tot : Step (fun l => NoM l ∨ t ≤ l) g0 g0 := Step.refl _ _
 unfold F.octet_turn at hs
 refine CP.seqR ?_
 refine WP.stl 1 ?_
 refine WP.dn ?_
 refine NX.then_n ?_
 refine CP.seqR ?_
 refine WP.stl 8 ?_
 refine WP.dn ?_
 refine NX.then_n ?_
 refine CP.ret ?_
 replace hs := Option.some.inj hs
 obtain rfl := hs
 exact NX.fin (v := .int .u64 (bitXor .u64 (shV true .u64 (IntKind.u64.wrap x1) 1) (IntKind.u64.wrap (shV false .i64 x1 63)))) (Res.still (by kernel_rfl)) tot htL rfl
def F.octet_PutInt (l1 : List Int) (x1 : Int) : Option ((List Int)) := ((F.octet_turn x1).bind fun x2 => ((F.octet_PutNum l1 x2).bind fun l2 => (some l2)))
theorem P.octet_PutInt (g0 : GW) (r0 : Nat) (l1 : List Int) (x1 : Int) (a1 : Option Addr) (n1 : Nat) (c1 : Nat) (hR1 : RdS (Kd.int .u8) g0 5 a1 n1 c1 l1) (o1 : List Int) (hs : F.octet_PutInt l1 x1 = some o1) :
  Calls Try.prog 43 #[.slice a1 n1 c1, .int .i64 x1] g0.w (Ret NoM g0 fun v g => ∃ (a_1 : Option Addr) (n_1 : Nat) (c_1 : Nat), v = .slice a_1 n_1 c_1 ∧ OwnS (Kd.int .u8) g r0 5 a_1 n_1 c_1 o1) := by
 refine calls_of (args := [.slice a1 n1 c1, .int .i64 x1]) Try.func43 rfl (r0 + 0) ?_
 intro t ht htL
 refine ⟨_, rfl, ?_⟩
 refine CP.refr 9 [(0, .slice a1 n1 c1), (1, .int .i64 x1)] (by kernel_rfl) (by kernel_rfl) ?_
 intro ds
 have tot : Step (fun l => NoM l ∨ t ≤ l) g0 g0 := Step.refl _ _
 unfold F.octet_PutInt at hs
 refine CP.seqR ?_
 refine WP.stl 1 ?_
 refine WP.dn ?_
 refine NX.then_n ?_
 refine CP.seqR ?_
 refine WP.stl 2 ?_
 replace hs := Option.bind_eq_some_iff.1 hs
 obtain ⟨x2, hk1, hs⟩ := hs
 have hcal1 := P.octet_turn g0 x1 x2 hk1
 refine WP.callC hcal1 (by kernel_rfl) ?_
 rintro _ g1 st1 rfl
 replace hR1 := hR1.mono st1 (fun x => x)
 replace tot := tot.trans st1.pure
 replace hs := Option.bind_eq_some_iff.1 hs
 obtain ⟨l2, hk2, hs⟩ := hs
 have hcal2 := P.octet_PutNum g1 (t + 1) l1 x2 a1 n1 c1 hR1 l2 hk2
 refine WP.callC hcal2 (by kernel_rfl) ?_
 rintro _ g2 st2 ⟨a2, n2, c2, rfl, hR2⟩
 replace hR1 := hR1.mono st2 (fun x => x)
 replace tot := tot.trans st2.pure
 refine WP.stl 1 ?_
 refine WP.dn ?_
 refine NX.then_n ?_
 refine CP.ret ?_
 obtain ⟨g3, hw1, st3, hnew⟩ := hR2.relab (by omega) r0
 refine NX.regw hw1 ?_
 replace tot := tot.trans (st3.up1 (.inr (by omega)))
 clear hR2
 have hR2 := hnew
 clear hnew
 replace hs := Option.some.inj hs
 obtain rfl := hs
 exact NX.fin (v := .slice a2 n2 c2) (Res.still (by kernel_rfl)) tot htL ⟨a2, n2, c2, rfl, hR2⟩
def F.state_number (x1 : Int) : Option ((List Int)) := ((F.octet_PutInt ([]) x1).bind fun l1 => (some l1))
theorem P.state_number (g0 : GW) (r0 : Nat) (x1 : Int) (o1 : List Int) (hs : F.state_number x1 = some o1) :
  Calls Try.prog 34 #[.int .i64 x1] g0.w (Ret NoM g0 fun v g => ∃ (a_1 : Option Addr) (n_1 : Nat) (c_1 : Nat), v = .slice a_1 n_1 c_1 ∧ OwnS (Kd.int .u8) g r0 5 a_1 n_1 c_1 o1) := by
 refine calls_of (args := [.int .i64 x1]) Try.func34 rfl (r0 + 0) ?_
 intro t ht htL
 refine ⟨_, rfl, ?_⟩
 refine CP.refr 5 [(0, .int .i64 x1)] (by kernel_rfl) (by kernel_rfl) ?_
 intro ds
 have tot : Step (fun l => NoM l ∨ t ≤ l) g0 g0 := Step.refl _ _
 unfold F.state_number at hs
 refine CP.seqR ?_
 refine WP.stl 1 ?_
 refine WP.dn ?_
 refine NX.then_n ?_
 refine CP.seqR ?_
 refine WP.stl 1 ?_
 replace hs := Option.bind_eq_some_iff.1 hs
 obtain ⟨l1, hk1, hs⟩ := hs
 have hcal1 := P.octet_PutInt g0 (t + 1) ([]) x1 none 0 0 (RdS.nil _ _ _) l1 hk1
 refine WP.callC hcal1 (by kernel_rfl) ?_
 rintro _ g1 st1 ⟨a1, n1, c1, rfl, hR1⟩
 replace tot := tot.trans st1.pure
 refine WP.stl 1 ?_
 refine WP.dn ?_
 refine NX.then_n ?_
 refine CP.ret ?_
 obtain ⟨g2, hw1, st2, hnew⟩ := hR1.relab (by omega) r0
 refine NX.regw hw1 ?_
 replace tot := tot.trans (st2.up1 (.inr (by omega)))
 clear hR1
 have hR1 := hnew
 clear hnew
 replace hs := Option.some.inj hs
 obtain rfl := hs
 exact NX.fin (v := .slice a1 n1 c1) (Res.still (by kernel_rfl)) tot htL ⟨a1, n1, c1, rfl, hR1⟩
def F.octet_PutBytes (l1 : List Int) (l2 : List Int) : Option ((List Int)) := ((F.octet_PutNum l1 (IntKind.u64.wrap (l2.length : Int))).bind fun l3 => (if l3.length + l2.length ≤ 140737488355328 then (some (l3 ++ l2)) else none))
theorem P.octet_PutBytes (g0 : GW) (r0 : Nat) (l1 : List Int) (l2 : List Int) (a1 : Option Addr) (n1 : Nat) (c1 : Nat) (a2 : Option Addr) (n2 : Nat) (c2 : Nat) (hR1 : RdS (Kd.int .u8) g0 5 a1 n1 c1 l1) (hR2 : RdS (Kd.int .u8) g0 5 a2 n2 c2 l2) (o1 : List Int) (hs : F.octet_PutBytes l1 l2 = some o1) :
  Calls Try.prog 44 #[.slice a1 n1 c1, .slice a2 n2 c2] g0.w (Ret NoM g0 fun v g => ∃ (a_1 : Option Addr) (n_1 : Nat) (c_1 : Nat), v = .slice a_1 n_1 c_1 ∧ OwnS (Kd.int .u8) g r0 5 a_1 n_1 c_1 o1) := by
 refine calls_of (args := [.slice a1 n1 c1, .slice a2 n2 c2]) Try.func44 rfl (r0 + 0) ?_
 intro t ht htL
 refine ⟨_, rfl, ?_⟩
 refine CP.refr 12 [(0, .slice a1 n1 c1), (1, .slice a2 n2 c2)] (by kernel_rfl) (by kernel_rfl) ?_
 intro ds
 have tot : Step (fun l => NoM l ∨ t ≤ l) g0 g0 := Step.refl _ _
 unfold F.octet_PutBytes at hs
 refine CP.seqR ?_
 refine WP.stl 1 ?_
 refine WP.dn ?_
 refine NX.then_n ?_
 refine CP.seqR ?_
 refine WP.stl 2 ?_
 refine WP.len (a := a2) (cp := c2) hR2.len (by kernel_rfl) ?_
 refine WP.stl 1 ?_
 replace hs := Option.bind_eq_some_iff.1 hs
 obtain ⟨l3, hk1, hs⟩ := hs
 have hcal1 := P.octet_PutNum g0 (t + 1) l1 (IntKind.u64.wrap (l2.length : Int)) a1 n1 c1 hR1 l3 hk1
 refine WP.callC hcal1 (by kernel_rfl) ?_
 rintro _ g1 st1 ⟨a3, n3, c3, rfl, hR3⟩
 replace hR1 := hR1.mono st1 (fun x => x)
 replace hR2 := hR2.mono st1 (fun x => x)
 replace tot := tot.trans st1.pure
 refine WP.stl 1 ?_
 by_cases hc1 : l3.length + l2.length ≤ 140737488355328
 case neg => rw [if_neg hc1] at hs; cases hs
 replace hs := of_if_p hs hc1
 refine WP.append (kd := (Kd.int .u8)) (t := 74) (e := 5) (bytes := 1) (a2 := a2) (c2 := c2) hR3 hR2.src hR2.len (by kernel_rfl) (by kernel_rfl) (by omega) (by simp only [maxLen]; omega) (by omega) ?_
 intro g2 a4 c4 st2 hR4
 replace hR1 := hR1.mono st2 (WL.no1 (by omega))
 replace hR2 := hR2.mono st2 (WL.no1 (by omega))
 replace tot := tot.trans (st2.up1 (.inr (by omega)))
 refine WP.stl 1 ?_
 refine WP.dn ?_
 refine NX.then_n ?_
 refine CP.ret ?_
 obtain ⟨g3, hw1, st3, hnew⟩ := hR4.relab (by omega) r0
 refine NX.regw hw1 ?_
 replace tot := tot.trans (st3.up1 (.inr (by omega)))
 clear hR4
 have hR4 := hnew
 clear hnew
 replace hs := Option.some.inj hs
 obtain rfl := hs
 exact NX.fin (v := .slice a4 (n3 + n2) c4) (Res.still (by kernel_rfl)) tot htL ⟨a4, (n3 + n2), c4, rfl, hR4⟩
def F.octet_PutText (l1 : List Int) (s1 : ByteArray) : Option ((List Int)) := ((F.octet_PutBytes l1 (strBytes s1)).bind fun l2 => (some l2))
theorem P.octet_PutText (g0 : GW) (r0 : Nat) (l1 : List Int) (s1 : ByteArray) (a1 : Option Addr) (n1 : Nat) (c1 : Nat) (hR1 : RdS (Kd.int .u8) g0 5 a1 n1 c1 l1) (o1 : List Int) (hs : F.octet_PutText l1 s1 = some o1) :
  Calls Try.prog 45 #[.slice a1 n1 c1, .string s1] g0.w (Ret NoM g0 fun v g => ∃ (a_1 : Option Addr) (n_1 : Nat) (c_1 : Nat), v = .slice a_1 n_1 c_1 ∧ OwnS (Kd.int .u8) g r0 5 a_1 n_1 c_1 o1) := by
 refine calls_of (args := [.slice a1 n1 c1, .string s1]) Try.func45 rfl (r0 + 0) ?_
 intro t ht htL
 refine ⟨_, rfl, ?_⟩
 refine CP.refr 9 [(0, .slice a1 n1 c1), (1, .string s1)] (by kernel_rfl) (by kernel_rfl) ?_
 intro ds
 have tot : Step (fun l => NoM l ∨ t ≤ l) g0 g0 := Step.refl _ _
 unfold F.octet_PutText at hs
 refine CP.seqR ?_
 refine WP.stl 1 ?_
 refine WP.dn ?_
 refine NX.then_n ?_
 refine CP.seqR ?_
 refine WP.stl 2 ?_
 refine WP.toBytes (e := 5) (s := s1) (by kernel_rfl) ?_
 intro g1 a2 c2 st1 hR2
 replace hR1 := hR1.mono st1 (fun x => x)
 replace tot := tot.trans st1.pure
 replace hs := Option.bind_eq_some_iff.1 hs
 obtain ⟨l2, hk1, hs⟩ := hs
 have hcal1 := P.octet_PutBytes g1 (t + 1) l1 (strBytes s1) a1 n1 c1 a2 s1.size c2 hR1 hR2 l2 hk1
 refine WP.callC hcal1 (by kernel_rfl) ?_
 rintro _ g2 st2 ⟨a3, n2, c3, rfl, hR3⟩
 replace hR1 := hR1.mono st2 (fun x => x)
 replace hR2 := hR2.mono st2 (fun x => x)
 replace tot := tot.trans st2.pure
 refine WP.stl 1 ?_
 refine WP.dn ?_
 refine NX.then_n ?_
 refine CP.ret ?_
 obtain ⟨g3, hw1, st3, hnew⟩ := hR3.relab (by omega) r0
 refine NX.regw hw1 ?_
 replace tot := tot.trans (st3.up1 (.inr (by omega)))
 clear hR3
 have hR3 := hnew
 clear hnew
 replace hs := Option.some.inj hs
 obtain rfl := hs
 exact NX.fin (v := .slice a3 n2 c3) (Res.still (by kernel_rfl)) tot htL ⟨a3, n2, c3, rfl, hR3⟩
def F.slices_Grow_byte_byte.c1 (l1 : List Int) : Option ((List Int)) := (some l1)
def F.slices_Grow_byte_byte (x1 : Int) : Option ((List Int)) := (if decide (x1 < 0) = true then (if False then none else none) else (if decide ((IntKind.i64.wrap (x1 - (IntKind.i64.wrap (0 - 0)))) > 0) = true then (if (0 : Int) < (IntKind.i64.wrap (x1 - (IntKind.i64.wrap (0 - 0)))) ∧ (IntKind.i64.wrap (x1 - (IntKind.i64.wrap (0 - 0)))) ≤ 140737488355328 then (F.slices_Grow_byte_byte.c1 (List.take 0 (List.replicate (IntKind.i64.wrap (x1 - (IntKind.i64.wrap (0 - 0)))).toNat (0 : Int)))) else none) else (F.slices_Grow_byte_byte.c1 ([]))))
theorem P.slices_Grow_byte_byte (g0 : GW) (r0 : Nat) (x1 : Int) (o1 : List Int) (hs : F.slices_Grow_byte_byte x1 = some o1) :
  Calls Try.prog 54 #[.slice none 0 0, .int .i64 x1] g0.w (Ret NoM g0 fun v g => ∃ (a_1 : Option Addr) (n_1 : Nat) (c_1 : Nat), v = .slice a_1 n_1 c_1 ∧ OwnS (Kd.int .u8) g r0 5 a_1 n_1 c_1 o1) := by
 refine calls_of (args := [.slice none 0 0, .int .i64 x1]) Try.func54 rfl (r0 + 0) ?_
 intro t ht htL
 refine ⟨_, rfl, ?_⟩
 refine CP.refr 27 [(0, .slice none 0 0), (1, .int .i64 x1)] (by kernel_rfl) (by kernel_rfl) ?_
 intro ds
 have tot : Step (fun l => NoM l ∨ t ≤ l) g0 g0 := Step.refl _ _
 unfold F.slices_Grow_byte_byte at hs
 refine CP.seqR ?_
 refine WP.stl 1 ?_
 refine WP.dn ?_
 refine NX.then_n ?_
 refine CP.seq ?_
 refine CP.seqR ?_
 refine WP.stl 2 ?_
 refine WP.dn ?_
 refine NX.then_n ?_
 refine CP.cond (b := decide (x1 < 0)) (by kernel_rfl) (fun h2 => ?_) (fun h2 => ?_)
 ·replace hs := of_if_t hs h2
  refine CP.region ?_
  refine WP.stl 1 ?_
  by_cases hc2 : False
  case neg => rw [if_neg hc2] at hs; cases hs
  replace hs := of_if_p hs hc2
  exact absurd hs (by simp)
 replace hs := of_if_f hs h2
 refine CP.skip ?_
 refine NX.then_n ?_
 refine CP.cut (fun tm g => ∃ (l1 : List Int) (a2 : Option Addr) (n1 : Nat) (c2 : Nat), Fr 27 [(0, .slice a2 n1 c2)] tm ∧ Step (fun l => NoM l ∨ t ≤ l) g0 g ∧ OwnS (Kd.int .u8) g (t + 1) 5 a2 n1 c2 l1 ∧ (F.slices_Grow_byte_byte.c1 l1) = some o1) ?_ ?_
 ·refine CP.seqR ?_
  refine WP.stl 2 ?_
  refine WP.cap (a := none) (m := 0) (cp := 0) (by kernel_rfl) ?_
  refine WP.stl 5 ?_
  refine WP.dn ?_
  refine NX.then_n ?_
  refine CP.seqR ?_
  refine WP.stl 2 ?_
  refine WP.dn ?_
  refine NX.then_n ?_
  refine CP.refr 27 [(0, .slice none 0 0), (1, .int .i64 (IntKind.i64.wrap (x1 - (IntKind.i64.wrap (0 - 0))))), (16, .bool (decide ((IntKind.i64.wrap (x1 - (IntKind.i64.wrap (0 - 0)))) > 0)))] (by kernel_rfl) (by kernel_rfl) ?_
  clear ds
  intro ds
  refine CP.cond (b := decide ((IntKind.i64.wrap (x1 - (IntKind.i64.wrap (0 - 0)))) > 0)) (by kernel_rfl) (fun h4 => ?_) (fun h4 => ?_)
  ·replace hs := of_if_t hs h4
   refine CP.region ?_
   refine WP.stl 2 ?_
   refine WP.cap (a := none) (m := 0) (cp := 0) (by kernel_rfl) ?_
   refine WP.sliceNil (e := 5) (size := 1) (k := .i64) (by kernel_rfl) ?_
   refine WP.stl 1 ?_
   by_cases hc4 : (0 : Int) < (IntKind.i64.wrap (x1 - (IntKind.i64.wrap (0 - 0)))) ∧ (IntKind.i64.wrap (x1 - (IntKind.i64.wrap (0 - 0)))) ≤ 140737488355328
   case neg => rw [if_neg hc4] at hs; cases hs
   replace hs := of_if_p hs hc4
   refine WP.appendZ (kd := (Kd.int .u8)) (t + 2) (t := 74) (e := 5) (bytes := 1) (k := .i64) (i := (IntKind.i64.wrap (x1 - (IntKind.i64.wrap (0 - 0))))) (by kernel_rfl) (by kernel_rfl) (Nat.le_of_ble_eq_true rfl) hc4.1 (by omega) (by omega) (z := 0) (by intro zv hz; cases hz; exact (by exact rfl)) ?_
   intro g3 a3 c3 st3 hR4
   replace tot := tot.trans st3.pure
   refine WP.stl 2 ?_
   refine WP.sliceK (k := .i64) (j := 0) hR4 (by kernel_rfl) (by omega) ?_
   intro hR5
   refine WP.stl 1 ?_
   refine WP.dn ?_
   obtain ⟨g4, hw2, st4, hnew⟩ := hR5.relab (by omega) (t + 1)
   refine NX.regw hw2 ?_
   replace tot := tot.trans (st4.up1 (.inr (by omega)))
   clear hR5
   have hR5 := hnew
   clear hnew
   refine NX.post ?_
   exact ⟨(List.take 0 (List.replicate (IntKind.i64.wrap (x1 - (IntKind.i64.wrap (0 - 0)))).toNat (0 : Int))), a3, 0, c3, ⟨by kernel_rfl, by kernel_rfl⟩, tot, hR5, hs⟩
  replace hs := of_if_f hs h4
  refine CP.skip ?_
  refine NX.post ?_
  exact ⟨[], none, 0, 0, ⟨by kernel_rfl, by kernel_rfl⟩, tot, (OwnS.nil _ _ _ _), hs⟩
 clear tot hs
 rintro tm g ⟨l1, a2, n1, c2, hF, tot, hR3, hs⟩
 clear ds
 obtain ⟨ds, rfl⟩ := hF.open
 clear hF
 unfold F.slices_Grow_byte_byte.c1 at hs
 refine CP.seqR ?_
 refine WP.stl 2 ?_
 refine WP.dn ?_
 refine NX.then_n ?_
 refine CP.ret ?_
 obtain ⟨g2, hw1, st2, hnew⟩ := hR3.relab (by omega) r0
 refine NX.regw hw1 ?_
 replace tot := tot.trans (st2.up1 (.inr (by omega)))
 clear hR3
 have hR3 := hnew
 clear hnew
 replace hs := Option.some.inj hs
 obtain rfl := hs
 exact NX.fin (v := .slice a2 n1 c2) (Res.still (by kernel_rfl)) tot htL ⟨a2, n1, c2, rfl, hR3⟩
def F.slices_Concat_byte_byte.l2 (l1 : List (List Int)) : Nat → (List Int) → Int → Option ((List Int))
 | 0, _, _ => none
 | k + 1, l9, x9 => (if decide (x9 < (l1.length : Int)) = true then (if (0 : Int) ≤ x9 ∧ x9 < (l1.length : Int) then (if l9.length + (getI l1 x9).length ≤ 140737488355328 then (F.slices_Concat_byte_byte.l2 l1 k (l9 ++ (getI l1 x9)) (IntKind.i64.wrap (x9 + 1))) else none) else none) else (some l9))
def F.slices_Concat_byte_byte.l1 (l1 : List (List Int)) : Nat → Int → Int → Option ((List Int))
 | 0, _, _ => none
 | k + 1, x3, x4 => (if decide (x4 < (l1.length : Int)) = true then (if (0 : Int) ≤ x4 ∧ x4 < (l1.length : Int) then (if decide ((IntKind.i64.wrap (x3 + ((getI l1 x4).length : Int))) < 0) = true then (if False then none else none) else (F.slices_Concat_byte_byte.l1 l1 k (IntKind.i64.wrap (x3 + ((getI l1 x4).length : Int))) (IntKind.i64.wrap (x4 + 1)))) else none) else ((F.slices_Grow_byte_byte x3).bind fun l8 => (F.slices_Concat_byte_byte.l2 l1 fuel l8 0)))
def F.slices_Concat_byte_byte (l1 : List (List Int)) : Option ((List Int)) := (F.slices_Concat_byte_byte.l1 l1 fuel 0 0)
theorem P.slices_Concat_byte_byte (g0 : GW) (r0 : Nat) (l1 : List (List Int)) (a1 : Option Addr) (n1 : Nat) (c1 : Nat) (hR1 : RdS (Kd.slice 5 (Kd.int .u8)) g0 74 a1 n1 c1 l1) (o1 : List Int) (hs : F.slices_Concat_byte_byte l1 = some o1) :
  Calls Try.prog 47 #[.slice a1 n1 c1] g0.w (Ret NoM g0 fun v g => ∃ (a_1 : Option Addr) (n_1 : Nat) (c_1 : Nat), v = .slice a_1 n_1 c_1 ∧ OwnS (Kd.int .u8) g r0 5 a_1 n_1 c_1 o1) := by
 refine calls_of (args := [.slice a1 n1 c1]) Try.func47 rfl (r0 + 0) ?_
 intro t ht htL
 refine ⟨_, rfl, ?_⟩
 refine CP.refr 36 [(0, .slice a1 n1 c1)] (by kernel_rfl) (by kernel_rfl) ?_
 intro ds
 have tot : Step (fun l => NoM l ∨ t ≤ l) g0 g0 := Step.refl _ _
 unfold F.slices_Concat_byte_byte at hs
 refine CP.seqR ?_
 refine WP.stl 1 ?_
 refine WP.dn ?_
 refine NX.then_n ?_
 refine CP.seqR ?_
 refine WP.stl 1 ?_
 refine WP.dn ?_
 refine NX.then_n ?_
 refine CP.seq ?_
 refine CP.seqR ?_
 refine WP.stl 1 ?_
 refine WP.len (a := a1) (cp := c1) hR1.len (by kernel_rfl) ?_
 refine WP.stl 1 ?_
 refine WP.dn ?_
 refine NX.then_n ?_
 refine CP.block ?_
 generalize fuel = k1 at hs
 refine CP.loop (fun k1 tm g => ∃ (x3 : Int) (x4 : Int), Fr 36 [(0, .slice a1 n1 c1), (3, .int .i64 x3), (9, .slice a1 n1 c1), (10, .int .i64 (l1.length : Int)), (11, .int .i64 x4)] tm ∧ Step (fun l => NoM l ∨ t ≤ l) g0 g ∧ RdS (Kd.slice 5 (Kd.int .u8)) g 74 a1 n1 c1 l1 ∧ F.slices_Concat_byte_byte.l1 l1 k1 x3 x4 = some o1) k1 ?_ ?_ ?_
 ·exact ⟨0, 0, ⟨by kernel_rfl, by kernel_rfl⟩, tot, hR1, hs⟩
 ·rintro tm g ⟨x3, x4, hF, tot, hR1, hs⟩
  exact absurd hs (by simp [F.slices_Concat_byte_byte.l1])
 clear tot hs hR1
 rintro k1 tm g ⟨x3, x4, hF, tot, hR1, hs⟩
 clear ds
 obtain ⟨ds, rfl⟩ := hF.open
 clear hF
 unfold F.slices_Concat_byte_byte.l1 at hs
 refine CP.seqR ?_
 refine WP.stl 1 ?_
 refine WP.dn ?_
 refine NX.then_n ?_
 refine CP.seq ?_
 refine CP.cond (b := decide (x4 < (l1.length : Int))) (by kernel_rfl) (fun h11 => ?_) (fun h11 => ?_)
 ·replace hs := of_if_t hs h11
  refine CP.skip ?_
  refine NX.then_n ?_
  refine CP.seq ?_
  refine CP.block ?_
  refine CP.seqR ?_
  by_cases hc19 : (0 : Int) ≤ x4 ∧ x4 < (l1.length : Int)
  case neg => rw [if_neg hc19] at hs; cases hs
  replace hs := of_if_p hs hc19
  obtain ⟨b10, u10, ha10⟩ := hR1.at hc19
  refine WP.indexA (t := 52) (e := 74) (sz := 1) (cap := c1) (k := .i64) (i := x4) hR1.len ha10 (by kernel_rfl) (by kernel_rfl) hc19 ?_
  obtain ⟨cs10, hcR10, hcV10⟩ := hR1.src.view (getI_some hc19) ha10
  obtain ⟨a21, n17, c21, hcR10, hR21⟩ := Kd.o_sl hcR10
  refine WP.loadV [[.slice a21 n17 c21]] [1] hcV10 hcR10 rfl (f := 0) (ty := 74) (agg := false) (size := 1) (rs := [[.slice a21 n17 c21]]) (v := .slice a21 n17 c21) (by kernel_rfl) (by kernel_rfl) (by kernel_rfl) (by kernel_rfl) ?_
  refine WP.stl 1 ?_
  refine WP.dn ?_
  refine NX.then_n ?_
  refine CP.seqR ?_
  refine WP.stl 2 ?_
  refine WP.len (a := a21) (cp := c21) hR21.len (by kernel_rfl) ?_
  refine WP.stl 2 ?_
  refine WP.dn ?_
  refine NX.then_n ?_
  refine CP.seqR ?_
  refine WP.stl 2 ?_
  refine WP.dn ?_
  refine NX.then_n ?_
  refine CP.cond (b := decide ((IntKind.i64.wrap (x3 + ((getI l1 x4).length : Int))) < 0)) (by kernel_rfl) (fun h13 => ?_) (fun h13 => ?_)
  ·replace hs := of_if_t hs h13
   refine CP.region ?_
   refine WP.stl 1 ?_
   by_cases hc20 : False
   case neg => rw [if_neg hc20] at hs; cases hs
   replace hs := of_if_p hs hc20
   exact absurd hs (by simp)
  replace hs := of_if_f hs h13
  refine CP.skip ?_
  refine NX.block_n ?_
  refine NX.then_n ?_
  refine CP.region ?_
  refine WP.stl 2 ?_
  refine WP.dn ?_
  refine NX.post ?_
  exact ⟨(IntKind.i64.wrap (x3 + ((getI l1 x4).length : Int))), (IntKind.i64.wrap (x4 + 1)), ⟨by kernel_rfl, by kernel_rfl⟩, tot, hR1, hs⟩
 replace hs := of_if_f hs h11
 refine CP.exit ?_
 refine NX.then_e ?_
 refine NX.then_e ?_
 refine NX.block_s ?_
 refine NX.then_n ?_
 refine CP.seqR ?_
 refine WP.stl 1 ?_
 replace hs := Option.bind_eq_some_iff.1 hs
 obtain ⟨l8, hk3, hs⟩ := hs
 have hcal3 := P.slices_Grow_byte_byte g (t + 3) x3 l8 hk3
 refine WP.callC hcal3 (by kernel_rfl) ?_
 rintro _ g7 st7 ⟨a22, n18, c22, rfl, hR22⟩
 replace hR1 := hR1.mono st7 (fun x => x)
 replace tot := tot.trans st7.pure
 refine WP.stl 1 ?_
 refine WP.dn ?_
 refine NX.then_n ?_
 refine CP.seq ?_
 refine CP.seqR ?_
 refine WP.stl 1 ?_
 refine WP.len (a := a1) (cp := c1) hR1.len (by kernel_rfl) ?_
 refine WP.stl 1 ?_
 refine WP.dn ?_
 refine NX.then_n ?_
 refine CP.block ?_
 generalize fuel = k2 at hs
 refine CP.loop (fun k2 tm g => ∃ (l9 : List Int) (a25 : Option Addr) (n20 : Nat) (c25 : Nat) (x9 : Int), Fr 36 [(6, .slice a25 n20 c25), (25, .slice a1 n1 c1), (26, .int .i64 (l1.length : Int)), (27, .int .i64 x9)] tm ∧ Step (fun l => NoM l ∨ t ≤ l) g0 g ∧ OwnS (Kd.int .u8) g (t + 3) 5 a25 n20 c25 l9 ∧ RdS (Kd.slice 5 (Kd.int .u8)) g 74 a1 n1 c1 l1 ∧ F.slices_Concat_byte_byte.l2 l1 k2 l9 x9 = some o1) k2 ?_ ?_ ?_
 ·exact ⟨l8, a22, n18, c22, 0, ⟨by kernel_rfl, by kernel_rfl⟩, tot, hR22, hR1, hs⟩
 ·rintro tm g ⟨l9, a25, n20, c25, x9, hF, tot, hR25, hR1, hs⟩
  exact absurd hs (by simp [F.slices_Concat_byte_byte.l2])
 clear tot hs hR22 hR1
 rintro k2 tm g ⟨l9, a25, n20, c25, x9, hF, tot, hR25, hR1, hs⟩
 clear ds
 obtain ⟨ds, rfl⟩ := hF.open
 clear hF
 unfold F.slices_Concat_byte_byte.l2 at hs
 refine CP.seqR ?_
 refine WP.stl 1 ?_
 refine WP.dn ?_
 refine NX.then_n ?_
 refine CP.seq ?_
 refine CP.cond (b := decide (x9 < (l1.length : Int))) (by kernel_rfl) (fun h16 => ?_) (fun h16 => ?_)
 ·replace hs := of_if_t hs h16
  refine CP.skip ?_
  refine NX.then_n ?_
  refine CP.seq ?_
  refine CP.block ?_
  refine CP.seqR ?_
  by_cases hc25 : (0 : Int) ≤ x9 ∧ x9 < (l1.length : Int)
  case neg => rw [if_neg hc25] at hs; cases hs
  replace hs := of_if_p hs hc25
  obtain ⟨b13, u13, ha13⟩ := hR1.at hc25
  refine WP.indexA (t := 52) (e := 74) (sz := 1) (cap := c1) (k := .i64) (i := x9) hR1.len ha13 (by kernel_rfl) (by kernel_rfl) hc25 ?_
  obtain ⟨cs13, hcR13, hcV13⟩ := hR1.src.view (getI_some hc25) ha13
  obtain ⟨a29, n23, c29, hcR13, hR29⟩ := Kd.o_sl hcR13
  refine WP.loadV [[.slice a29 n23 c29]] [1] hcV13 hcR13 rfl (f := 0) (ty := 74) (agg := false) (size := 1) (rs := [[.slice a29 n23 c29]]) (v := .slice a29 n23 c29) (by kernel_rfl) (by kernel_rfl) (by kernel_rfl) (by kernel_rfl) ?_
  refine WP.stl 1 ?_
  refine WP.dn ?_
  refine NX.then_n ?_
  refine CP.region ?_
  refine WP.stl 2 ?_
  by_cases hc26 : l9.length + (getI l1 x9).length ≤ 140737488355328
  case neg => rw [if_neg hc26] at hs; cases hs
  replace hs := of_if_p hs hc26
  refine WP.append (kd := (Kd.int .u8)) (t := 74) (e := 5) (bytes := 1) (a2 := a29) (c2 := c29) hR25 hR29.src hR29.len (by kernel_rfl) (by kernel_rfl) (by omega) (by simp only [maxLen]; omega) (by omega) ?_
  intro g10 a30 c30 st10 hR30
  replace hR1 := hR1.mono st10 (WL.no1 (by omega))
  replace hR29 := hR29.mono st10 (WL.no1 (by omega))
  replace tot := tot.trans (st10.up1 (.inr (by omega)))
  refine WP.stl 1 ?_
  refine WP.dn ?_
  refine NX.block_n ?_
  refine NX.then_n ?_
  refine CP.region ?_
  refine WP.stl 2 ?_
  refine WP.dn ?_
  refine NX.post ?_
  exact ⟨(l9 ++ (getI l1 x9)), a30, (n20 + n23), c30, (IntKind.i64.wrap (x9 + 1)), ⟨by kernel_rfl, by kernel_rfl⟩, tot, hR30, hR1, hs⟩
 replace hs := of_if_f hs h16
 refine CP.exit ?_
 refine NX.then_e ?_
 refine NX.then_e ?_
 refine NX.block_s ?_
 refine NX.then_n ?_
 refine CP.seqR ?_
 refine WP.stl 2 ?_
 refine WP.dn ?_
 refine NX.then_n ?_
 refine CP.ret ?_
 obtain ⟨g11, hw1, st11, hnew⟩ := hR25.relab (by omega) r0
 refine NX.regw hw1 ?_
 replace tot := tot.trans (st11.up1 (.inr (by omega)))
 clear hR25
 have hR25 := hnew
 clear hnew
 replace hs := Option.some.inj hs
 obtain rfl := hs
 exact NX.fin (v := .slice a25 n20 c25) (Res.still (by kernel_rfl)) tot htL ⟨a25, n20, c25, rfl, hR25⟩
def F.hash_begin (x1 : Int) : Option (Int × Int × Int × Int) := (some (2611923443488327891, 1376283091369227076, 11820040416388919760, x1))
theorem P.hash_begin (g0 : GW) (x1 : Int) (o1 : Int) (o2 : Int) (o3 : Int) (o4 : Int) (hs : F.hash_begin x1 = some (o1, o2, o3, o4)) :
  Calls Try.prog 51 #[.int .u64 x1] g0.w (Ret NoM g0 fun v g => v = AG [[.int .u64 o1], [.int .u64 o2], [.int .u64 o3], [.int .u64 o4]]) := by
 refine calls_of (args := [.int .u64 x1]) Try.func51 rfl (0) ?_
 intro t ht htL
 refine ⟨_, rfl, ?_⟩
 refine CP.refr 5 [(0, .int .u64 x1)] (by kernel_rfl) (by kernel_rfl) ?_
 intro ds
 have tot : Step (fun l => NoM l ∨ t ≤ l) g0 g0 := Step.refl _ _
 unfold F.hash_begin at hs
 refine CP.seqR ?_
 refine WP.alloc (T := 105) (t + 1) [[.int .u64 0], [.int .u64 0], [.int .u64 0], [.int .u64 0]] [1, 1, 1, 1] (by kernel_rfl) rfl ?_
 intro g1 b1 st1 hB1
 replace tot := tot.trans st1.pure
 refine WP.dn ?_
 refine NX.then_n ?_
 refine CP.seqR ?_
 refine WP.stl 2 ?_
 refine WP.storeB (ty := 105) (off := 0) (v := AG [[.int .u64 2611923443488327891], [.int .u64 1376283091369227076], [.int .u64 11820040416388919760], [.int .u64 x1]]) hB1 [[.int .u64 2611923443488327891], [.int .u64 1376283091369227076], [.int .u64 11820040416388919760], [.int .u64 x1]] [1, 1, 1, 1] (by kernel_rfl) (by kernel_rfl) rfl (by kernel_rfl) [[.int .u64 2611923443488327891], [.int .u64 1376283091369227076], [.int .u64 11820040416388919760], [.int .u64 x1]] (by kernel_rfl) (.one rfl (.one rfl (.one rfl (.one rfl .nil)))) ?_
 intro g2 st2 hB2
 replace tot := tot.trans (st2.up1 (.inr (by omega)))
 clear hB1
 have hB1 := hB2
 clear hB2
 refine WP.dn ?_
 refine NX.then_n ?_
 refine CP.ret ?_
 replace hs := Option.some.inj hs
 simp only [Prod.mk.injEq] at hs
 obtain ⟨rfl, rfl, rfl, rfl⟩ := hs
 exact NX.fin (v := AG [[.int .u64 2611923443488327891], [.int .u64 1376283091369227076], [.int .u64 11820040416388919760], [.int .u64 x1]]) (Res.one rfl (RV.box (agg := true) (size := 4) (rs := [[.int .u64 2611923443488327891], [.int .u64 1376283091369227076], [.int .u64 11820040416388919760], [.int .u64 x1]]) hB1 (by kernel_rfl) (by kernel_rfl) (by kernel_rfl) (by kernel_rfl))) tot htL rfl
def F.hash_number.l1 (l1 : List Int) : Nat → Int → Int → Option (Int)
 | 0, _, _ => none
 | k + 1, x1, x2 => (if decide (x2 < (l1.length : Int)) = true then (if (0 : Int) ≤ x2 ∧ x2 < (l1.length : Int) then (if (0 : Int) ≤ (IntKind.i64.wrap (8 * x2)) then (F.hash_number.l1 l1 k (bitOr .u64 x1 (shV true .u64 (IntKind.u64.wrap (getI l1 x2)) (IntKind.i64.wrap (8 * x2)))) (IntKind.i64.wrap (x2 + 1))) else none) else none) else (some x1))
def F.hash_number (l1 : List Int) : Option (Int) := (F.hash_number.l1 l1 fuel 0 0)
theorem P.hash_number (g0 : GW) (l1 : List Int) (a1 : Option Addr) (n1 : Nat) (c1 : Nat) (hR1 : RdS (Kd.int .u8) g0 5 a1 n1 c1 l1) (o1 : Int) (hs : F.hash_number l1 = some o1) :
  Calls Try.prog 57 #[.slice a1 n1 c1] g0.w (Ret NoM g0 fun v g => v = .int .u64 o1) := by
 refine calls_of (args := [.slice a1 n1 c1]) Try.func57 rfl (0) ?_
 intro t ht htL
 refine ⟨_, rfl, ?_⟩
 refine CP.refr 22 [(0, .slice a1 n1 c1)] (by kernel_rfl) (by kernel_rfl) ?_
 intro ds
 have tot : Step (fun l => NoM l ∨ t ≤ l) g0 g0 := Step.refl _ _
 unfold F.hash_number at hs
 refine CP.seqR ?_
 refine WP.stl 1 ?_
 refine WP.dn ?_
 refine NX.then_n ?_
 refine CP.seqR ?_
 refine WP.stl 1 ?_
 refine WP.dn ?_
 refine NX.then_n ?_
 refine CP.seq ?_
 refine CP.seqR ?_
 refine WP.stl 1 ?_
 refine WP.len (a := a1) (cp := c1) hR1.len (by kernel_rfl) ?_
 refine WP.stl 1 ?_
 refine WP.dn ?_
 refine NX.then_n ?_
 refine CP.block ?_
 generalize fuel = k1 at hs
 refine CP.loop (fun k1 tm g => ∃ (x1 : Int) (x2 : Int), Fr 22 [(3, .int .u64 x1), (6, .slice a1 n1 c1), (7, .int .i64 (l1.length : Int)), (8, .int .i64 x2)] tm ∧ Step (fun l => NoM l ∨ t ≤ l) g0 g ∧ RdS (Kd.int .u8) g 5 a1 n1 c1 l1 ∧ F.hash_number.l1 l1 k1 x1 x2 = some o1) k1 ?_ ?_ ?_
 ·exact ⟨0, 0, ⟨by kernel_rfl, by kernel_rfl⟩, tot, hR1, hs⟩
 ·rintro tm g ⟨x1, x2, hF, tot, hR1, hs⟩
  exact absurd hs (by simp [F.hash_number.l1])
 clear tot hs hR1
 rintro k1 tm g ⟨x1, x2, hF, tot, hR1, hs⟩
 clear ds
 obtain ⟨ds, rfl⟩ := hF.open
 clear hF
 unfold F.hash_number.l1 at hs
 refine CP.seqR ?_
 refine WP.stl 1 ?_
 refine WP.dn ?_
 refine NX.then_n ?_
 refine CP.seq ?_
 refine CP.cond (b := decide (x2 < (l1.length : Int))) (by kernel_rfl) (fun h3 => ?_) (fun h3 => ?_)
 ·replace hs := of_if_t hs h3
  refine CP.skip ?_
  refine NX.then_n ?_
  refine CP.seq ?_
  refine CP.block ?_
  refine CP.seqR ?_
  refine WP.stl 1 ?_
  by_cases hc5 : (0 : Int) ≤ x2 ∧ x2 < (l1.length : Int)
  case neg => rw [if_neg hc5] at hs; cases hs
  replace hs := of_if_p hs hc5
  obtain ⟨b3, u3, ha3⟩ := hR1.at hc5
  refine WP.indexA (t := 74) (e := 5) (sz := 1) (cap := c1) (k := .i64) (i := x2) hR1.len ha3 (by kernel_rfl) (by kernel_rfl) hc5 ?_
  obtain ⟨cs3, hcR3, hcV3⟩ := hR1.src.view (getI_some hc5) ha3
  replace hcR3 := Kd.o_int hcR3
  refine WP.loadV [[.int .u8 (getI l1 x2)]] [1] hcV3 hcR3 rfl (f := 0) (ty := 5) (agg := false) (size := 1) (rs := [[.int .u8 (getI l1 x2)]]) (v := .int .u8 (getI l1 x2)) (by kernel_rfl) (by kernel_rfl) (by kernel_rfl) (by kernel_rfl) ?_
  refine WP.stl 2 ?_
  refine WP.dn ?_
  refine NX.then_n ?_
  refine CP.region ?_
  refine WP.stl 5 ?_
  by_cases hc6 : (0 : Int) ≤ (IntKind.i64.wrap (8 * x2))
  case neg => rw [if_neg hc6] at hs; cases hs
  replace hs := of_if_p hs hc6
  refine WP.shift (left := true) (k := .u64) (yk := .i64) (x := (IntKind.u64.wrap (getI l1 x2))) (y := (IntKind.i64.wrap (8 * x2))) (by kernel_rfl) hc6 ?_
  refine WP.stl 2 ?_
  refine WP.dn ?_
  refine NX.block_n ?_
  refine NX.then_n ?_
  refine CP.refr 22 [(3, .int .u64 (bitOr .u64 x1 (shV true .u64 (IntKind.u64.wrap (getI l1 x2)) (IntKind.i64.wrap (8 * x2))))), (6, .slice a1 n1 c1), (7, .int .i64 (l1.length : Int)), (8, .int .i64 x2)] (by kernel_rfl) (by kernel_rfl) ?_
  clear ds
  intro ds
  refine CP.region ?_
  refine WP.stl 2 ?_
  refine WP.dn ?_
  refine NX.post ?_
  exact ⟨(bitOr .u64 x1 (shV true .u64 (IntKind.u64.wrap (getI l1 x2)) (IntKind.i64.wrap (8 * x2)))), (IntKind.i64.wrap (x2 + 1)), ⟨by kernel_rfl, by kernel_rfl⟩, tot, hR1, hs⟩
 replace hs := of_if_f hs h3
 refine CP.exit ?_
 refine NX.then_e ?_
 refine NX.then_e ?_
 refine NX.block_s ?_
 refine NX.then_n ?_
 refine CP.seqR ?_
 refine WP.stl 2 ?_
 refine WP.dn ?_
 refine NX.then_n ?_
 refine CP.ret ?_
 replace hs := Option.some.inj hs
 obtain rfl := hs
 exact NX.fin (v := .int .u64 x1) (Res.still (by kernel_rfl)) tot htL rfl
def F.math_bits_RotateLeft64 (x1 : Int) (x2 : Int) : Option (Int) := (if (0 : Int) ≤ (bitAnd .u64 (IntKind.u64.wrap x2) 63) then (if (0 : Int) ≤ (IntKind.u64.wrap (64 - (bitAnd .u64 (IntKind.u64.wrap x2) 63))) then (some (bitOr .u64 (shV true .u64 x1 (bitAnd .u64 (IntKind.u64.wrap x2) 63)) (shV false .u64 x1 (IntKind.u64.wrap (64 - (bitAnd .u64 (IntKind.u64.wrap x2) 63)))))) else none) else none)
theorem P.math_bits_RotateLeft64 (g0 : GW) (x1 : Int) (x2 : Int) (o1 : Int) (hs : F.math_bits_RotateLeft64 x1 x2 = some o1) :
  Calls Try.prog 62 #[.int .u64 x1, .int .i64 x2] g0.w (Ret NoM g0 fun v g => v = .int .u64 o1) := by
 refine calls_of (args := [.int .u64 x1, .int .i64 x2]) Try.func62 rfl (0) ?_
 intro t ht htL
 refine ⟨_, rfl, ?_⟩
 refine CP.refr 17 [(0, .int .u64 x1), (1, .int .i64 x2)] (by kernel_rfl) (by kernel_rfl) ?_
 intro ds
 have tot : Step (fun l => NoM l ∨ t ≤ l) g0 g0 := Step.refl _ _
 unfold F.math_bits_RotateLeft64 at hs
 refine CP.seqR ?_
 refine WP.stl 1 ?_
 refine WP.dn ?_
 refine NX.then_n ?_
 refine CP.seqR ?_
 refine WP.stl 4 ?_
 refine WP.dn ?_
 refine NX.then_n ?_
 refine CP.seqR ?_
 refine WP.stl 2 ?_
 by_cases hc1 : (0 : Int) ≤ (bitAnd .u64 (IntKind.u64.wrap x2) 63)
 case neg => rw [if_neg hc1] at hs; cases hs
 replace hs := of_if_p hs hc1
 refine WP.shift (left := true) (k := .u64) (yk := .u64) (x := x1) (y := (bitAnd .u64 (IntKind.u64.wrap x2) 63)) (by kernel_rfl) hc1 ?_
 refine WP.stl 3 ?_
 by_cases hc2 : (0 : Int) ≤ (IntKind.u64.wrap (64 - (bitAnd .u64 (IntKind.u64.wrap x2) 63)))
 case neg => rw [if_neg hc2] at hs; cases hs
 replace hs := of_if_p hs hc2
 refine WP.shift (left := false) (k := .u64) (yk := .u64) (x := x1) (y := (IntKind.u64.wrap (64 - (bitAnd .u64 (IntKind.u64.wrap x2) 63)))) (by kernel_rfl) hc2 ?_
 refine WP.stl 2 ?_
 refine WP.dn ?_
 refine NX.then_n ?_
 refine CP.refr 17 [(4, .int .u64 (bitOr .u64 (shV true .u64 x1 (bitAnd .u64 (IntKind.u64.wrap x2) 63)) (shV false .u64 x1 (IntKind.u64.wrap (64 - (bitAnd .u64 (IntKind.u64.wrap x2) 63))))))] (by kernel_rfl) (by kernel_rfl) ?_
 clear ds
 intro ds
 refine CP.ret ?_
 replace hs := Option.some.inj hs
 obtain rfl := hs
 exact NX.fin (v := .int .u64 (bitOr .u64 (shV true .u64 x1 (bitAnd .u64 (IntKind.u64.wrap x2) 63)) (shV false .u64 x1 (IntKind.u64.wrap (64 - (bitAnd .u64 (IntKind.u64.wrap x2) 63)))))) (Res.still (by kernel_rfl)) tot htL rfl
def N.hash_state_mix_0 : List (List Nat) := [[], [], [1], [1, 2], [1, 2, 3], [], [5], [5, 6], [5, 6, 7], [1, 2, 3, 4, 5, 6, 7, 8], [], [1, 2, 3, 4, 5, 6, 7, 8, 9, 10], [0], [0, 1, 2, 3, 4, 5, 6, 7, 8, 9, 10, 11, 12], [0, 1, 2, 3, 4, 5, 6, 7, 8, 9, 10, 11, 12, 13]]
def N.hash_state_mix_1 : List (List Nat) := [[], [0], [0, 1], [0, 1, 2], [], [4], [4, 5], [4, 5, 6], [0, 1, 2, 3, 4, 5, 6, 7], [0], [0, 1, 2, 3, 4, 5, 6, 7, 8, 9], [0, 1, 2, 3, 4, 5, 6, 7, 8, 9, 10]]
def F.hash_state_mix (x1 : Int) (x2 : Int) (x3 : Int) (x4 : Int) (x5 : Int) (x6 : Int) : Option (Int × Int × Int × Int) := ((F.math_bits_RotateLeft64 (bitXor .u64 x4 x1) x5).bind fun x7 => ((F.math_bits_RotateLeft64 (bitXor .u64 x2 (IntKind.u64.wrap (x3 + x7))) x6).bind fun x8 => (some (x1, x8, (IntKind.u64.wrap (x3 + x7)), x7))))
theorem P.hash_state_mix (g0 : GW) (m0 : Nat) (x1 : Int) (x2 : Int) (x3 : Int) (x4 : Int) (x5 : Int) (x6 : Int) (b1 : Nat) (hB1 : Box g0 m0 b1 105 [[.int .u64 x1], [.int .u64 x2], [.int .u64 x3], [.int .u64 x4]] [1, 1, 1, 1]) (hm0 : m0 ≠ 0) (o1 : Int) (o2 : Int) (o3 : Int) (o4 : Int) (hs : F.hash_state_mix x1 x2 x3 x4 x5 x6 = some (o1, o2, o3, o4)) :
  Calls Try.prog 61 #[.pointer (some ⟨b1, 0, none⟩), .int .i64 x5, .int .i64 x6] g0.w (Ret (WL [m0]) g0 fun v g => v = .tuple #[] ∧ Box g m0 b1 105 [[.int .u64 o1], [.int .u64 o2], [.int .u64 o3], [.int .u64 o4]] [1, 1, 1, 1]) := by
 refine calls_of (args := [.pointer (some ⟨b1, 0, none⟩), .int .i64 x5, .int .i64 x6]) Try.func61 rfl (m0 + 0) ?_
 intro t ht htL
 refine ⟨_, rfl, ?_⟩
 refine CP.refr 45 [(0, .pointer (some ⟨b1, 0, none⟩)), (1, .int .i64 x5), (2, .int .i64 x6)] (by kernel_rfl) (by kernel_rfl) ?_
 intro ds
 have tot : Step (fun l => (WL [m0]) l ∨ t ≤ l) g0 g0 := Step.refl _ _
 unfold F.hash_state_mix at hs
 refine CP.seq ?_
 replace hs := Option.bind_eq_some_iff.1 hs
 obtain ⟨x7, hk1, hs⟩ := hs
 refine CP.drawL (by kernel_rfl) [4, 8, 11, 14] N.hash_state_mix_0 [⟨none, [0], [], fun l g => Box g m0 b1 105 [[.int .u64 x1], [.int .u64 x2], [.int .u64 x3], [.int .u64 x4]] [1, 1, 1, 1]⟩, ⟨some 0, [], [0], fun l g => l.getD 0 undef = .int .u64 x4⟩, ⟨some 1, [], [1], fun l g => l.getD 0 undef = .int .u64 x1⟩, ⟨some 2, [], [2], fun l g => l.getD 0 undef = .int .u64 x7⟩, ⟨some 3, [0], [], fun l g => Box g m0 b1 105 [[.int .u64 x1], [.int .u64 x2], [.int .u64 x3], [.int .u64 x7]] [1, 1, 1, 1]⟩] [[], [], [], [0]] [m0] [0, 1, 2, 3, 5, 6, 7, 10, 12, 13] [9] (by kernel_rfl) (by simp <;> omega) (by simp) ⟨fun _ _ _ _ st h0 hl hj hB1 => (hB1.mono st (hj 0 (by simp) _ rfl)), fun _ _ _ _ st h0 hl hj e0 => e0, fun _ _ _ _ st h0 hl hj e1 => e1, fun _ _ _ _ st h0 hl hj e2 => e2, fun _ _ _ _ st h0 hl hj hB1 => (hB1.mono st (hj 0 (by simp) _ rfl)), tv⟩ ⟨hB1, tv, tv, tv, tv, tv⟩ (by kernel_rfl) (fun vs => by kernel_rfl) ?_ ?_ ?_
 ·intro j hj
  have hq : j = 0 := by have h : j < 1 := hj; omega
  rcases hq with rfl
  ·intro vs gq stq hl hf
   obtain ⟨v0, v1, v2, v3, rfl⟩ := len_k4 hl
   have e0 := (show v0 = .int .u64 x4 from hf _ (memI 1 rfl) (by kernel_rfl))
   subst e0
   have e1 := (show v1 = .int .u64 x1 from hf _ (memI 2 rfl) (by kernel_rfl))
   subst e1
   show Option.isSome _ = true
   kernel_rfl
 ·intro j hj
  have hq : j = 0 ∨ j = 1 ∨ j = 2 ∨ j = 3 := by have h : j < 4 := hj; omega
  rcases hq with rfl | rfl | rfl | rfl
  ·intro vs gq stq hl hf
   obtain ⟨v0, v1, v2, v3, rfl⟩ := len_k4 hl
   have hB1 := (show Box gq m0 b1 105 [[.int .u64 x1], [.int .u64 x2], [.int .u64 x3], [.int .u64 x4]] [1, 1, 1, 1] from hf _ (memI 0 rfl) (by kernel_rfl))
   refine WP.loadB (v := .int .u64 x4) hB1 (by kernel_rfl) (by kernel_rfl) ?_
   refine WP.dn (Shown.ok (v := .int .u64 x4) (by kernel_rfl) (Step.refl _ _) ?_)
   exact ⟨tv, rfl, tv, tv, tv, tv⟩
  ·intro vs gq stq hl hf
   obtain ⟨v0, v1, v2, v3, rfl⟩ := len_k4 hl
   have hB1 := (show Box gq m0 b1 105 [[.int .u64 x1], [.int .u64 x2], [.int .u64 x3], [.int .u64 x4]] [1, 1, 1, 1] from hf _ (memI 0 rfl) (by kernel_rfl))
   refine WP.loadB (v := .int .u64 x1) hB1 (by kernel_rfl) (by kernel_rfl) ?_
   refine WP.dn (Shown.ok (v := .int .u64 x1) (by kernel_rfl) (Step.refl _ _) ?_)
   exact ⟨tv, tv, rfl, tv, tv, tv⟩
  ·intro vs gq stq hl hf
   obtain ⟨v0, v1, v2, v3, rfl⟩ := len_k4 hl
   have e0 := (show v0 = .int .u64 x4 from hf _ (memI 1 rfl) (by kernel_rfl))
   subst e0
   have e1 := (show v1 = .int .u64 x1 from hf _ (memI 2 rfl) (by kernel_rfl))
   subst e1
   have hcal1 := P.math_bits_RotateLeft64 gq (bitXor .u64 x4 x1) x5 x7 hk1
   refine WP.callC hcal1 (by kernel_rfl) ?_
   rintro _ g1 st1 rfl
   refine WP.dn (Shown.o (v := .int .u64 x7) st1.pure ?_)
   exact ⟨tv, tv, tv, rfl, tv, tv⟩
  ·intro vs gq stq hl hf
   obtain ⟨v0, v1, v2, v3, rfl⟩ := len_k4 hl
   have hB1 := (show Box gq m0 b1 105 [[.int .u64 x1], [.int .u64 x2], [.int .u64 x3], [.int .u64 x4]] [1, 1, 1, 1] from hf _ (memI 0 rfl) (by kernel_rfl))
   have e2 := (show v2 = .int .u64 x7 from hf _ (memI 3 rfl) (by kernel_rfl))
   subst e2
   refine WP.storeB (ty := 78) (off := 3) (v := .int .u64 x7) hB1 [[.int .u64 x7]] [1] (by kernel_rfl) (by kernel_rfl) rfl (by kernel_rfl) [[.int .u64 x1], [.int .u64 x2], [.int .u64 x3], [.int .u64 x7]] (by kernel_rfl) (.one rfl .nil) ?_
   intro g2 st2 hB2
   refine WP.dn (Shown.o (v := undef) st2 ?_)
   exact ⟨tv, tv, tv, tv, hB2, tv⟩
 intro vs g3 st3 hl hf
 obtain ⟨v0, v1, v2, v3, rfl⟩ := len_k4 hl
 have hB1 := (show Box g3 m0 b1 105 [[.int .u64 x1], [.int .u64 x2], [.int .u64 x3], [.int .u64 x7]] [1, 1, 1, 1] from hf _ (memI 4 rfl) (by kernel_rfl))
 replace tot := tot.trans (st3.up1 (.inl (by simp [WL])))
 refine NX.then_n ?_
 refine CP.refr 45 [(0, .pointer (some ⟨b1, 0, none⟩)), (2, .int .i64 x6)] (by kernel_rfl) (by kernel_rfl) ?_
 clear ds
 intro ds
 refine CP.seq ?_
 refine CP.drawL (by kernel_rfl) [3, 7, 11] N.hash_state_mix_1 [⟨none, [0], [], fun l g => Box g m0 b1 105 [[.int .u64 x1], [.int .u64 x2], [.int .u64 x3], [.int .u64 x7]] [1, 1, 1, 1]⟩, ⟨some 0, [], [0], fun l g => l.getD 0 undef = .int .u64 x3⟩, ⟨some 1, [], [1], fun l g => l.getD 0 undef = .int .u64 x7⟩, ⟨some 2, [0], [], fun l g => Box g m0 b1 105 [[.int .u64 x1], [.int .u64 x2], [.int .u64 (IntKind.u64.wrap (x3 + x7))], [.int .u64 x7]] [1, 1, 1, 1]⟩] [[], [], [0]] [m0] [0, 1, 2, 4, 5, 6, 9, 10] [8] (by kernel_rfl) (by simp <;> omega) (by simp) ⟨fun _ _ _ _ st h0 hl hj hB1 => (hB1.mono st (hj 0 (by simp) _ rfl)), fun _ _ _ _ st h0 hl hj e0 => e0, fun _ _ _ _ st h0 hl hj e1 => e1, fun _ _ _ _ st h0 hl hj hB1 => (hB1.mono st (hj 0 (by simp) _ rfl)), tv⟩ ⟨hB1, tv, tv, tv, tv⟩ (by kernel_rfl) (fun vs => by kernel_rfl) ?_ ?_ ?_
 ·intro j hj
  have hq : j = 0 := by have h : j < 1 := hj; omega
  rcases hq with rfl
  ·intro vs gq stq hl hf
   obtain ⟨v0, v1, v2, rfl⟩ := len_k3 hl
   have e0 := (show v0 = .int .u64 x3 from hf _ (memI 1 rfl) (by kernel_rfl))
   subst e0
   have e1 := (show v1 = .int .u64 x7 from hf _ (memI 2 rfl) (by kernel_rfl))
   subst e1
   show Option.isSome _ = true
   kernel_rfl
 ·intro j hj
  have hq : j = 0 ∨ j = 1 ∨ j = 2 := by have h : j < 3 := hj; omega
  rcases hq with rfl | rfl | rfl
  ·intro vs gq stq hl hf
   obtain ⟨v0, v1, v2, rfl⟩ := len_k3 hl
   have hB1 := (show Box gq m0 b1 105 [[.int .u64 x1], [.int .u64 x2], [.int .u64 x3], [.int .u64 x7]] [1, 1, 1, 1] from hf _ (memI 0 rfl) (by kernel_rfl))
   refine WP.loadB (v := .int .u64 x3) hB1 (by kernel_rfl) (by kernel_rfl) ?_
   refine WP.dn (Shown.ok (v := .int .u64 x3) (by kernel_rfl) (Step.refl _ _) ?_)
   exact ⟨tv, rfl, tv, tv, tv⟩
  ·intro vs gq stq hl hf
   obtain ⟨v0, v1, v2, rfl⟩ := len_k3 hl
   have hB1 := (show Box gq m0 b1 105 [[.int .u64 x1], [.int .u64 x2], [.int .u64 x3], [.int .u64 x7]] [1, 1, 1, 1] from hf _ (memI 0 rfl) (by kernel_rfl))
   refine WP.loadB (v := .int .u64 x7) hB1 (by kernel_rfl) (by kernel_rfl) ?_
   refine WP.dn (Shown.ok (v := .int .u64 x7) (by kernel_rfl) (Step.refl _ _) ?_)
   exact ⟨tv, tv, rfl, tv, tv⟩
  ·intro vs gq stq hl hf
   obtain ⟨v0, v1, v2, rfl⟩ := len_k3 hl
   have hB1 := (show Box gq m0 b1 105 [[.int .u64 x1], [.int .u64 x2], [.int .u64 x3], [.int .u64 x7]] [1, 1, 1, 1] from hf _ (memI 0 rfl) (by kernel_rfl))
   have e0 := (show v0 = .int .u64 x3 from hf _ (memI 1 rfl) (by kernel_rfl))
   subst e0
   have e1 := (show v1 = .int .u64 x7 from hf _ (memI 2 rfl) (by kernel_rfl))
   subst e1
   refine WP.storeB (ty := 78) (off := 2) (v := .int .u64 (IntKind.u64.wrap (x3 + x7))) hB1 [[.int .u64 (IntKind.u64.wrap (x3 + x7))]] [1] (by kernel_rfl) (by kernel_rfl) rfl (by kernel_rfl) [[.int .u64 x1], [.int .u64 x2], [.int .u64 (IntKind.u64.wrap (x3 + x7))], [.int .u64 x7]] (by kernel_rfl) (.one rfl .nil) ?_
   intro g4 st4 hB3
   refine WP.dn (Shown.o (v := undef) st4 ?_)
   exact ⟨tv, tv, tv, hB3, tv⟩
 intro vs g5 st5 hl hf
 obtain ⟨v0, v1, v2, rfl⟩ := len_k3 hl
 have hB1 := (show Box g5 m0 b1 105 [[.int .u64 x1], [.int .u64 x2], [.int .u64 (IntKind.u64.wrap (x3 + x7))], [.int .u64 x7]] [1, 1, 1, 1] from hf _ (memI 3 rfl) (by kernel_rfl))
 replace tot := tot.trans (st5.up1 (.inl (by simp [WL])))
 refine NX.then_n ?_
 refine CP.refr 45 [(0, .pointer (some ⟨b1, 0, none⟩)), (2, .int .i64 x6)] (by kernel_rfl) (by kernel_rfl) ?_
 clear ds
 intro ds
 replace hs := Option.bind_eq_some_iff.1 hs
 obtain ⟨x8, hk2, hs⟩ := hs
 refine CP.drawL (by kernel_rfl) [4, 8, 11, 14] N.hash_state_mix_0 [⟨none, [0], [], fun l g => Box g m0 b1 105 [[.int .u64 x1], [.int .u64 x2], [.int .u64 (IntKind.u64.wrap (x3 + x7))], [.int .u64 x7]] [1, 1, 1, 1]⟩, ⟨some 0, [], [0], fun l g => l.getD 0 undef = .int .u64 x2⟩, ⟨some 1, [], [1], fun l g => l.getD 0 undef = .int .u64 (IntKind.u64.wrap (x3 + x7))⟩, ⟨some 2, [], [2], fun l g => l.getD 0 undef = .int .u64 x8⟩, ⟨some 3, [0], [], fun l g => Box g m0 b1 105 [[.int .u64 x1], [.int .u64 x8], [.int .u64 (IntKind.u64.wrap (x3 + x7))], [.int .u64 x7]] [1, 1, 1, 1]⟩] [[], [], [], [0]] [m0] [0, 1, 2, 3, 5, 6, 7, 10, 12, 13] [9] (by kernel_rfl) (by simp <;> omega) (by simp) ⟨fun _ _ _ _ st h0 hl hj hB1 => (hB1.mono st (hj 0 (by simp) _ rfl)), fun _ _ _ _ st h0 hl hj e0 => e0, fun _ _ _ _ st h0 hl hj e1 => e1, fun _ _ _ _ st h0 hl hj e2 => e2, fun _ _ _ _ st h0 hl hj hB1 => (hB1.mono st (hj 0 (by simp) _ rfl)), tv⟩ ⟨hB1, tv, tv, tv, tv, tv⟩ (by kernel_rfl) (fun vs => by kernel_rfl) ?_ ?_ ?_
 ·intro j hj
  have hq : j = 0 := by have h : j < 1 := hj; omega
  rcases hq with rfl
  ·intro vs gq stq hl hf
   obtain ⟨v0, v1, v2, v3, rfl⟩ := len_k4 hl
   have e0 := (show v0 = .int .u64 x2 from hf _ (memI 1 rfl) (by kernel_rfl))
   subst e0
   have e1 := (show v1 = .int .u64 (IntKind.u64.wrap (x3 + x7)) from hf _ (memI 2 rfl) (by kernel_rfl))
   subst e1
   show Option.isSome _ = true
   kernel_rfl
 ·intro j hj
  have hq : j = 0 ∨ j = 1 ∨ j = 2 ∨ j = 3 := by have h : j < 4 := hj; omega
  rcases hq with rfl | rfl | rfl | rfl
  ·intro vs gq stq hl hf
   obtain ⟨v0, v1, v2, v3, rfl⟩ := len_k4 hl
   have hB1 := (show Box gq m0 b1 105 [[.int .u64 x1], [.int .u64 x2], [.int .u64 (IntKind.u64.wrap (x3 + x7))], [.int .u64 x7]] [1, 1, 1, 1] from hf _ (memI 0 rfl) (by kernel_rfl))
   refine WP.loadB (v := .int .u64 x2) hB1 (by kernel_rfl) (by kernel_rfl) ?_
   refine WP.dn (Shown.ok (v := .int .u64 x2) (by kernel_rfl) (Step.refl _ _) ?_)
   exact ⟨tv, rfl, tv, tv, tv, tv⟩
  ·intro vs gq stq hl hf
   obtain ⟨v0, v1, v2, v3, rfl⟩ := len_k4 hl
   have hB1 := (show Box gq m0 b1 105 [[.int .u64 x1], [.int .u64 x2], [.int .u64 (IntKind.u64.wrap (x3 + x7))], [.int .u64 x7]] [1, 1, 1, 1] from hf _ (memI 0 rfl) (by kernel_rfl))
   refine WP.loadB (v := .int .u64 (IntKind.u64.wrap (x3 + x7))) hB1 (by kernel_rfl) (by kernel_rfl) ?_
   refine WP.dn (Shown.ok (v := .int .u64 (IntKind.u64.wrap (x3 + x7))) (by kernel_rfl) (Step.refl _ _) ?_)
   exact ⟨tv, tv, rfl, tv, tv, tv⟩
  ·intro vs gq stq hl hf
   obtain ⟨v0, v1, v2, v3, rfl⟩ := len_k4 hl
   have e0 := (show v0 = .int .u64 x2 from hf _ (memI 1 rfl) (by kernel_rfl))
   subst e0
   have e1 := (show v1 = .int .u64 (IntKind.u64.wrap (x3 + x7)) from hf _ (memI 2 rfl) (by kernel_rfl))
   subst e1
   have hcal2 := P.math_bits_RotateLeft64 gq (bitXor .u64 x2 (IntKind.u64.wrap (x3 + x7))) x6 x8 hk2
   refine WP.callC hcal2 (by kernel_rfl) ?_
   rintro _ g6 st6 rfl
   refine WP.dn (Shown.o (v := .int .u64 x8) st6.pure ?_)
   exact ⟨tv, tv, tv, rfl, tv, tv⟩
  ·intro vs gq stq hl hf
   obtain ⟨v0, v1, v2, v3, rfl⟩ := len_k4 hl
   have hB1 := (show Box gq m0 b1 105 [[.int .u64 x1], [.int .u64 x2], [.int .u64 (IntKind.u64.wrap (x3 + x7))], [.int .u64 x7]] [1, 1, 1, 1] from hf _ (memI 0 rfl) (by kernel_rfl))
   have e2 := (show v2 = .int .u64 x8 from hf _ (memI 3 rfl) (by kernel_rfl))
   subst e2
   refine WP.storeB (ty := 78) (off := 1) (v := .int .u64 x8) hB1 [[.int .u64 x8]] [1] (by kernel_rfl) (by kernel_rfl) rfl (by kernel_rfl) [[.int .u64 x1], [.int .u64 x8], [.int .u64 (IntKind.u64.wrap (x3 + x7))], [.int .u64 x7]] (by kernel_rfl) (.one rfl .nil) ?_
   intro g7 st7 hB4
   refine WP.dn (Shown.o (v := undef) st7 ?_)
   exact ⟨tv, tv, tv, tv, hB4, tv⟩
 intro vs g8 st8 hl hf
 obtain ⟨v0, v1, v2, v3, rfl⟩ := len_k4 hl
 have hB1 := (show Box g8 m0 b1 105 [[.int .u64 x1], [.int .u64 x8], [.int .u64 (IntKind.u64.wrap (x3 + x7))], [.int .u64 x7]] [1, 1, 1, 1] from hf _ (memI 4 rfl) (by kernel_rfl))
 replace tot := tot.trans (st8.up1 (.inl (by simp [WL])))
 replace hs := Option.some.inj hs
 simp only [Prod.mk.injEq] at hs
 obtain ⟨rfl, rfl, rfl, rfl⟩ := hs
 exact NX.finE (v := .tuple #[]) (Res.still (by kernel_rfl)) tot htL ⟨rfl, hB1⟩
def N.hash_state_stir_0 : List (List Nat) := [[], [], [1], [1, 2], [1, 2, 3], [], [5], [5, 6], [5, 6, 7], [1, 2, 3, 4, 5, 6, 7, 8], [], [10], [10, 11], [1, 2, 3, 4, 5, 6, 7, 8, 9, 10, 11, 12], [0], [0, 1, 2, 3, 4, 5, 6, 7, 8, 9, 10, 11, 12, 13, 14], [0, 1, 2, 3, 4, 5, 6, 7, 8, 9, 10, 11, 12, 13, 14, 15]]
def N.hash_state_stir_1 : List (List Nat) := [[], [0], [0, 1], [0, 1, 2], [], [4], [4, 5], [4, 5, 6], [0, 1, 2, 3, 4, 5, 6, 7], [0], [0, 1, 2, 3, 4, 5, 6, 7, 8, 9], [0, 1, 2, 3, 4, 5, 6, 7, 8, 9, 10]]
def F.hash_state_stir.l1 : Nat → Int → Int → Int → Int → Int → Option (Int × Int × Int × Int)
 | 0, _, _, _, _, _ => none
 | k + 1, x13, x14, x15, x16, x17 => (if decide (x17 < 6) = true then ((F.hash_state_mix (bitXor .u64 (IntKind.u64.wrap (x13 + x14)) (IntKind.u64.wrap (IntKind.i64.wrap (x17 + 1)))) x14 x15 x16 32 24).bind fun (x31, x32, x33, x34) => ((F.hash_state_mix (IntKind.u64.wrap (x31 + x32)) x32 x33 x34 16 63).bind fun (x35, x36, x37, x38) => (F.hash_state_stir.l1 k x35 x36 x37 x38 (IntKind.i64.wrap (x17 + 1))))) else (some (x13, x14, x15, x16)))
def F.hash_state_stir (x1 : Int) (x2 : Int) (x3 : Int) (x4 : Int) : Option (Int × Int × Int × Int) := (F.hash_state_stir.l1 fuel x1 x2 x3 x4 0)
theorem P.hash_state_stir (g0 : GW) (m0 : Nat) (x1 : Int) (x2 : Int) (x3 : Int) (x4 : Int) (b1 : Nat) (hB1 : Box g0 m0 b1 105 [[.int .u64 x1], [.int .u64 x2], [.int .u64 x3], [.int .u64 x4]] [1, 1, 1, 1]) (hm0 : m0 ≠ 0) (o1 : Int) (o2 : Int) (o3 : Int) (o4 : Int) (hs : F.hash_state_stir x1 x2 x3 x4 = some (o1, o2, o3, o4)) :
  Calls Try.prog 60 #[.pointer (some ⟨b1, 0, none⟩)] g0.w (Ret (WL [m0]) g0 fun v g => v = .tuple #[] ∧ Box g m0 b1 105 [[.int .u64 o1], [.int .u64 o2], [.int .u64 o3], [.int .u64 o4]] [1, 1, 1, 1]) := by
 refine calls_of (args := [.pointer (some ⟨b1, 0, none⟩)]) Try.func60 rfl (m0 + 0) ?_
 intro t ht htL
 refine ⟨_, rfl, ?_⟩
 refine CP.refr 38 [(0, .pointer (some ⟨b1, 0, none⟩))] (by kernel_rfl) (by kernel_rfl) ?_
 intro ds
 have tot : Step (fun l => (WL [m0]) l ∨ t ≤ l) g0 g0 := Step.refl _ _
 unfold F.hash_state_stir at hs
 refine CP.seqR ?_
 refine WP.stl 1 ?_
 refine WP.dn ?_
 refine NX.then_n ?_
 refine CP.block ?_
 generalize fuel = k1 at hs
 refine CP.loop (fun k1 tm g => ∃ (x13 : Int) (x14 : Int) (x15 : Int) (x16 : Int) (x17 : Int), Fr 38 [(0, .pointer (some ⟨b1, 0, none⟩)), (3, .int .i64 x17)] tm ∧ Step (fun l => (WL [m0]) l ∨ t ≤ l) g0 g ∧ Box g m0 b1 105 [[.int .u64 x13], [.int .u64 x14], [.int .u64 x15], [.int .u64 x16]] [1, 1, 1, 1] ∧ F.hash_state_stir.l1 k1 x13 x14 x15 x16 x17 = some (o1, o2, o3, o4)) k1 ?_ ?_ ?_
 ·exact ⟨x1, x2, x3, x4, 0, ⟨by kernel_rfl, by kernel_rfl⟩, tot, hB1, hs⟩
 ·rintro tm g ⟨x13, x14, x15, x16, x17, hF, tot, hB1, hs⟩
  exact absurd hs (by simp [F.hash_state_stir.l1])
 clear tot hs hB1
 rintro k1 tm g ⟨x13, x14, x15, x16, x17, hF, tot, hB1, hs⟩
 clear ds
 obtain ⟨ds, rfl⟩ := hF.open
 clear hF
 unfold F.hash_state_stir.l1 at hs
 refine CP.seqR ?_
 refine WP.stl 1 ?_
 refine WP.dn ?_
 refine NX.then_n ?_
 refine CP.seq ?_
 refine CP.cond (b := decide (x17 < 6)) (by kernel_rfl) (fun h3 => ?_) (fun h3 => ?_)
 ·replace hs := of_if_t hs h3
  refine CP.skip ?_
  refine NX.then_n ?_
  refine CP.seq ?_
  refine CP.block ?_
  refine CP.seqR ?_
  refine WP.stl 2 ?_
  refine WP.dn ?_
  refine NX.then_n ?_
  refine CP.seq ?_
  refine CP.drawL (by kernel_rfl) [4, 8, 16] N.hash_state_stir_0 [⟨none, [0], [], fun l g => Box g m0 b1 105 [[.int .u64 x13], [.int .u64 x14], [.int .u64 x15], [.int .u64 x16]] [1, 1, 1, 1]⟩, ⟨some 0, [], [0], fun l g => l.getD 0 undef = .int .u64 x13⟩, ⟨some 1, [], [1], fun l g => l.getD 0 undef = .int .u64 x14⟩, ⟨some 2, [0], [], fun l g => Box g m0 b1 105 [[.int .u64 (bitXor .u64 (IntKind.u64.wrap (x13 + x14)) (IntKind.u64.wrap (IntKind.i64.wrap (x17 + 1))))], [.int .u64 x14], [.int .u64 x15], [.int .u64 x16]] [1, 1, 1, 1]⟩] [[], [], [0]] [m0] [0, 1, 2, 3, 5, 6, 7, 10, 11, 12, 14, 15] [9, 13] (by kernel_rfl) (by simp <;> omega) (by simp) ⟨fun _ _ _ _ st h0 hl hj hB1 => (hB1.mono st (hj 0 (by simp) _ rfl)), fun _ _ _ _ st h0 hl hj e0 => e0, fun _ _ _ _ st h0 hl hj e1 => e1, fun _ _ _ _ st h0 hl hj hB1 => (hB1.mono st (hj 0 (by simp) _ rfl)), tv⟩ ⟨hB1, tv, tv, tv, tv⟩ (by kernel_rfl) (fun vs => by kernel_rfl) ?_ ?_ ?_
  ·intro j hj
   have hq : j = 0 ∨ j = 1 := by have h : j < 2 := hj; omega
   rcases hq with rfl | rfl
   ·intro vs gq stq hl hf
    obtain ⟨v0, v1, v2, rfl⟩ := len_k3 hl
    have e0 := (show v0 = .int .u64 x13 from hf _ (memI 1 rfl) (by kernel_rfl))
    subst e0
    have e1 := (show v1 = .int .u64 x14 from hf _ (memI 2 rfl) (by kernel_rfl))
    subst e1
    show Option.isSome _ = true
    kernel_rfl
   ·intro vs gq stq hl hf
    obtain ⟨v0, v1, v2, rfl⟩ := len_k3 hl
    have e0 := (show v0 = .int .u64 x13 from hf _ (memI 1 rfl) (by kernel_rfl))
    subst e0
    have e1 := (show v1 = .int .u64 x14 from hf _ (memI 2 rfl) (by kernel_rfl))
    subst e1
    show Option.isSome _ = true
    kernel_rfl
  ·intro j hj
   have hq : j = 0 ∨ j = 1 ∨ j = 2 := by have h : j < 3 := hj; omega
   rcases hq with rfl | rfl | rfl
   ·intro vs gq stq hl hf
    obtain ⟨v0, v1, v2, rfl⟩ := len_k3 hl
    have hB1 := (show Box gq m0 b1 105 [[.int .u64 x13], [.int .u64 x14], [.int .u64 x15], [.int .u64 x16]] [1, 1, 1, 1] from hf _ (memI 0 rfl) (by kernel_rfl))
    refine WP.loadB (v := .int .u64 x13) hB1 (by kernel_rfl) (by kernel_rfl) ?_
    refine WP.dn (Shown.ok (v := .int .u64 x13) (by kernel_rfl) (Step.refl _ _) ?_)
    exact ⟨tv, rfl, tv, tv, tv⟩
   ·intro vs gq stq hl hf
    obtain ⟨v0, v1, v2, rfl⟩ := len_k3 hl
    have hB1 := (show Box gq m0 b1 105 [[.int .u64 x13], [.int .u64 x14], [.int .u64 x15], [.int .u64 x16]] [1, 1, 1, 1] from hf _ (memI 0 rfl) (by kernel_rfl))
    refine WP.loadB (v := .int .u64 x14) hB1 (by kernel_rfl) (by kernel_rfl) ?_
    refine WP.dn (Shown.ok (v := .int .u64 x14) (by kernel_rfl) (Step.refl _ _) ?_)
    exact ⟨tv, tv, rfl, tv, tv⟩
   ·intro vs gq stq hl hf
    obtain ⟨v0, v1, v2, rfl⟩ := len_k3 hl
    have hB1 := (show Box gq m0 b1 105 [[.int .u64 x13], [.int .u64 x14], [.int .u64 x15], [.int .u64 x16]] [1, 1, 1, 1] from hf _ (memI 0 rfl) (by kernel_rfl))
    have e0 := (show v0 = .int .u64 x13 from hf _ (memI 1 rfl) (by kernel_rfl))
    subst e0
    have e1 := (show v1 = .int .u64 x14 from hf _ (memI 2 rfl) (by kernel_rfl))
    subst e1
    refine WP.storeB (ty := 78) (off := 0) (v := .int .u64 (bitXor .u64 (IntKind.u64.wrap (x13 + x14)) (IntKind.u64.wrap (IntKind.i64.wrap (x17 + 1))))) hB1 [[.int .u64 (bitXor .u64 (IntKind.u64.wrap (x13 + x14)) (IntKind.u64.wrap (IntKind.i64.wrap (x17 + 1))))]] [1] (by kernel_rfl) (by kernel_rfl) rfl (by kernel_rfl) [[.int .u64 (bitXor .u64 (IntKind.u64.wrap (x13 + x14)) (IntKind.u64.wrap (IntKind.i64.wrap (x17 + 1))))], [.int .u64 x14], [.int .u64 x15], [.int .u64 x16]] (by kernel_rfl) (.one rfl .nil) ?_
    intro g9 st9 hB10
    refine WP.dn (Shown.o (v := undef) st9 ?_)
    exact ⟨tv, tv, tv, hB10, tv⟩
  intro vs g10 st10 hl hf
  obtain ⟨v0, v1, v2, rfl⟩ := len_k3 hl
  have hB1 := (show Box g10 m0 b1 105 [[.int .u64 (bitXor .u64 (IntKind.u64.wrap (x13 + x14)) (IntKind.u64.wrap (IntKind.i64.wrap (x17 + 1))))], [.int .u64 x14], [.int .u64 x15], [.int .u64 x16]] [1, 1, 1, 1] from hf _ (memI 3 rfl) (by kernel_rfl))
  replace tot := tot.trans (st10.up1 (.inl (by simp [WL])))
  refine NX.then_n ?_
  refine CP.refr 38 [(0, .pointer (some ⟨b1, 0, none⟩)), (3, .int .i64 x17)] (by kernel_rfl) (by kernel_rfl) ?_
  clear ds
  intro ds
  refine CP.seqR ?_
  refine WP.stl 1 ?_
  replace hs := Option.bind_eq_some_iff.1 hs
  obtain ⟨⟨x31, x32, x33, x34⟩, hk5, hs⟩ := hs
  dsimp only at hs
  have hcal5 := P.hash_state_mix g10 m0 (bitXor .u64 (IntKind.u64.wrap (x13 + x14)) (IntKind.u64.wrap (IntKind.i64.wrap (x17 + 1)))) x14 x15 x16 32 24 b1 hB1 (by omega) x31 x32 x33 x34 hk5
  refine WP.callC hcal5 (by kernel_rfl) ?_
  rintro _ g11 st11 ⟨rfl, hB11⟩
  replace tot := tot.trans (st11.up1 (.inl (by simp [WL])))
  clear hB1
  have hB1 := hB11
  clear hB11
  refine WP.dn ?_
  refine NX.then_n ?_
  refine CP.seq ?_
  refine CP.drawL (by kernel_rfl) [3, 7, 11] N.hash_state_stir_1 [⟨none, [0], [], fun l g => Box g m0 b1 105 [[.int .u64 x31], [.int .u64 x32], [.int .u64 x33], [.int .u64 x34]] [1, 1, 1, 1]⟩, ⟨some 0, [], [0], fun l g => l.getD 0 undef = .int .u64 x31⟩, ⟨some 1, [], [1], fun l g => l.getD 0 undef = .int .u64 x32⟩, ⟨some 2, [0], [], fun l g => Box g m0 b1 105 [[.int .u64 (IntKind.u64.wrap (x31 + x32))], [.int .u64 x32], [.int .u64 x33], [.int .u64 x34]] [1, 1, 1, 1]⟩] [[], [], [0]] [m0] [0, 1, 2, 4, 5, 6, 9, 10] [8] (by kernel_rfl) (by simp <;> omega) (by simp) ⟨fun _ _ _ _ st h0 hl hj hB1 => (hB1.mono st (hj 0 (by simp) _ rfl)), fun _ _ _ _ st h0 hl hj e0 => e0, fun _ _ _ _ st h0 hl hj e1 => e1, fun _ _ _ _ st h0 hl hj hB1 => (hB1.mono st (hj 0 (by simp) _ rfl)), tv⟩ ⟨hB1, tv, tv, tv, tv⟩ (by kernel_rfl) (fun vs => by kernel_rfl) ?_ ?_ ?_
  ·intro j hj
   have hq : j = 0 := by have h : j < 1 := hj; omega
   rcases hq with rfl
   ·intro vs gq stq hl hf
    obtain ⟨v0, v1, v2, rfl⟩ := len_k3 hl
    have e0 := (show v0 = .int .u64 x31 from hf _ (memI 1 rfl) (by kernel_rfl))
    subst e0
    have e1 := (show v1 = .int .u64 x32 from hf _ (memI 2 rfl) (by kernel_rfl))
    subst e1
    show Option.isSome _ = true
    kernel_rfl
  ·intro j hj
   have hq : j = 0 ∨ j = 1 ∨ j = 2 := by have h : j < 3 := hj; omega
   rcases hq with rfl | rfl | rfl
   ·intro vs gq stq hl hf
    obtain ⟨v0, v1, v2, rfl⟩ := len_k3 hl
    have hB1 := (show Box gq m0 b1 105 [[.int .u64 x31], [.int .u64 x32], [.int .u64 x33], [.int .u64 x34]] [1, 1, 1, 1] from hf _ (memI 0 rfl) (by kernel_rfl))
    refine WP.loadB (v := .int .u64 x31) hB1 (by kernel_rfl) (by kernel_rfl) ?_
    refine WP.dn (Shown.ok (v := .int .u64 x31) (by kernel_rfl) (Step.refl _ _) ?_)
    exact ⟨tv, rfl, tv, tv, tv⟩
   ·intro vs gq stq hl hf
    obtain ⟨v0, v1, v2, rfl⟩ := len_k3 hl
    have hB1 := (show Box gq m0 b1 105 [[.int .u64 x31], [.int .u64 x32], [.int .u64 x33], [.int .u64 x34]] [1, 1, 1, 1] from hf _ (memI 0 rfl) (by kernel_rfl))
    refine WP.loadB (v := .int .u64 x32) hB1 (by kernel_rfl) (by kernel_rfl) ?_
    refine WP.dn (Shown.ok (v := .int .u64 x32) (by kernel_rfl) (Step.refl _ _) ?_)
    exact ⟨tv, tv, rfl, tv, tv⟩
   ·intro vs gq stq hl hf
    obtain ⟨v0, v1, v2, rfl⟩ := len_k3 hl
    have hB1 := (show Box gq m0 b1 105 [[.int .u64 x31], [.int .u64 x32], [.int .u64 x33], [.int .u64 x34]] [1, 1, 1, 1] from hf _ (memI 0 rfl) (by kernel_rfl))
    have e0 := (show v0 = .int .u64 x31 from hf _ (memI 1 rfl) (by kernel_rfl))
    subst e0
    have e1 := (show v1 = .int .u64 x32 from hf _ (memI 2 rfl) (by kernel_rfl))
    subst e1
    refine WP.storeB (ty := 78) (off := 0) (v := .int .u64 (IntKind.u64.wrap (x31 + x32))) hB1 [[.int .u64 (IntKind.u64.wrap (x31 + x32))]] [1] (by kernel_rfl) (by kernel_rfl) rfl (by kernel_rfl) [[.int .u64 (IntKind.u64.wrap (x31 + x32))], [.int .u64 x32], [.int .u64 x33], [.int .u64 x34]] (by kernel_rfl) (.one rfl .nil) ?_
    intro g12 st12 hB12
    refine WP.dn (Shown.o (v := undef) st12 ?_)
    exact ⟨tv, tv, tv, hB12, tv⟩
  intro vs g13 st13 hl hf
  obtain ⟨v0, v1, v2, rfl⟩ := len_k3 hl
  have hB1 := (show Box g13 m0 b1 105 [[.int .u64 (IntKind.u64.wrap (x31 + x32))], [.int .u64 x32], [.int .u64 x33], [.int .u64 x34]] [1, 1, 1, 1] from hf _ (memI 3 rfl) (by kernel_rfl))
  replace tot := tot.trans (st13.up1 (.inl (by simp [WL])))
  refine NX.then_n ?_
  refine CP.refr 38 [(0, .pointer (some ⟨b1, 0, none⟩)), (3, .int .i64 x17)] (by kernel_rfl) (by kernel_rfl) ?_
  clear ds
  intro ds
  refine CP.region ?_
  refine WP.stl 1 ?_
  replace hs := Option.bind_eq_some_iff.1 hs
  obtain ⟨⟨x35, x36, x37, x38⟩, hk6, hs⟩ := hs
  dsimp only at hs
  have hcal6 := P.hash_state_mix g13 m0 (IntKind.u64.wrap (x31 + x32)) x32 x33 x34 16 63 b1 hB1 (by omega) x35 x36 x37 x38 hk6
  refine WP.callC hcal6 (by kernel_rfl) ?_
  rintro _ g14 st14 ⟨rfl, hB13⟩
  replace tot := tot.trans (st14.up1 (.inl (by simp [WL])))
  clear hB1
  have hB1 := hB13
  clear hB13
  refine WP.dn ?_
  refine NX.block_n ?_
  refine NX.then_n ?_
  refine CP.region ?_
  refine WP.stl 2 ?_
  refine WP.dn ?_
  refine NX.post ?_
  exact ⟨x35, x36, x37, x38, (IntKind.i64.wrap (x17 + 1)), ⟨by kernel_rfl, by kernel_rfl⟩, tot, hB1, hs⟩
 replace hs := of_if_f hs h3
 refine CP.exit ?_
 refine NX.then_e ?_
 refine NX.then_e ?_
 refine NX.block_s ?_
 replace hs := Option.some.inj hs
 simp only [Prod.mk.injEq] at hs
 obtain ⟨rfl, rfl, rfl, rfl⟩ := hs
 exact NX.finE (v := .tuple #[]) (Res.still (by kernel_rfl)) tot htL ⟨rfl, hB1⟩
def N.hash_state_take_0 : List (List Nat) := [[], [0], [0, 1], [0, 1, 2], [], [0, 1, 2, 3, 4], [0], [0, 1, 2, 3, 4, 5, 6], [0, 1, 2, 3, 4, 5, 6, 7]]
def F.hash_state_take (x1 : Int) (x2 : Int) (x3 : Int) (x4 : Int) (x5 : Int) : Option (Int × Int × Int × Int) := ((F.hash_state_stir (bitXor .u64 x1 x5) x2 x3 x4).bind fun (x6, x7, x8, x9) => (some (x6, x7, x8, x9)))
theorem P.hash_state_take (g0 : GW) (m0 : Nat) (x1 : Int) (x2 : Int) (x3 : Int) (x4 : Int) (x5 : Int) (b1 : Nat) (hB1 : Box g0 m0 b1 105 [[.int .u64 x1], [.int .u64 x2], [.int .u64 x3], [.int .u64 x4]] [1, 1, 1, 1]) (hm0 : m0 ≠ 0) (o1 : Int) (o2 : Int) (o3 : Int) (o4 : Int) (hs : F.hash_state_take x1 x2 x3 x4 x5 = some (o1, o2, o3, o4)) :
  Calls Try.prog 56 #[.pointer (some ⟨b1, 0, none⟩), .int .u64 x5] g0.w (Ret (WL [m0]) g0 fun v g => v = .tuple #[] ∧ Box g m0 b1 105 [[.int .u64 o1], [.int .u64 o2], [.int .u64 o3], [.int .u64 o4]] [1, 1, 1, 1]) := by
 refine calls_of (args := [.pointer (some ⟨b1, 0, none⟩), .int .u64 x5]) Try.func56 rfl (m0 + 0) ?_
 intro t ht htL
 refine ⟨_, rfl, ?_⟩
 refine CP.refr 14 [(0, .pointer (some ⟨b1, 0, none⟩)), (1, .int .u64 x5)] (by kernel_rfl) (by kernel_rfl) ?_
 intro ds
 have tot : Step (fun l => (WL [m0]) l ∨ t ≤ l) g0 g0 := Step.refl _ _
 unfold F.hash_state_take at hs
 refine CP.seq ?_
 refine CP.drawL (by kernel_rfl) [3, 8] N.hash_state_take_0 [⟨none, [0], [], fun l g => Box g m0 b1 105 [[.int .u64 x1], [.int .u64 x2], [.int .u64 x3], [.int .u64 x4]] [1, 1, 1, 1]⟩, ⟨some 0, [], [0], fun l g => l.getD 0 undef = .int .u64 x1⟩, ⟨some 1, [0], [], fun l g => Box g m0 b1 105 [[.int .u64 (bitXor .u64 x1 x5)], [.int .u64 x2], [.int .u64 x3], [.int .u64 x4]] [1, 1, 1, 1]⟩] [[], [0]] [m0] [0, 1, 2, 4, 6, 7] [5] (by kernel_rfl) (by simp <;> omega) (by simp) ⟨fun _ _ _ _ st h0 hl hj hB1 => (hB1.mono st (hj 0 (by simp) _ rfl)), fun _ _ _ _ st h0 hl hj e0 => e0, fun _ _ _ _ st h0 hl hj hB1 => (hB1.mono st (hj 0 (by simp) _ rfl)), tv⟩ ⟨hB1, tv, tv, tv⟩ (by kernel_rfl) (fun vs => by kernel_rfl) ?_ ?_ ?_
 ·intro j hj
  have hq : j = 0 := by have h : j < 1 := hj; omega
  rcases hq with rfl
  ·intro vs gq stq hl hf
   obtain ⟨v0, v1, rfl⟩ := len_k2 hl
   have e0 := (show v0 = .int .u64 x1 from hf _ (memI 1 rfl) (by kernel_rfl))
   subst e0
   show Option.isSome _ = true
   kernel_rfl
 ·intro j hj
  have hq : j = 0 ∨ j = 1 := by have h : j < 2 := hj; omega
  rcases hq with rfl | rfl
  ·intro vs gq stq hl hf
   obtain ⟨v0, v1, rfl⟩ := len_k2 hl
   have hB1 := (show Box gq m0 b1 105 [[.int .u64 x1], [.int .u64 x2], [.int .u64 x3], [.int .u64 x4]] [1, 1, 1, 1] from hf _ (memI 0 rfl) (by kernel_rfl))
   refine WP.loadB (v := .int .u64 x1) hB1 (by kernel_rfl) (by kernel_rfl) ?_
   refine WP.dn (Shown.ok (v := .int .u64 x1) (by kernel_rfl) (Step.refl _ _) ?_)
   exact ⟨tv, rfl, tv, tv⟩
  ·intro vs gq stq hl hf
   obtain ⟨v0, v1, rfl⟩ := len_k2 hl
   have hB1 := (show Box gq m0 b1 105 [[.int .u64 x1], [.int .u64 x2], [.int .u64 x3], [.int .u64 x4]] [1, 1, 1, 1] from hf _ (memI 0 rfl) (by kernel_rfl))
   have e0 := (show v0 = .int .u64 x1 from hf _ (memI 1 rfl) (by kernel_rfl))
   subst e0
   refine WP.storeB (ty := 78) (off := 0) (v := .int .u64 (bitXor .u64 x1 x5)) hB1 [[.int .u64 (bitXor .u64 x1 x5)]] [1] (by kernel_rfl) (by kernel_rfl) rfl (by kernel_rfl) [[.int .u64 (bitXor .u64 x1 x5)], [.int .u64 x2], [.int .u64 x3], [.int .u64 x4]] (by kernel_rfl) (.one rfl .nil) ?_
   intro g1 st1 hB2
   refine WP.dn (Shown.o (v := undef) st1 ?_)
   exact ⟨tv, tv, hB2, tv⟩
 intro vs g2 st2 hl hf
 obtain ⟨v0, v1, rfl⟩ := len_k2 hl
 have hB1 := (show Box g2 m0 b1 105 [[.int .u64 (bitXor .u64 x1 x5)], [.int .u64 x2], [.int .u64 x3], [.int .u64 x4]] [1, 1, 1, 1] from hf _ (memI 2 rfl) (by kernel_rfl))
 replace tot := tot.trans (st2.up1 (.inl (by simp [WL])))
 refine NX.then_n ?_
 refine CP.refr 14 [(0, .pointer (some ⟨b1, 0, none⟩))] (by kernel_rfl) (by kernel_rfl) ?_
 clear ds
 intro ds
 refine CP.region ?_
 refine WP.stl 1 ?_
 replace hs := Option.bind_eq_some_iff.1 hs
 obtain ⟨⟨x6, x7, x8, x9⟩, hk1, hs⟩ := hs
 dsimp only at hs
 have hcal1 := P.hash_state_stir g2 m0 (bitXor .u64 x1 x5) x2 x3 x4 b1 hB1 (by omega) x6 x7 x8 x9 hk1
 refine WP.callC hcal1 (by kernel_rfl) ?_
 rintro _ g3 st3 ⟨rfl, hB3⟩
 replace tot := tot.trans (st3.up1 (.inl (by simp [WL])))
 clear hB1
 have hB1 := hB3
 clear hB3
 refine WP.dn ?_
 replace hs := Option.some.inj hs
 simp only [Prod.mk.injEq] at hs
 obtain ⟨rfl, rfl, rfl, rfl⟩ := hs
 exact NX.finE (v := .tuple #[]) (Res.still (by kernel_rfl)) tot htL ⟨rfl, hB1⟩
def N.hash_state_bytes_0 : List (List Nat) := [[], [], [1], [], [3], [3, 4], [3, 4, 5], [1, 2, 3, 4, 5, 6], [0, 1, 2, 3, 4, 5, 6, 7]]
def F.hash_state_bytes.l1 (l1 : List Int) : Nat → Int → Int → Int → Int → (List Int) → Option (Int × Int × Int × Int)
 | 0, _, _, _, _, _ => none
 | k + 1, x19, x20, x21, x22, l2 => (if decide ((l2.length : Int) ≥ 8) = true then (if (0 : Int) ≤ 0 ∧ (0 : Int) ≤ 8 ∧ 8 ≤ (l2.length : Int) then ((F.hash_number (sliceI l2 0 8)).bind fun x41 => ((F.hash_state_take x19 x20 x21 x22 x41).bind fun (x42, x43, x44, x45) => (if (0 : Int) ≤ 8 ∧ 8 ≤ (l2.length : Int) ∧ (l2.length : Int) ≤ (l2.length : Int) then (F.hash_state_bytes.l1 l1 k x42 x43 x44 x45 (sliceI l2 8 (l2.length : Int))) else none))) else none) else ((F.hash_number l2).bind fun x46 => (if (0 : Int) ≤ (IntKind.i64.wrap (8 * (l2.length : Int))) then ((F.hash_state_take x19 x20 x21 x22 (bitOr .u64 x46 (shV true .u64 1 (IntKind.i64.wrap (8 * (l2.length : Int)))))).bind fun (x47, x48, x49, x50) => ((F.hash_state_take x47 x48 x49 x50 (IntKind.u64.wrap (l1.length : Int))).bind fun (x51, x52, x53, x54) => (some (x51, x52, x53, x54)))) else none)))
def F.hash_state_bytes (x1 : Int) (x2 : Int) (x3 : Int) (x4 : Int) (l1 : List Int) : Option (Int × Int × Int × Int) := (F.hash_state_bytes.l1 l1 fuel x1 x2 x3 x4 l1)
theorem P.hash_state_bytes (g0 : GW) (m0 : Nat) (x1 : Int) (x2 : Int) (x3 : Int) (x4 : Int) (l1 : List Int) (a1 : Option Addr) (n1 : Nat) (c1 : Nat) (b1 : Nat) (hR1 : RdS (Kd.int .u8) g0 5 a1 n1 c1 l1) (hB1 : Box g0 m0 b1 105 [[.int .u64 x1], [.int .u64 x2], [.int .u64 x3], [.int .u64 x4]] [1, 1, 1, 1]) (hm0 : m0 ≠ 0) (o1 : Int) (o2 : Int) (o3 : Int) (o4 : Int) (hs : F.hash_state_bytes x1 x2 x3 x4 l1 = some (o1, o2, o3, o4)) :
  Calls Try.prog 52 #[.pointer (some ⟨b1, 0, none⟩), .slice a1 n1 c1] g0.w (Ret (WL [m0]) g0 fun v g => v = .tuple #[] ∧ Box g m0 b1 105 [[.int .u64 o1], [.int .u64 o2], [.int .u64 o3], [.int .u64 o4]] [1, 1, 1, 1]) := by
 refine calls_of (args := [.pointer (some ⟨b1, 0, none⟩), .slice a1 n1 c1]) Try.func52 rfl (m0 + 0) ?_
 intro t ht htL
 refine ⟨_, rfl, ?_⟩
 refine CP.refr 30 [(0, .pointer (some ⟨b1, 0, none⟩)), (1, .slice a1 n1 c1)] (by kernel_rfl) (by kernel_rfl) ?_
 intro ds
 have tot : Step (fun l => (WL [m0]) l ∨ t ≤ l) g0 g0 := Step.refl _ _
 unfold F.hash_state_bytes at hs
 refine CP.seqR ?_
 refine WP.stl 1 ?_
 refine WP.len (a := a1) (cp := c1) hR1.len (by kernel_rfl) ?_
 refine WP.stl 1 ?_
 refine WP.dn ?_
 refine NX.then_n ?_
 refine CP.seq ?_
 refine CP.block ?_
 generalize fuel = k1 at hs
 refine CP.loop (fun k1 tm g => ∃ (x19 : Int) (x20 : Int) (x21 : Int) (x22 : Int) (l2 : List Int) (a4 : Option Addr) (n2 : Nat) (c4 : Nat), Fr 30 [(0, .pointer (some ⟨b1, 0, none⟩)), (1, .slice a4 n2 c4), (4, .int .i64 (l1.length : Int))] tm ∧ Step (fun l => (WL [m0]) l ∨ t ≤ l) g0 g ∧ Box g m0 b1 105 [[.int .u64 x19], [.int .u64 x20], [.int .u64 x21], [.int .u64 x22]] [1, 1, 1, 1] ∧ RdS (Kd.int .u8) g 5 a4 n2 c4 l2 ∧ F.hash_state_bytes.l1 l1 k1 x19 x20 x21 x22 l2 = some (o1, o2, o3, o4)) k1 ?_ ?_ ?_
 ·exact ⟨x1, x2, x3, x4, l1, a1, n1, c1, ⟨by kernel_rfl, by kernel_rfl⟩, tot, hB1, hR1, hs⟩
 ·rintro tm g ⟨x19, x20, x21, x22, l2, a4, n2, c4, hF, tot, hB1, hR4, hs⟩
  exact absurd hs (by simp [F.hash_state_bytes.l1])
 clear tot hs hB1 hR1
 rintro k1 tm g ⟨x19, x20, x21, x22, l2, a4, n2, c4, hF, tot, hB1, hR4, hs⟩
 clear ds
 obtain ⟨ds, rfl⟩ := hF.open
 clear hF
 unfold F.hash_state_bytes.l1 at hs
 refine CP.seq ?_
 refine CP.seqR ?_
 refine WP.stl 1 ?_
 refine WP.len (a := a4) (cp := c4) hR4.len (by kernel_rfl) ?_
 refine WP.stl 1 ?_
 refine WP.dn ?_
 refine NX.then_n ?_
 refine CP.cond (b := decide ((l2.length : Int) ≥ 8)) (by kernel_rfl) (fun h3 => ?_) (fun h3 => ?_)
 ·replace hs := of_if_t hs h3
  refine CP.skip ?_
  refine NX.then_n ?_
  refine CP.block ?_
  refine CP.seqR ?_
  refine WP.stl 2 ?_
  by_cases hc7 : (0 : Int) ≤ 0 ∧ (0 : Int) ≤ 8 ∧ 8 ≤ (l2.length : Int)
  case neg => rw [if_neg hc7] at hs; cases hs
  replace hs := of_if_p hs hc7
  refine WP.sliceR (lo := none) (hi := some (.int .i64 8)) hR4 0 8 (by kernel_rfl) (.inl ⟨rfl, rfl⟩) (.inr ⟨_, rfl⟩) hc7 ?_
  intro a8 c8 hR8
  replace hs := Option.bind_eq_some_iff.1 hs
  obtain ⟨x41, hk11, hs⟩ := hs
  have hcal11 := P.hash_number g (sliceI l2 0 8) a8 ((8 : Int).toNat - (0 : Int).toNat) c8 hR8 x41 hk11
  refine WP.callC hcal11 (by kernel_rfl) ?_
  rintro _ g11 st11 rfl
  replace hB1 := hB1.mono st11 (fun x => x)
  replace hR4 := hR4.mono st11 (fun x => x)
  replace hR8 := hR8.mono st11 (fun x => x)
  replace tot := tot.trans st11.pure
  replace hs := Option.bind_eq_some_iff.1 hs
  obtain ⟨⟨x42, x43, x44, x45⟩, hk12, hs⟩ := hs
  dsimp only at hs
  have hcal12 := P.hash_state_take g11 m0 x19 x20 x21 x22 x41 b1 hB1 (by omega) x42 x43 x44 x45 hk12
  refine WP.callC hcal12 (by kernel_rfl) ?_
  rintro _ g12 st12 ⟨rfl, hB8⟩
  replace hR4 := hR4.mono st12 (WL.no1 (by omega))
  replace hR8 := hR8.mono st12 (WL.no1 (by omega))
  replace tot := tot.trans (st12.up1 (.inl (by simp [WL])))
  clear hB1
  have hB1 := hB8
  clear hB8
  refine WP.dn ?_
  refine NX.then_n ?_
  refine CP.region ?_
  refine WP.stl 1 ?_
  by_cases hc8 : (0 : Int) ≤ 8 ∧ 8 ≤ (l2.length : Int) ∧ (l2.length : Int) ≤ (l2.length : Int)
  case neg => rw [if_neg hc8] at hs; cases hs
  replace hs := of_if_p hs hc8
  refine WP.sliceR (lo := some (.int .i64 8)) (hi := none) hR4 8 (l2.length : Int) (by kernel_rfl) (.inr ⟨_, rfl⟩) (.inl ⟨rfl, rfl⟩) hc8 ?_
  intro a9 c9 hR9
  refine WP.stl 1 ?_
  refine WP.dn ?_
  refine NX.block_n ?_
  refine NX.post ?_
  exact ⟨x42, x43, x44, x45, (sliceI l2 8 (l2.length : Int)), a9, ((l2.length : Int).toNat - (8 : Int).toNat), c9, ⟨by kernel_rfl, by kernel_rfl⟩, tot, hB1, hR9, hs⟩
 replace hs := of_if_f hs h3
 refine CP.exit ?_
 refine NX.then_e ?_
 refine NX.then_e ?_
 refine NX.block_s ?_
 refine NX.then_n ?_
 refine CP.seq ?_
 replace hs := Option.bind_eq_some_iff.1 hs
 obtain ⟨x46, hk13, hs⟩ := hs
 by_cases hc9 : (0 : Int) ≤ (IntKind.i64.wrap (8 * (l2.length : Int)))
 case neg => rw [if_neg hc9] at hs; cases hs
 replace hs := of_if_p hs hc9
 replace hs := Option.bind_eq_some_iff.1 hs
 obtain ⟨⟨x47, x48, x49, x50⟩, hk14, hs⟩ := hs
 dsimp only at hs
 refine CP.drawL (by kernel_rfl) [2, 4, 6, 8] N.hash_state_bytes_0 [⟨none, [0], [], fun l g => Box g m0 b1 105 [[.int .u64 x19], [.int .u64 x20], [.int .u64 x21], [.int .u64 x22]] [1, 1, 1, 1]⟩, ⟨none, [], [], fun l g => RdS (Kd.int .u8) g 5 a4 n2 c4 l2⟩, ⟨some 0, [], [0], fun l g => l.getD 0 undef = .int .u64 x46⟩, ⟨some 1, [], [1], fun l g => l.getD 0 undef = .int .i64 (l2.length : Int)⟩, ⟨some 2, [], [2], fun l g => l.getD 0 undef = .int .u64 (shV true .u64 1 (IntKind.i64.wrap (8 * (l2.length : Int))))⟩, ⟨some 3, [], [3], fun l g => l.getD 0 undef = .tuple #[]⟩, ⟨some 3, [0], [], fun l g => Box g m0 b1 105 [[.int .u64 x47], [.int .u64 x48], [.int .u64 x49], [.int .u64 x50]] [1, 1, 1, 1]⟩] [[], [], [], [0]] [m0] [0, 1, 3] [5, 7] (by kernel_rfl) (by simp <;> omega) (by simp) ⟨fun _ _ _ _ st h0 hl hj hB1 => (hB1.mono st (hj 0 (by simp) _ rfl)), fun _ _ _ _ st h0 hl hj hR4 => (RdS.mono (e := 5) hR4 st h0), fun _ _ _ _ st h0 hl hj e0 => e0, fun _ _ _ _ st h0 hl hj e1 => e1, fun _ _ _ _ st h0 hl hj e2 => e2, fun _ _ _ _ st h0 hl hj e3 => e3, fun _ _ _ _ st h0 hl hj hB1 => (hB1.mono st (hj 0 (by simp) _ rfl)), tv⟩ ⟨hB1, hR4, tv, tv, tv, tv, tv, tv⟩ (by kernel_rfl) (fun vs => by kernel_rfl) ?_ ?_ ?_
 ·intro j hj
  have hq : j = 0 ∨ j = 1 := by have h : j < 2 := hj; omega
  rcases hq with rfl | rfl
  ·intro vs gq stq hl hf
   obtain ⟨v0, v1, v2, v3, rfl⟩ := len_k4 hl
   have e1 := (show v1 = .int .i64 (l2.length : Int) from hf _ (memI 3 rfl) (by kernel_rfl))
   subst e1
   show Option.isSome _ = true
   kernel_rfl
  ·intro vs gq stq hl hf
   obtain ⟨v0, v1, v2, v3, rfl⟩ := len_k4 hl
   have e0 := (show v0 = .int .u64 x46 from hf _ (memI 2 rfl) (by kernel_rfl))
   subst e0
   have e2 := (show v2 = .int .u64 (shV true .u64 1 (IntKind.i64.wrap (8 * (l2.length : Int)))) from hf _ (memI 4 rfl) (by kernel_rfl))
   subst e2
   show Option.isSome _ = true
   kernel_rfl
 ·intro j hj
  have hq : j = 0 ∨ j = 1 ∨ j = 2 ∨ j = 3 := by have h : j < 4 := hj; omega
  rcases hq with rfl | rfl | rfl | rfl
  ·intro vs gq stq hl hf
   obtain ⟨v0, v1, v2, v3, rfl⟩ := len_k4 hl
   have hR4 := (show RdS (Kd.int .u8) gq 5 a4 n2 c4 l2 from hf _ (memI 1 rfl) (by kernel_rfl))
   have hcal13 := P.hash_number gq l2 a4 n2 c4 hR4 x46 hk13
   refine WP.callC hcal13 (by kernel_rfl) ?_
   rintro _ g13 st13 rfl
   refine WP.dn (Shown.o (v := .int .u64 x46) st13.pure ?_)
   exact ⟨tv, tv, rfl, tv, tv, tv, tv, tv⟩
  ·intro vs gq stq hl hf
   obtain ⟨v0, v1, v2, v3, rfl⟩ := len_k4 hl
   have hR4 := (show RdS (Kd.int .u8) gq 5 a4 n2 c4 l2 from hf _ (memI 1 rfl) (by kernel_rfl))
   refine WP.len (a := a4) (cp := c4) hR4.len (by kernel_rfl) ?_
   refine WP.dn (Shown.ok (v := .int .i64 (l2.length : Int)) (by kernel_rfl) (Step.refl _ _) ?_)
   exact ⟨tv, tv, tv, rfl, tv, tv, tv, tv⟩
  ·intro vs gq stq hl hf
   obtain ⟨v0, v1, v2, v3, rfl⟩ := len_k4 hl
   have e1 := (show v1 = .int .i64 (l2.length : Int) from hf _ (memI 3 rfl) (by kernel_rfl))
   subst e1
   refine WP.shift (left := true) (k := .u64) (yk := .i64) (x := 1) (y := (IntKind.i64.wrap (8 * (l2.length : Int)))) (by kernel_rfl) hc9 ?_
   refine WP.dn (Shown.ok (v := .int .u64 (shV true .u64 1 (IntKind.i64.wrap (8 * (l2.length : Int))))) (by kernel_rfl) (Step.refl _ _) ?_)
   exact ⟨tv, tv, tv, tv, rfl, tv, tv, tv⟩
  ·intro vs gq stq hl hf
   obtain ⟨v0, v1, v2, v3, rfl⟩ := len_k4 hl
   have hB1 := (show Box gq m0 b1 105 [[.int .u64 x19], [.int .u64 x20], [.int .u64 x21], [.int .u64 x22]] [1, 1, 1, 1] from hf _ (memI 0 rfl) (by kernel_rfl))
   have e0 := (show v0 = .int .u64 x46 from hf _ (memI 2 rfl) (by kernel_rfl))
   subst e0
   have e2 := (show v2 = .int .u64 (shV true .u64 1 (IntKind.i64.wrap (8 * (l2.length : Int)))) from hf _ (memI 4 rfl) (by kernel_rfl))
   subst e2
   have hcal14 := P.hash_state_take gq m0 x19 x20 x21 x22 (bitOr .u64 x46 (shV true .u64 1 (IntKind.i64.wrap (8 * (l2.length : Int))))) b1 hB1 (by omega) x47 x48 x49 x50 hk14
   refine WP.callC hcal14 (by kernel_rfl) ?_
   rintro _ g14 st14 ⟨rfl, hB9⟩
   refine WP.dn (Shown.o (v := .tuple #[]) st14 ?_)
   exact ⟨tv, tv, tv, tv, tv, rfl, hB9, tv⟩
 intro vs g15 st15 hl hf
 obtain ⟨v0, v1, v2, v3, rfl⟩ := len_k4 hl
 have hB1 := (show Box g15 m0 b1 105 [[.int .u64 x47], [.int .u64 x48], [.int .u64 x49], [.int .u64 x50]] [1, 1, 1, 1] from hf _ (memI 6 rfl) (by kernel_rfl))
 replace tot := tot.trans (st15.up1 (.inl (by simp [WL])))
 refine NX.then_n ?_
 refine CP.refr 30 [(0, .pointer (some ⟨b1, 0, none⟩)), (4, .int .i64 (l1.length : Int))] (by kernel_rfl) (by kernel_rfl) ?_
 clear ds
 intro ds
 refine CP.region ?_
 refine WP.stl 3 ?_
 replace hs := Option.bind_eq_some_iff.1 hs
 obtain ⟨⟨x51, x52, x53, x54⟩, hk15, hs⟩ := hs
 dsimp only at hs
 have hcal15 := P.hash_state_take g15 m0 x47 x48 x49 x50 (IntKind.u64.wrap (l1.length : Int)) b1 hB1 (by omega) x51 x52 x53 x54 hk15
 refine WP.callC hcal15 (by kernel_rfl) ?_
 rintro _ g16 st16 ⟨rfl, hB10⟩
 replace tot := tot.trans (st16.up1 (.inl (by simp [WL])))
 clear hB1
 have hB1 := hB10
 clear hB10
 refine WP.dn ?_
 replace hs := Option.some.inj hs
 simp only [Prod.mk.injEq] at hs
 obtain ⟨rfl, rfl, rfl, rfl⟩ := hs
 exact NX.finE (v := .tuple #[]) (Res.still (by kernel_rfl)) tot htL ⟨rfl, hB1⟩
def N.hash_state_gives_0 : List (List Nat) := [[], [0], [0, 1], [0, 1, 2], [], [4], [4, 5], [4, 5, 6], [0, 1, 2, 3, 4, 5, 6, 7], [0, 1, 2, 3, 4, 5, 6, 7, 8]]
def F.hash_state_gives (x1 : Int) (x2 : Int) (x3 : Int) (x4 : Int) : Option (Int) := (some (bitXor .u64 x1 x3))
theorem P.hash_state_gives (g0 : GW) (m0 : Nat) (x1 : Int) (x2 : Int) (x3 : Int) (x4 : Int) (b1 : Nat) (hB1 : Box g0 m0 b1 105 [[.int .u64 x1], [.int .u64 x2], [.int .u64 x3], [.int .u64 x4]] [1, 1, 1, 1]) (hm0 : m0 ≠ 0) (o1 : Int) (hs : F.hash_state_gives x1 x2 x3 x4 = some o1) :
  Calls Try.prog 59 #[.pointer (some ⟨b1, 0, none⟩)] g0.w (Ret NoM g0 fun v g => v = .int .u64 o1) := by
 refine calls_of (args := [.pointer (some ⟨b1, 0, none⟩)]) Try.func59 rfl (m0 + 0) ?_
 intro t ht htL
 refine ⟨_, rfl, ?_⟩
 refine CP.refr 12 [(0, .pointer (some ⟨b1, 0, none⟩))] (by kernel_rfl) (by kernel_rfl) ?_
 intro ds
 have tot : Step (fun l => NoM l ∨ t ≤ l) g0 g0 := Step.refl _ _
 unfold F.hash_state_gives at hs
 refine CP.seqR ?_
 refine WP.stl 1 ?_
 refine WP.dn ?_
 refine NX.then_n ?_
 refine CP.seq ?_
 refine CP.drawL (by kernel_rfl) [3, 7] N.hash_state_gives_0 [⟨none, [], [], fun l g => Box g m0 b1 105 [[.int .u64 x1], [.int .u64 x2], [.int .u64 x3], [.int .u64 x4]] [1, 1, 1, 1]⟩, ⟨some 0, [], [0], fun l g => l.getD 0 undef = .int .u64 x1⟩, ⟨some 1, [], [1], fun l g => l.getD 0 undef = .int .u64 x3⟩] [[], []] [] [0, 1, 2, 4, 5, 6] [8, 9] (by kernel_rfl) (by simp) (by simp) ⟨fun _ _ _ _ st h0 hl hj hB1 => (hB1.mono st (fun h => absurd (hl _ h) (by simp))), fun _ _ _ _ st h0 hl hj e0 => e0, fun _ _ _ _ st h0 hl hj e1 => e1, tv⟩ ⟨hB1, tv, tv, tv⟩ (by kernel_rfl) (fun vs => by kernel_rfl) ?_ ?_ ?_
 ·intro j hj
  have hq : j = 0 ∨ j = 1 := by have h : j < 2 := hj; omega
  rcases hq with rfl | rfl
  ·intro vs gq stq hl hf
   obtain ⟨v0, v1, rfl⟩ := len_k2 hl
   have e0 := (show v0 = .int .u64 x1 from hf _ (memI 1 rfl) (by kernel_rfl))
   subst e0
   have e1 := (show v1 = .int .u64 x3 from hf _ (memI 2 rfl) (by kernel_rfl))
   subst e1
   show Option.isSome _ = true
   kernel_rfl
  ·intro vs gq stq hl hf
   obtain ⟨v0, v1, rfl⟩ := len_k2 hl
   have e0 := (show v0 = .int .u64 x1 from hf _ (memI 1 rfl) (by kernel_rfl))
   subst e0
   have e1 := (show v1 = .int .u64 x3 from hf _ (memI 2 rfl) (by kernel_rfl))
   subst e1
   show Option.isSome _ = true
   kernel_rfl
 ·intro j hj
  have hq : j = 0 ∨ j = 1 := by have h : j < 2 := hj; omega
  rcases hq with rfl | rfl
  ·intro vs gq stq hl hf
   obtain ⟨v0, v1, rfl⟩ := len_k2 hl
   have hB1 := (show Box gq m0 b1 105 [[.int .u64 x1], [.int .u64 x2], [.int .u64 x3], [.int .u64 x4]] [1, 1, 1, 1] from hf _ (memI 0 rfl) (by kernel_rfl))
   refine WP.loadB (v := .int .u64 x1) hB1 (by kernel_rfl) (by kernel_rfl) ?_
   refine WP.dn (Shown.ok (v := .int .u64 x1) (by kernel_rfl) (Step.refl _ _) ?_)
   exact ⟨tv, rfl, tv, tv⟩
  ·intro vs gq stq hl hf
   obtain ⟨v0, v1, rfl⟩ := len_k2 hl
   have hB1 := (show Box gq m0 b1 105 [[.int .u64 x1], [.int .u64 x2], [.int .u64 x3], [.int .u64 x4]] [1, 1, 1, 1] from hf _ (memI 0 rfl) (by kernel_rfl))
   refine WP.loadB (v := .int .u64 x3) hB1 (by kernel_rfl) (by kernel_rfl) ?_
   refine WP.dn (Shown.ok (v := .int .u64 x3) (by kernel_rfl) (Step.refl _ _) ?_)
   exact ⟨tv, tv, rfl, tv⟩
 intro vs g1 st1 hl hf
 obtain ⟨v0, v1, rfl⟩ := len_k2 hl
 have e0 := (show v0 = .int .u64 x1 from hf _ (memI 1 rfl) (by kernel_rfl))
 subst e0
 have e1 := (show v1 = .int .u64 x3 from hf _ (memI 2 rfl) (by kernel_rfl))
 subst e1
 replace tot := tot.trans st1.toNo.pure
 refine NX.then_n ?_
 refine CP.refr 12 [(2, .int .u64 (bitXor .u64 x1 x3))] (by kernel_rfl) (by kernel_rfl) ?_
 clear ds
 intro ds
 refine CP.ret ?_
 replace hs := Option.some.inj hs
 obtain rfl := hs
 exact NX.fin (v := .int .u64 (bitXor .u64 x1 x3)) (Res.still (by kernel_rfl)) tot htL rfl
end Go.Proofs.Ytahpmlekenbafaa
