/-
  Walks, written by program: each Go function computes the plain function of its name, in whatever world its arguments' facts hold.
-/
import Derived.Test.YtlnockimfgfcgaaRows
import Derived.Test.YtlnockimfgfcgaaLabH
namespace Go.Proofs.Ytlnockimfgfcgaa
open Go.RowKit Go.Lab
attribute [local irreducible] WP CP NX wpList Code.wp Calls
set_option maxRecDepth 100000
set_option maxHeartbeats 4000000
set_option linter.unusedVariables false

def F.coin_Right.c1 (q1 : Bool) : Option (Bool) := (some q1)
def F.coin_Right (x1 : Int) : Option (Bool) := (if decide (x1 ≥ 0) = true then (F.coin_Right.c1 (decide (x1 ≤ 1125899906842624))) else (F.coin_Right.c1 false))
theorem P.coin_Right (g0 : GW) (x1 : Int) (o1 : Bool) (hs : F.coin_Right x1 = some o1) :
    Calls Try.prog 37 #[.int .i64 x1] g0.w (Ret NoM g0 fun v g => v = .bool o1) := by
  refine calls_of (args := [.int .i64 x1]) Try.func37 rfl (0) ?_
  intro t ht htL
  refine ⟨_, rfl, ?_⟩
  refine CP.refr 9 [(0, .int .i64 x1)] (by kernel_rfl) (by kernel_rfl) ?_
  intro ds
  have tot : Step (fun l => NoM l ∨ t ≤ l) g0 g0 := Step.refl _ _
  unfold F.coin_Right at hs
  refine CP.seqR ?_
  refine WP.still 1 (by kernel_rfl) ?_
  refine WP.done (by kernel_rfl) ?_
  refine NX.then_n ?_
  refine CP.cut (fun tm g => ∃ (q1 : Bool), Fr 9 [(2, .bool q1)] tm ∧ Step (fun l => NoM l ∨ t ≤ l) g0 g ∧ (F.coin_Right.c1 q1) = some o1) ?_ ?_
  · refine CP.region ?_
    refine WP.still 3 (by kernel_rfl) ?_
    refine WP.guard 5 (b := decide (x1 ≥ 0)) (by kernel_rfl) (fun h2 => ?_) (fun h2 => ?_)
    · replace hs := of_if_t hs h2
      refine WP.still 4 (by kernel_rfl) ?_
      refine WP.done (by kernel_rfl) ?_
      refine NX.post ?_
      exact ⟨decide (x1 ≤ 1125899906842624), ⟨by kernel_rfl, by kernel_rfl⟩, tot, hs⟩
    · replace hs := of_if_f hs h2
      refine WP.still 4 (by kernel_rfl) ?_
      refine WP.done (by kernel_rfl) ?_
      refine NX.post ?_
      exact ⟨false, ⟨by kernel_rfl, by kernel_rfl⟩, tot, hs⟩
  · clear tot hs
    rintro tm g ⟨q1, hF, tot, hs⟩
    clear ds
    obtain ⟨ds, rfl⟩ := hF.open
    clear hF
    unfold F.coin_Right.c1 at hs
    refine CP.ret ?_
    replace hs := Option.some.inj hs
    obtain rfl := hs
    exact NX.fin (v := .bool q1) (Res.still (by kernel_rfl)) tot htL rfl
def F.slices_Index_int_int.l1 (l1 : List Int) (x1 : Int) : Nat → Int → Option (Int)
  | 0, _ => none
  | k + 1, x2 => (if decide (x2 < (l1.length : Int)) = true then (if 0 ≤ x2 ∧ x2 < (l1.length : Int) then (if (x1 == (getI l1 x2)) = true then (some x2) else (F.slices_Index_int_int.l1 l1 x1 k (IntKind.i64.wrap (x2 + 1)))) else none) else (some (-1)))
def F.slices_Index_int_int (l1 : List Int) (x1 : Int) : Option (Int) := (F.slices_Index_int_int.l1 l1 x1 fuel 0)
theorem P.slices_Index_int_int (g0 : GW) (l1 : List Int) (x1 : Int) (a1 : Option Addr) (n1 : Nat) (c1 : Nat) (hR1 : RdS (Kd.int .i64) g0 3 a1 n1 c1 l1) (o1 : Int) (hs : F.slices_Index_int_int l1 x1 = some o1) :
    Calls Try.prog 67 #[.slice a1 n1 c1, .int .i64 x1] g0.w (Ret NoM g0 fun v g => v = .int .i64 o1) := by
  refine calls_of (args := [.slice a1 n1 c1, .int .i64 x1]) Try.func67 rfl (0) ?_
  intro t ht htL
  refine ⟨_, rfl, ?_⟩
  refine CP.refr 19 [(0, .slice a1 n1 c1), (1, .int .i64 x1)] (by kernel_rfl) (by kernel_rfl) ?_
  intro ds
  have tot : Step (fun l => NoM l ∨ t ≤ l) g0 g0 := Step.refl _ _
  unfold F.slices_Index_int_int at hs
  refine CP.seqR ?_
  refine WP.still 1 (by kernel_rfl) ?_
  refine WP.done (by kernel_rfl) ?_
  refine NX.then_n ?_
  refine CP.seq ?_
  refine CP.seqR ?_
  refine WP.still 1 (by kernel_rfl) ?_
  refine WP.len (a := a1) (cp := c1) hR1.len (by kernel_rfl) ?_
  refine WP.still 1 (by kernel_rfl) ?_
  refine WP.done (by kernel_rfl) ?_
  refine NX.then_n ?_
  refine CP.block ?_
  generalize fuel = k1 at hs
  refine CP.loop (fun k1 tm g => ∃ (x2 : Int), Fr 19 [(0, .slice a1 n1 c1), (1, .int .i64 x1), (7, .int .i64 (l1.length : Int)), (8, .int .i64 x2)] tm ∧ Step (fun l => NoM l ∨ t ≤ l) g0 g ∧ RdS (Kd.int .i64) g 3 a1 n1 c1 l1 ∧ F.slices_Index_int_int.l1 l1 x1 k1 x2 = some o1) k1 ?_ ?_ ?_
  · exact ⟨0, ⟨by kernel_rfl, by kernel_rfl⟩, tot, hR1, hs⟩
  · rintro tm g ⟨x2, hF, tot, hR1, hs⟩
    exact absurd hs (by simp [F.slices_Index_int_int.l1])
  clear tot hs hR1
  rintro k1 tm g ⟨x2, hF, tot, hR1, hs⟩
  clear ds
  obtain ⟨ds, rfl⟩ := hF.open
  clear hF
  unfold F.slices_Index_int_int.l1 at hs
  refine CP.seqR ?_
  refine WP.still 1 (by kernel_rfl) ?_
  refine WP.done (by kernel_rfl) ?_
  refine NX.then_n ?_
  refine CP.seq ?_
  refine CP.cond (b := decide (x2 < (l1.length : Int))) (by kernel_rfl) (fun h5 => ?_) (fun h5 => ?_)
  · replace hs := of_if_t hs h5
    refine CP.skip ?_
    refine NX.then_n ?_
    refine CP.seq ?_
    refine CP.block ?_
    refine CP.seqR ?_
    refine WP.still 2 (by kernel_rfl) ?_
    refine WP.done (by kernel_rfl) ?_
    refine NX.then_n ?_
    refine CP.seqR ?_
    refine WP.still 3 (by kernel_rfl) ?_
    by_cases hc3 : 0 ≤ x2 ∧ x2 < (l1.length : Int)
    case neg => rw [if_neg hc3] at hs; cases hs
    replace hs := of_if_p hs hc3
    obtain ⟨b3, u3, ha3⟩ := hR1.at hc3
    refine WP.indexA (t := 24) (e := 3) (sz := 1) (cap := c1) (k := .i64) (i := x2) hR1.len ha3 (by kernel_rfl) (by kernel_rfl) hc3 ?_
    obtain ⟨cs3, hcR3, hcV3⟩ := hR1.src.view (getI_some hc3) ha3
    replace hcR3 := Kd.o_int hcR3
    refine WP.loadV [[.int .i64 (getI l1 x2)]] [1] hcV3 hcR3 rfl (f := 0) (ty := 3) (agg := false) (size := 1) (rs := [[.int .i64 (getI l1 x2)]]) (v := .int .i64 (getI l1 x2)) (by kernel_rfl) (by kernel_rfl) (by kernel_rfl) (by kernel_rfl) ?_
    refine WP.still 1 (by kernel_rfl) ?_
    refine WP.done (by kernel_rfl) ?_
    refine NX.then_n ?_
    refine CP.cond (b := (x1 == (getI l1 x2))) (by kernel_rfl) (fun h6 => ?_) (fun h6 => ?_)
    · replace hs := of_if_t hs h6
      refine CP.seqR ?_
      refine WP.still 2 (by kernel_rfl) ?_
      refine WP.done (by kernel_rfl) ?_
      refine NX.then_n ?_
      refine CP.ret ?_
      refine NX.block_r ?_
      refine NX.then_r ?_
      refine NX.then_r ?_
      refine NX.block_r ?_
      refine NX.then_r ?_
      replace hs := Option.some.inj hs
      obtain rfl := hs
      exact NX.fin (v := .int .i64 x2) (Res.still (by kernel_rfl)) tot htL rfl
    · replace hs := of_if_f hs h6
      refine CP.skip ?_
      refine NX.block_n ?_
      refine NX.then_n ?_
      refine CP.region ?_
      refine WP.still 2 (by kernel_rfl) ?_
      refine WP.done (by kernel_rfl) ?_
      refine NX.post ?_
      exact ⟨(IntKind.i64.wrap (x2 + 1)), ⟨by kernel_rfl, by kernel_rfl⟩, tot, hR1, hs⟩
  · replace hs := of_if_f hs h5
    refine CP.exit ?_
    refine NX.then_e ?_
    refine NX.then_e ?_
    refine NX.block_s ?_
    refine NX.then_n ?_
    refine CP.seqR ?_
    refine WP.still 1 (by kernel_rfl) ?_
    refine WP.done (by kernel_rfl) ?_
    refine NX.then_n ?_
    refine CP.ret ?_
    replace hs := Option.some.inj hs
    obtain rfl := hs
    exact NX.fin (v := .int .i64 (-1)) (Res.still (by kernel_rfl)) tot htL rfl
def F.slices_Contains_int_int (l1 : List Int) (x1 : Int) : Option (Bool) := ((F.slices_Index_int_int l1 x1).bind fun x2 => (some (decide (x2 ≥ 0))))
theorem P.slices_Contains_int_int (g0 : GW) (l1 : List Int) (x1 : Int) (a1 : Option Addr) (n1 : Nat) (c1 : Nat) (hR1 : RdS (Kd.int .i64) g0 3 a1 n1 c1 l1) (o1 : Bool) (hs : F.slices_Contains_int_int l1 x1 = some o1) :
    Calls Try.prog 38 #[.slice a1 n1 c1, .int .i64 x1] g0.w (Ret NoM g0 fun v g => v = .bool o1) := by
  refine calls_of (args := [.slice a1 n1 c1, .int .i64 x1]) Try.func38 rfl (0) ?_
  intro t ht htL
  refine ⟨_, rfl, ?_⟩
  refine CP.refr 9 [(0, .slice a1 n1 c1), (1, .int .i64 x1)] (by kernel_rfl) (by kernel_rfl) ?_
  intro ds
  have tot : Step (fun l => NoM l ∨ t ≤ l) g0 g0 := Step.refl _ _
  unfold F.slices_Contains_int_int at hs
  refine CP.seqR ?_
  refine WP.still 1 (by kernel_rfl) ?_
  refine WP.done (by kernel_rfl) ?_
  refine NX.then_n ?_
  refine CP.seqR ?_
  refine WP.still 2 (by kernel_rfl) ?_
  replace hs := Option.bind_eq_some_iff.1 hs
  obtain ⟨x2, hk1, hs⟩ := hs
  have hcal1 := P.slices_Index_int_int g0 l1 x1 a1 n1 c1 hR1 x2 hk1
  refine WP.callC hcal1 (by kernel_rfl) ?_
  rintro _ g1 st1 rfl
  replace hR1 := hR1.mono st1 (fun x => x)
  replace tot := tot.trans st1.pure
  refine WP.still 2 (by kernel_rfl) ?_
  refine WP.done (by kernel_rfl) ?_
  refine NX.then_n ?_
  refine CP.ret ?_
  replace hs := Option.some.inj hs
  obtain rfl := hs
  exact NX.fin (v := .bool (decide (x2 ≥ 0))) (Res.still (by kernel_rfl)) tot htL rfl
def F.coin_weigh.c1 (nx1 : Int → Int → Option (Int × Int)) (l1 : List Int) (x1 : Int) (x2 : Int) (q3 : Bool) : Option (Int × Int) := (if q3 = true then (some (0, 2)) else (nx1 (IntKind.i64.wrap (x1 + (getI l1 x2))) (IntKind.i64.wrap (x2 + 1))))
def F.coin_weigh.l1 (l1 : List Int) : Nat → Int → Int → Option (Int × Int)
  | 0, _, _ => none
  | k + 1, x1, x2 => (if decide (x2 < (l1.length : Int)) = true then (if 0 ≤ x2 ∧ x2 < (l1.length : Int) then (if decide ((getI l1 x2) < 0) = true then (F.coin_weigh.c1 (F.coin_weigh.l1 l1 k) l1 x1 x2 true) else (F.coin_weigh.c1 (F.coin_weigh.l1 l1 k) l1 x1 x2 (decide ((getI l1 x2) > 1024)))) else none) else (if (x1 == 0) = true then (some (0, 1)) else (some (x1, 0))))
def F.coin_weigh (l1 : List Int) : Option (Int × Int) := (F.coin_weigh.l1 l1 fuel 0 0)
theorem P.coin_weigh (g0 : GW) (l1 : List Int) (a1 : Option Addr) (n1 : Nat) (c1 : Nat) (hR1 : RdS (Kd.int .i64) g0 3 a1 n1 c1 l1) (o1 : Int) (o2 : Int) (hs : F.coin_weigh l1 = some (o1, o2)) :
    Calls Try.prog 68 #[.slice a1 n1 c1] g0.w (Ret NoM g0 fun v g => v = .tuple #[.int .i64 o1, .int .i64 o2]) := by
  refine calls_of (args := [.slice a1 n1 c1]) Try.func68 rfl (0) ?_
  intro t ht htL
  refine ⟨_, rfl, ?_⟩
  refine CP.refr 26 [(0, .slice a1 n1 c1)] (by kernel_rfl) (by kernel_rfl) ?_
  intro ds
  have tot : Step (fun l => NoM l ∨ t ≤ l) g0 g0 := Step.refl _ _
  unfold F.coin_weigh at hs
  refine CP.seqR ?_
  refine WP.still 2 (by kernel_rfl) ?_
  refine WP.done (by kernel_rfl) ?_
  refine NX.then_n ?_
  refine CP.seqR ?_
  refine WP.still 1 (by kernel_rfl) ?_
  refine WP.done (by kernel_rfl) ?_
  refine NX.then_n ?_
  refine CP.seq ?_
  refine CP.seqR ?_
  refine WP.still 1 (by kernel_rfl) ?_
  refine WP.len (a := a1) (cp := c1) hR1.len (by kernel_rfl) ?_
  refine WP.still 1 (by kernel_rfl) ?_
  refine WP.done (by kernel_rfl) ?_
  refine NX.then_n ?_
  refine CP.block ?_
  generalize fuel = k1 at hs
  refine CP.loop (fun k1 tm g => ∃ (x1 : Int) (x2 : Int), Fr 26 [(4, .int .i64 x1), (7, .slice a1 n1 c1), (8, .int .i64 (l1.length : Int)), (9, .int .i64 x2)] tm ∧ Step (fun l => NoM l ∨ t ≤ l) g0 g ∧ RdS (Kd.int .i64) g 3 a1 n1 c1 l1 ∧ F.coin_weigh.l1 l1 k1 x1 x2 = some (o1, o2)) k1 ?_ ?_ ?_
  · exact ⟨0, 0, ⟨by kernel_rfl, by kernel_rfl⟩, tot, hR1, hs⟩
  · rintro tm g ⟨x1, x2, hF, tot, hR1, hs⟩
    exact absurd hs (by simp [F.coin_weigh.l1])
  clear tot hs hR1
  rintro k1 tm g ⟨x1, x2, hF, tot, hR1, hs⟩
  clear ds
  obtain ⟨ds, rfl⟩ := hF.open
  clear hF
  unfold F.coin_weigh.l1 at hs
  refine CP.seqR ?_
  refine WP.still 1 (by kernel_rfl) ?_
  refine WP.done (by kernel_rfl) ?_
  refine NX.then_n ?_
  refine CP.seq ?_
  refine CP.cond (b := decide (x2 < (l1.length : Int))) (by kernel_rfl) (fun h9 => ?_) (fun h9 => ?_)
  · replace hs := of_if_t hs h9
    refine CP.skip ?_
    refine NX.then_n ?_
    refine CP.seq ?_
    refine CP.block ?_
    refine CP.seqR ?_
    by_cases hc3 : 0 ≤ x2 ∧ x2 < (l1.length : Int)
    case neg => rw [if_neg hc3] at hs; cases hs
    replace hs := of_if_p hs hc3
    obtain ⟨b3, u3, ha3⟩ := hR1.at hc3
    refine WP.indexA (t := 24) (e := 3) (sz := 1) (cap := c1) (k := .i64) (i := x2) hR1.len ha3 (by kernel_rfl) (by kernel_rfl) hc3 ?_
    obtain ⟨cs3, hcR3, hcV3⟩ := hR1.src.view (getI_some hc3) ha3
    replace hcR3 := Kd.o_int hcR3
    refine WP.loadV [[.int .i64 (getI l1 x2)]] [1] hcV3 hcR3 rfl (f := 0) (ty := 3) (agg := false) (size := 1) (rs := [[.int .i64 (getI l1 x2)]]) (v := .int .i64 (getI l1 x2)) (by kernel_rfl) (by kernel_rfl) (by kernel_rfl) (by kernel_rfl) ?_
    refine WP.still 1 (by kernel_rfl) ?_
    refine WP.done (by kernel_rfl) ?_
    refine NX.then_n ?_
    refine CP.seq ?_
    refine CP.cut (fun tm g => ∃ (q3 : Bool), Fr 26 [(4, .int .i64 x1), (6, .int .i64 (getI l1 x2)), (7, .slice a1 n1 c1), (8, .int .i64 (l1.length : Int)), (9, .int .i64 x2), (18, .bool q3)] tm ∧ Step (fun l => NoM l ∨ t ≤ l) g0 g ∧ RdS (Kd.int .i64) g 3 a1 n1 c1 l1 ∧ (F.coin_weigh.c1 (F.coin_weigh.l1 l1 k1) l1 x1 x2 q3) = some (o1, o2)) ?_ ?_
    · refine CP.region ?_
      refine WP.still 3 (by kernel_rfl) ?_
      refine WP.guard 15 (b := decide ((getI l1 x2) < 0)) (by kernel_rfl) (fun h12 => ?_) (fun h12 => ?_)
      · replace hs := of_if_t hs h12
        refine WP.still 3 (by kernel_rfl) ?_
        refine WP.done (by kernel_rfl) ?_
        refine NX.post ?_
        exact ⟨true, ⟨by kernel_rfl, by kernel_rfl⟩, tot, hR1, hs⟩
      · replace hs := of_if_f hs h12
        refine WP.still 3 (by kernel_rfl) ?_
        refine WP.done (by kernel_rfl) ?_
        refine NX.post ?_
        exact ⟨decide ((getI l1 x2) > 1024), ⟨by kernel_rfl, by kernel_rfl⟩, tot, hR1, hs⟩
    · clear tot hs hR1
      rintro tm g ⟨q3, hF, tot, hR1, hs⟩
      clear ds
      obtain ⟨ds, rfl⟩ := hF.open
      clear hF
      unfold F.coin_weigh.c1 at hs
      refine CP.cond (b := q3) (by kernel_rfl) (fun h11 => ?_) (fun h11 => ?_)
      · replace hs := of_if_t hs h11
        refine CP.seqR ?_
        refine WP.still 2 (by kernel_rfl) ?_
        refine WP.done (by kernel_rfl) ?_
        refine NX.then_n ?_
        refine CP.ret ?_
        refine NX.then_r ?_
        refine NX.block_r ?_
        refine NX.then_r ?_
        refine NX.then_r ?_
        refine NX.block_r ?_
        refine NX.then_r ?_
        replace hs := Option.some.inj hs
        obtain ⟨rfl, rfl⟩ := Prod.mk.inj hs
        exact NX.fin (v := .tuple #[.int .i64 0, .int .i64 2]) (Res.still (by kernel_rfl)) tot htL rfl
      · replace hs := of_if_f hs h11
        refine CP.skip ?_
        refine NX.then_n ?_
        refine CP.region ?_
        refine WP.still 4 (by kernel_rfl) ?_
        refine WP.done (by kernel_rfl) ?_
        refine NX.block_n ?_
        refine NX.then_n ?_
        refine CP.region ?_
        refine WP.still 2 (by kernel_rfl) ?_
        refine WP.done (by kernel_rfl) ?_
        refine NX.post ?_
        exact ⟨(IntKind.i64.wrap (x1 + (getI l1 x2))), (IntKind.i64.wrap (x2 + 1)), ⟨by kernel_rfl, by kernel_rfl⟩, tot, hR1, hs⟩
  · replace hs := of_if_f hs h9
    refine CP.exit ?_
    refine NX.then_e ?_
    refine NX.then_e ?_
    refine NX.block_s ?_
    refine NX.then_n ?_
    refine CP.seq ?_
    refine CP.seqR ?_
    refine WP.still 2 (by kernel_rfl) ?_
    refine WP.done (by kernel_rfl) ?_
    refine NX.then_n ?_
    refine CP.cond (b := (x1 == 0)) (by kernel_rfl) (fun h13 => ?_) (fun h13 => ?_)
    · replace hs := of_if_t hs h13
      refine CP.seqR ?_
      refine WP.still 2 (by kernel_rfl) ?_
      refine WP.done (by kernel_rfl) ?_
      refine NX.then_n ?_
      refine CP.ret ?_
      refine NX.then_r ?_
      replace hs := Option.some.inj hs
      obtain ⟨rfl, rfl⟩ := Prod.mk.inj hs
      exact NX.fin (v := .tuple #[.int .i64 0, .int .i64 1]) (Res.still (by kernel_rfl)) tot htL rfl
    · replace hs := of_if_f hs h13
      refine CP.skip ?_
      refine NX.then_n ?_
      refine CP.seqR ?_
      refine WP.still 3 (by kernel_rfl) ?_
      refine WP.done (by kernel_rfl) ?_
      refine NX.then_n ?_
      refine CP.ret ?_
      replace hs := Option.some.inj hs
      obtain ⟨rfl, rfl⟩ := Prod.mk.inj hs
      exact NX.fin (v := .tuple #[.int .i64 x1, .int .i64 0]) (Res.still (by kernel_rfl)) tot htL rfl
def F.coin_Split.c2 (l18 : List Int) : Option ((List Int) × Int) := (some (l18, 0))
def F.coin_Split.c3 (nx2 : Int → (List Int) → Int → Option ((List Int) × Int)) (x28 : Int) (x32 : Int) (l23 : List Int) : Option ((List Int) × Int) := (nx2 x32 l23 (IntKind.i64.wrap (x28 + 1)))
def F.coin_Split.l2 (l1 : List Int) : Nat → Int → (List Int) → Int → Option ((List Int) × Int)
  | 0, _, _, _ => none
  | k + 1, x27, l20, x28 => (if decide (x28 < (l1.length : Int)) = true then (if 0 ≤ x28 ∧ x28 < (l1.length : Int) then (if (x27 == 0) = true then (F.coin_Split.c2 l20) else (if ((getI l1 x28) == 0) = true then (F.coin_Split.c3 (F.coin_Split.l2 l1 k) x28 x27 l20) else (if 0 ≤ x28 ∧ x28 < (l20.length : Int) then (if 0 ≤ x28 ∧ x28 < (l20.length : Int) then (F.coin_Split.c3 (F.coin_Split.l2 l1 k) x28 (IntKind.i64.wrap (x27 - 1)) (setI l20 x28 (IntKind.i64.wrap ((getI l20 x28) + 1)))) else none) else none))) else none) else (F.coin_Split.c2 l20))
def F.coin_Split.l1 (x1 : Int) (l1 : List Int) (x2 : Int) : Nat → Int → (List Int) → Int → Option ((List Int) × Int)
  | 0, _, _, _ => none
  | k + 1, x10, l7, x11 => (if decide (x11 < (l1.length : Int)) = true then (if 0 ≤ x11 ∧ x11 < (l1.length : Int) then (if x2 ≠ 0 then (if 0 ≤ x11 ∧ x11 < (l7.length : Int) then (if 0 ≤ x11 ∧ x11 < ((setI l7 x11 (IntKind.i64.wrap ((IntKind.i64.wrap (x1 * (getI l1 x11))).tdiv x2))).length : Int) then (F.coin_Split.l1 x1 l1 x2 k (IntKind.i64.wrap (x10 - (getI (setI l7 x11 (IntKind.i64.wrap ((IntKind.i64.wrap (x1 * (getI l1 x11))).tdiv x2))) x11))) (setI l7 x11 (IntKind.i64.wrap ((IntKind.i64.wrap (x1 * (getI l1 x11))).tdiv x2))) (IntKind.i64.wrap (x11 + 1))) else none) else none) else none) else none) else (F.coin_Split.l2 l1 fuel x10 l7 0))
def F.coin_Split.c1 (x1 : Int) (l1 : List Int) (q2 : Bool) : Option ((List Int) × Int) := (if q2 = true then (some ([], 1)) else ((F.coin_weigh l1).bind fun (x2, x3) => (if (x3 != 0) = true then (some ([], x3)) else (if 0 ≤ (l1.length : Int) ∧ (l1.length : Int) ≤ 17592186044416 then (F.coin_Split.l1 x1 l1 x2 fuel x1 (List.replicate (l1.length : Int).toNat (0 : Int)) 0) else none))))
def F.coin_Split (x1 : Int) (l1 : List Int) : Option ((List Int) × Int) := ((F.coin_Right x1).bind fun q1 => (if (!q1) = true then (some ([], 2)) else (if ((l1.length : Int) == 0) = true then (F.coin_Split.c1 x1 l1 true) else (F.coin_Split.c1 x1 l1 (decide ((l1.length : Int) > 8))))))
theorem P.coin_Split (g0 : GW) (r0 : Nat) (x1 : Int) (l1 : List Int) (a1 : Option Addr) (n1 : Nat) (c1 : Nat) (hR1 : RdS (Kd.int .i64) g0 3 a1 n1 c1 l1) (o1 : List Int) (o2 : Int) (hs : F.coin_Split x1 l1 = some (o1, o2)) :
    Calls Try.prog 39 #[.int .i64 x1, .slice a1 n1 c1] g0.w (Ret NoM g0 fun v g => ∃ (a_1 : Option Addr) (n_1 : Nat) (c_1 : Nat), v = .tuple #[.slice a_1 n_1 c_1, .int .i64 o2] ∧ OwnS (Kd.int .i64) g r0 3 a_1 n_1 c_1 o1) := by
  refine calls_of (args := [.int .i64 x1, .slice a1 n1 c1]) Try.func39 rfl (0) ?_
  intro t ht htL
  refine ⟨_, rfl, ?_⟩
  refine CP.refr 84 [(0, .int .i64 x1), (1, .slice a1 n1 c1)] (by kernel_rfl) (by kernel_rfl) ?_
  intro ds
  have tot : Step (fun l => NoM l ∨ t ≤ l) g0 g0 := Step.refl _ _
  unfold F.coin_Split at hs
  refine CP.seqR ?_
  refine WP.still 2 (by kernel_rfl) ?_
  refine WP.done (by kernel_rfl) ?_
  refine NX.then_n ?_
  refine CP.scope ?_
  refine CP.seq ?_
  refine CP.block ?_
  refine CP.seqR ?_
  refine WP.still 1 (by kernel_rfl) ?_
  replace hs := Option.bind_eq_some_iff.1 hs
  obtain ⟨q1, hk1, hs⟩ := hs
  have hcal1 := P.coin_Right g0 x1 q1 hk1
  refine WP.callC hcal1 (by kernel_rfl) ?_
  rintro _ g1 st1 rfl
  replace hR1 := hR1.mono st1 (fun x => x)
  replace tot := tot.trans st1.pure
  refine WP.still 2 (by kernel_rfl) ?_
  refine WP.done (by kernel_rfl) ?_
  refine NX.then_n ?_
  refine CP.cond (b := (!q1)) (by kernel_rfl) (fun h1 => ?_) (fun h1 => ?_)
  · replace hs := of_if_t hs h1
    refine CP.seqR ?_
    refine WP.still 2 (by kernel_rfl) ?_
    refine WP.done (by kernel_rfl) ?_
    refine NX.then_n ?_
    refine CP.ret ?_
    refine NX.block_r ?_
    refine NX.then_r ?_
    refine NX.scope_r ?_
    replace hs := Option.some.inj hs
    obtain ⟨rfl, rfl⟩ := Prod.mk.inj hs
    exact NX.fin (v := .tuple #[.slice none 0 0, .int .i64 2]) (Res.still (by kernel_rfl)) tot htL ⟨none, 0, 0, rfl, (OwnS.nil _ _ _ _)⟩
  · replace hs := of_if_f hs h1
    refine CP.cut (fun tm g => ∃ (q2 : Bool), Fr 84 [(0, .int .i64 x1), (1, .slice a1 n1 c1), (18, .bool q2)] tm ∧ Step (fun l => NoM l ∨ t ≤ l) g0 g ∧ RdS (Kd.int .i64) g 3 a1 n1 c1 l1 ∧ (F.coin_Split.c1 x1 l1 q2) = some (o1, o2)) ?_ ?_
    · refine CP.region ?_
      refine WP.still 1 (by kernel_rfl) ?_
      refine WP.len (a := a1) (cp := c1) hR1.len (by kernel_rfl) ?_
      refine WP.still 2 (by kernel_rfl) ?_
      refine WP.guard 22 (b := ((l1.length : Int) == 0)) (by kernel_rfl) (fun h37 => ?_) (fun h37 => ?_)
      · replace hs := of_if_t hs h37
        refine WP.still 5 (by kernel_rfl) ?_
        refine WP.done (by kernel_rfl) ?_
        refine NX.post ?_
        exact ⟨true, ⟨by kernel_rfl, by kernel_rfl⟩, tot, hR1, hs⟩
      · replace hs := of_if_f hs h37
        refine WP.still 1 (by kernel_rfl) ?_
        refine WP.len (a := a1) (cp := c1) hR1.len (by kernel_rfl) ?_
        refine WP.still 3 (by kernel_rfl) ?_
        refine WP.done (by kernel_rfl) ?_
        refine NX.post ?_
        exact ⟨decide ((l1.length : Int) > 8), ⟨by kernel_rfl, by kernel_rfl⟩, tot, hR1, hs⟩
    · clear tot hs hR1
      rintro tm g ⟨q2, hF, tot, hR1, hs⟩
      clear ds
      obtain ⟨ds, rfl⟩ := hF.open
      clear hF
      unfold F.coin_Split.c1 at hs
      refine CP.cond (b := q2) (by kernel_rfl) (fun h3 => ?_) (fun h3 => ?_)
      · replace hs := of_if_t hs h3
        refine CP.seqR ?_
        refine WP.still 2 (by kernel_rfl) ?_
        refine WP.done (by kernel_rfl) ?_
        refine NX.then_n ?_
        refine CP.ret ?_
        refine NX.block_r ?_
        refine NX.then_r ?_
        refine NX.scope_r ?_
        replace hs := Option.some.inj hs
        obtain ⟨rfl, rfl⟩ := Prod.mk.inj hs
        exact NX.fin (v := .tuple #[.slice none 0 0, .int .i64 1]) (Res.still (by kernel_rfl)) tot htL ⟨none, 0, 0, rfl, (OwnS.nil _ _ _ _)⟩
      · replace hs := of_if_f hs h3
        refine CP.skip ?_
        refine NX.block_n ?_
        refine NX.then_n ?_
        refine CP.seqR ?_
        refine WP.still 1 (by kernel_rfl) ?_
        replace hs := Option.bind_eq_some_iff.1 hs
        obtain ⟨⟨x2, x3⟩, hk2, hs⟩ := hs
        dsimp only at hs
        have hcal2 := P.coin_weigh g l1 a1 n1 c1 hR1 x2 x3 hk2
        refine WP.callC hcal2 (by kernel_rfl) ?_
        rintro _ g2 st2 rfl
        replace hR1 := hR1.mono st2 (fun x => x)
        replace tot := tot.trans st2.pure
        refine WP.still 5 (by kernel_rfl) ?_
        refine WP.done (by kernel_rfl) ?_
        refine NX.then_n ?_
        refine CP.seq ?_
        refine CP.seqR ?_
        refine WP.still 2 (by kernel_rfl) ?_
        refine WP.done (by kernel_rfl) ?_
        refine NX.then_n ?_
        refine CP.cond (b := (x3 != 0)) (by kernel_rfl) (fun h4 => ?_) (fun h4 => ?_)
        · replace hs := of_if_t hs h4
          refine CP.seqR ?_
          refine WP.still 3 (by kernel_rfl) ?_
          refine WP.done (by kernel_rfl) ?_
          refine NX.then_n ?_
          refine CP.ret ?_
          refine NX.then_r ?_
          refine NX.scope_r ?_
          replace hs := Option.some.inj hs
          obtain ⟨rfl, rfl⟩ := Prod.mk.inj hs
          exact NX.fin (v := .tuple #[.slice none 0 0, .int .i64 x3]) (Res.still (by kernel_rfl)) tot htL ⟨none, 0, 0, rfl, (OwnS.nil _ _ _ _)⟩
        · replace hs := of_if_f hs h4
          refine CP.skip ?_
          refine NX.then_n ?_
          refine CP.seqR ?_
          refine WP.still 2 (by kernel_rfl) ?_
          refine WP.done (by kernel_rfl) ?_
          refine NX.then_n ?_
          refine CP.seqR ?_
          refine WP.still 1 (by kernel_rfl) ?_
          refine WP.len (a := a1) (cp := c1) hR1.len (by kernel_rfl) ?_
          by_cases hc1 : 0 ≤ (l1.length : Int) ∧ (l1.length : Int) ≤ 17592186044416
          case neg => rw [if_neg hc1] at hs; cases hs
          replace hs := of_if_p hs hc1
          refine WP.make (kd := (Kd.int .i64)) (t + 1) (t := 24) (e := 3) (bytes := 8) (kl := .i64) (kc := .i64) (i := (l1.length : Int)) (by kernel_rfl) (by kernel_rfl) (by omega) (by omega) (by omega) (z := 0) (by intro zv hz; cases hz; exact (by exact rfl)) ?_
          intro g3 a2 st3 hR2
          replace hR1 := hR1.mono st3 (fun x => x)
          replace tot := tot.trans st3.pure
          refine WP.still 1 (by kernel_rfl) ?_
          refine WP.done (by kernel_rfl) ?_
          refine NX.then_n ?_
          refine CP.refr 84 [(0, .int .i64 x1), (1, .slice a1 n1 c1), (6, .int .i64 x2), (8, .int .i64 x1), (9, .slice a2 ((l1.length : Int).toNat) ((l1.length : Int).toNat))] (by kernel_rfl) (by kernel_rfl) ?_
          clear ds
          intro ds
          refine CP.seq ?_
          refine CP.seqR ?_
          refine WP.still 1 (by kernel_rfl) ?_
          refine WP.len (a := a1) (cp := c1) hR1.len (by kernel_rfl) ?_
          refine WP.still 1 (by kernel_rfl) ?_
          refine WP.done (by kernel_rfl) ?_
          refine NX.then_n ?_
          refine CP.block ?_
          generalize fuel = k1 at hs
          refine CP.loop (fun k1 tm g => ∃ (x10 : Int) (l7 : List Int) (a8 : Option Addr) (n7 : Nat) (c7 : Nat) (x11 : Int), Fr 84 [(0, .int .i64 x1), (1, .slice a1 n1 c1), (6, .int .i64 x2), (8, .int .i64 x10), (9, .slice a8 n7 c7), (39, .slice a1 n1 c1), (40, .int .i64 (l1.length : Int)), (41, .int .i64 x11)] tm ∧ Step (fun l => NoM l ∨ t ≤ l) g0 g ∧ RdS (Kd.int .i64) g 3 a1 n1 c1 l1 ∧ OwnS (Kd.int .i64) g (t + 1) 3 a8 n7 c7 l7 ∧ F.coin_Split.l1 x1 l1 x2 k1 x10 l7 x11 = some (o1, o2)) k1 ?_ ?_ ?_
          · exact ⟨x1, (List.replicate (l1.length : Int).toNat (0 : Int)), a2, (l1.length : Int).toNat, (l1.length : Int).toNat, 0, ⟨by kernel_rfl, by kernel_rfl⟩, tot, hR1, hR2, hs⟩
          · rintro tm g ⟨x10, l7, a8, n7, c7, x11, hF, tot, hR1, hR8, hs⟩
            exact absurd hs (by simp [F.coin_Split.l1])
          clear tot hs hR1 hR2
          rintro k1 tm g ⟨x10, l7, a8, n7, c7, x11, hF, tot, hR1, hR8, hs⟩
          clear ds
          obtain ⟨ds, rfl⟩ := hF.open
          clear hF
          unfold F.coin_Split.l1 at hs
          refine CP.seqR ?_
          refine WP.still 1 (by kernel_rfl) ?_
          refine WP.done (by kernel_rfl) ?_
          refine NX.then_n ?_
          refine CP.seq ?_
          refine CP.cond (b := decide (x11 < (l1.length : Int))) (by kernel_rfl) (fun h19 => ?_) (fun h19 => ?_)
          · replace hs := of_if_t hs h19
            refine CP.skip ?_
            refine NX.then_n ?_
            refine CP.seq ?_
            refine CP.block ?_
            refine CP.seqR ?_
            refine WP.still 1 (by kernel_rfl) ?_
            by_cases hc22 : 0 ≤ x11 ∧ x11 < (l1.length : Int)
            case neg => rw [if_neg hc22] at hs; cases hs
            replace hs := of_if_p hs hc22
            obtain ⟨b19, u19, ha19⟩ := hR1.at hc22
            refine WP.indexA (t := 24) (e := 3) (sz := 1) (cap := c1) (k := .i64) (i := x11) hR1.len ha19 (by kernel_rfl) (by kernel_rfl) hc22 ?_
            obtain ⟨cs13, hcR13, hcV13⟩ := hR1.src.view (getI_some hc22) ha19
            replace hcR13 := Kd.o_int hcR13
            refine WP.loadV [[.int .i64 (getI l1 x11)]] [1] hcV13 hcR13 rfl (f := 0) (ty := 3) (agg := false) (size := 1) (rs := [[.int .i64 (getI l1 x11)]]) (v := .int .i64 (getI l1 x11)) (by kernel_rfl) (by kernel_rfl) (by kernel_rfl) (by kernel_rfl) ?_
            refine WP.still 2 (by kernel_rfl) ?_
            refine WP.done (by kernel_rfl) ?_
            refine NX.then_n ?_
            refine CP.seqR ?_
            refine WP.still 6 (by kernel_rfl) ?_
            by_cases hc23 : x2 ≠ 0
            case neg => rw [if_neg hc23] at hs; cases hs
            replace hs := of_if_p hs hc23
            refine WP.quo (k := .i64) (x := (IntKind.i64.wrap (x1 * (getI l1 x11)))) (y := x2) (by kernel_rfl) hc23 ?_
            by_cases hc24 : 0 ≤ x11 ∧ x11 < (l7.length : Int)
            case neg => rw [if_neg hc24] at hs; cases hs
            replace hs := of_if_p hs hc24
            obtain ⟨b20, u20, ha20⟩ := hR8.at hc24
            refine WP.indexA (t := 24) (e := 3) (sz := 1) (cap := c7) (k := .i64) (i := x11) hR8.len ha20 (by kernel_rfl) (by kernel_rfl) hc24 ?_
            refine WP.storeO (ty := 3) (v := .int .i64 (IntKind.i64.wrap ((IntKind.i64.wrap (x1 * (getI l1 x11))).tdiv x2))) hR8 (by omega) (i := x11.toNat) (by first | omega | (simp only [setI_length] at *; omega)) ha20 (by kernel_rfl) (x := (IntKind.i64.wrap ((IntKind.i64.wrap (x1 * (getI l1 x11))).tdiv x2))) (by exact rfl) (by kernel_rfl) ?_
            intro g10 st10 hO7
            replace hR1 := hR1.mono st10 (WL.no1 (by omega))
            replace tot := tot.trans (st10.up1 (.inr (by omega)))
            clear hR8
            have hR8 : OwnS (Kd.int .i64) g10 (t + 1) 3 a8 n7 c7 (setI l7 x11 (IntKind.i64.wrap ((IntKind.i64.wrap (x1 * (getI l1 x11))).tdiv x2))) := hO7
            clear hO7
            refine WP.done (by kernel_rfl) ?_
            refine NX.then_n ?_
            refine CP.refr 84 [(0, .int .i64 x1), (1, .slice a1 n1 c1), (6, .int .i64 x2), (8, .int .i64 x10), (9, .slice a8 n7 c7), (10, .int .i64 x11), (39, .slice a1 n1 c1), (40, .int .i64 (l1.length : Int)), (41, .int .i64 x11)] (by kernel_rfl) (by kernel_rfl) ?_
            clear ds
            intro ds
            refine CP.region ?_
            refine WP.still 3 (by kernel_rfl) ?_
            by_cases hc25 : 0 ≤ x11 ∧ x11 < ((setI l7 x11 (IntKind.i64.wrap ((IntKind.i64.wrap (x1 * (getI l1 x11))).tdiv x2))).length : Int)
            case neg => rw [if_neg hc25] at hs; cases hs
            replace hs := of_if_p hs hc25
            obtain ⟨b21, u21, ha21⟩ := hR8.at (i := x11) (by first | exact hc25 | simpa only [setI_length] using hc25)
            refine WP.indexA (t := 24) (e := 3) (sz := 1) (cap := c7) (k := .i64) (i := x11) hR8.len ha21 (by kernel_rfl) (by kernel_rfl) hc25 ?_
            obtain ⟨cs14, hcR14, hcV14⟩ := hR8.src.view (getI_some hc25) ha21
            replace hcR14 := Kd.o_int hcR14
            refine WP.loadV [[.int .i64 (getI (setI l7 x11 (IntKind.i64.wrap ((IntKind.i64.wrap (x1 * (getI l1 x11))).tdiv x2))) x11)]] [1] hcV14 hcR14 rfl (f := 0) (ty := 3) (agg := false) (size := 1) (rs := [[.int .i64 (getI (setI l7 x11 (IntKind.i64.wrap ((IntKind.i64.wrap (x1 * (getI l1 x11))).tdiv x2))) x11)]]) (v := .int .i64 (getI (setI l7 x11 (IntKind.i64.wrap ((IntKind.i64.wrap (x1 * (getI l1 x11))).tdiv x2))) x11)) (by kernel_rfl) (by kernel_rfl) (by kernel_rfl) (by kernel_rfl) ?_
            refine WP.still 2 (by kernel_rfl) ?_
            refine WP.done (by kernel_rfl) ?_
            refine NX.block_n ?_
            refine NX.then_n ?_
            refine CP.region ?_
            refine WP.still 2 (by kernel_rfl) ?_
            refine WP.done (by kernel_rfl) ?_
            refine NX.post ?_
            exact ⟨(IntKind.i64.wrap (x10 - (getI (setI l7 x11 (IntKind.i64.wrap ((IntKind.i64.wrap (x1 * (getI l1 x11))).tdiv x2))) x11))), (setI l7 x11 (IntKind.i64.wrap ((IntKind.i64.wrap (x1 * (getI l1 x11))).tdiv x2))), a8, n7, c7, (IntKind.i64.wrap (x11 + 1)), ⟨by kernel_rfl, by kernel_rfl⟩, tot, hR1, hR8, hs⟩
          · replace hs := of_if_f hs h19
            refine CP.exit ?_
            refine NX.then_e ?_
            refine NX.then_e ?_
            refine NX.block_s ?_
            refine NX.then_n ?_
            refine CP.seq ?_
            refine CP.label ?_
            refine NX.then_n ?_
            refine CP.cut (fun tm g => ∃ (l18 : List Int) (a19 : Option Addr) (n18 : Nat) (c18 : Nat), Fr 84 [(9, .slice a19 n18 c18)] tm ∧ Step (fun l => NoM l ∨ t ≤ l) g0 g ∧ OwnS (Kd.int .i64) g (t + 1) 3 a19 n18 c18 l18 ∧ (F.coin_Split.c2 l18) = some (o1, o2)) ?_ ?_
            · refine CP.seqR ?_
              refine WP.still 1 (by kernel_rfl) ?_
              refine WP.len (a := a1) (cp := c1) hR1.len (by kernel_rfl) ?_
              refine WP.still 1 (by kernel_rfl) ?_
              refine WP.done (by kernel_rfl) ?_
              refine NX.then_n ?_
              refine CP.block ?_
              generalize fuel = k2 at hs
              refine CP.loop (fun k2 tm g => ∃ (x27 : Int) (l20 : List Int) (a21 : Option Addr) (n20 : Nat) (c20 : Nat) (x28 : Int), Fr 84 [(8, .int .i64 x27), (9, .slice a21 n20 c20), (61, .slice a1 n1 c1), (62, .int .i64 (l1.length : Int)), (63, .int .i64 x28)] tm ∧ Step (fun l => NoM l ∨ t ≤ l) g0 g ∧ OwnS (Kd.int .i64) g (t + 1) 3 a21 n20 c20 l20 ∧ RdS (Kd.int .i64) g 3 a1 n1 c1 l1 ∧ F.coin_Split.l2 l1 k2 x27 l20 x28 = some (o1, o2)) k2 ?_ ?_ ?_
              · exact ⟨x10, l7, a8, n7, c7, 0, ⟨by kernel_rfl, by kernel_rfl⟩, tot, hR8, hR1, hs⟩
              · rintro tm g ⟨x27, l20, a21, n20, c20, x28, hF, tot, hR21, hR1, hs⟩
                exact absurd hs (by simp [F.coin_Split.l2])
              clear tot hs hR8 hR1
              rintro k2 tm g ⟨x27, l20, a21, n20, c20, x28, hF, tot, hR21, hR1, hs⟩
              clear ds
              obtain ⟨ds, rfl⟩ := hF.open
              clear hF
              unfold F.coin_Split.l2 at hs
              refine CP.seqR ?_
              refine WP.still 1 (by kernel_rfl) ?_
              refine WP.done (by kernel_rfl) ?_
              refine NX.then_n ?_
              refine CP.seq ?_
              refine CP.cond (b := decide (x28 < (l1.length : Int))) (by kernel_rfl) (fun h32 => ?_) (fun h32 => ?_)
              · replace hs := of_if_t hs h32
                refine CP.skip ?_
                refine NX.then_n ?_
                refine CP.cut (fun tm g => ∃ (x32 : Int) (l23 : List Int) (a24 : Option Addr) (n23 : Nat) (c23 : Nat), Fr 84 [(8, .int .i64 x32), (9, .slice a24 n23 c23), (61, .slice a1 n1 c1), (62, .int .i64 (l1.length : Int)), (63, .int .i64 x28)] tm ∧ Step (fun l => NoM l ∨ t ≤ l) g0 g ∧ OwnS (Kd.int .i64) g (t + 1) 3 a24 n23 c23 l23 ∧ RdS (Kd.int .i64) g 3 a1 n1 c1 l1 ∧ (F.coin_Split.c3 (F.coin_Split.l2 l1 k2) x28 x32 l23) = some (o1, o2)) ?_ ?_
                · refine CP.block ?_
                  refine CP.seqR ?_
                  refine WP.still 1 (by kernel_rfl) ?_
                  by_cases hc41 : 0 ≤ x28 ∧ x28 < (l1.length : Int)
                  case neg => rw [if_neg hc41] at hs; cases hs
                  replace hs := of_if_p hs hc41
                  obtain ⟨b37, u37, ha37⟩ := hR1.at hc41
                  refine WP.indexA (t := 24) (e := 3) (sz := 1) (cap := c1) (k := .i64) (i := x28) hR1.len ha37 (by kernel_rfl) (by kernel_rfl) hc41 ?_
                  obtain ⟨cs25, hcR25, hcV25⟩ := hR1.src.view (getI_some hc41) ha37
                  replace hcR25 := Kd.o_int hcR25
                  refine WP.loadV [[.int .i64 (getI l1 x28)]] [1] hcV25 hcR25 rfl (f := 0) (ty := 3) (agg := false) (size := 1) (rs := [[.int .i64 (getI l1 x28)]]) (v := .int .i64 (getI l1 x28)) (by kernel_rfl) (by kernel_rfl) (by kernel_rfl) (by kernel_rfl) ?_
                  refine WP.still 2 (by kernel_rfl) ?_
                  refine WP.done (by kernel_rfl) ?_
                  refine NX.then_n ?_
                  refine CP.seq ?_
                  refine CP.block ?_
                  refine CP.seqR ?_
                  refine WP.still 3 (by kernel_rfl) ?_
                  refine WP.done (by kernel_rfl) ?_
                  refine NX.then_n ?_
                  refine CP.cond (b := (x27 == 0)) (by kernel_rfl) (fun h35 => ?_) (fun h35 => ?_)
                  · replace hs := of_if_t hs h35
                    refine CP.exit ?_
                    refine NX.block_o (by rfl) ?_
                    refine NX.then_e ?_
                    refine NX.block_o (by rfl) ?_
                    refine NX.then_e ?_
                    refine NX.then_e ?_
                    refine NX.block_s ?_
                    refine NX.post ?_
                    exact ⟨l20, a21, n20, c20, ⟨by kernel_rfl, by kernel_rfl⟩, tot, hR21, hs⟩
                  · replace hs := of_if_f hs h35
                    refine CP.seqR ?_
                    refine WP.still 3 (by kernel_rfl) ?_
                    refine WP.done (by kernel_rfl) ?_
                    refine NX.then_n ?_
                    refine CP.cond (b := ((getI l1 x28) == 0)) (by kernel_rfl) (fun h36 => ?_) (fun h36 => ?_)
                    · replace hs := of_if_t hs h36
                      refine CP.exit ?_
                      refine NX.block_o (by rfl) ?_
                      refine NX.then_e ?_
                      refine NX.block_s ?_
                      refine NX.post ?_
                      exact ⟨x27, l20, a21, n20, c20, ⟨by kernel_rfl, by kernel_rfl⟩, tot, hR21, hR1, hs⟩
                    · replace hs := of_if_f hs h36
                      refine CP.skip ?_
                      refine NX.block_n ?_
                      refine NX.then_n ?_
                      refine CP.seqR ?_
                      refine WP.still 2 (by kernel_rfl) ?_
                      by_cases hc42 : 0 ≤ x28 ∧ x28 < (l20.length : Int)
                      case neg => rw [if_neg hc42] at hs; cases hs
                      replace hs := of_if_p hs hc42
                      obtain ⟨b38, u38, ha38⟩ := hR21.at hc42
                      refine WP.indexA (t := 24) (e := 3) (sz := 1) (cap := c20) (k := .i64) (i := x28) hR21.len ha38 (by kernel_rfl) (by kernel_rfl) hc42 ?_
                      obtain ⟨cs26, hcR26, hcV26⟩ := hR21.src.view (getI_some hc42) ha38
                      replace hcR26 := Kd.o_int hcR26
                      refine WP.loadV [[.int .i64 (getI l20 x28)]] [1] hcV26 hcR26 rfl (f := 0) (ty := 3) (agg := false) (size := 1) (rs := [[.int .i64 (getI l20 x28)]]) (v := .int .i64 (getI l20 x28)) (by kernel_rfl) (by kernel_rfl) (by kernel_rfl) (by kernel_rfl) ?_
                      refine WP.still 1 (by kernel_rfl) ?_
                      by_cases hc43 : 0 ≤ x28 ∧ x28 < (l20.length : Int)
                      case neg => rw [if_neg hc43] at hs; cases hs
                      replace hs := of_if_p hs hc43
                      obtain ⟨b39, u39, ha39⟩ := hR21.at hc43
                      refine WP.indexA (t := 24) (e := 3) (sz := 1) (cap := c20) (k := .i64) (i := x28) hR21.len ha39 (by kernel_rfl) (by kernel_rfl) hc43 ?_
                      refine WP.storeO (ty := 3) (v := .int .i64 (IntKind.i64.wrap ((getI l20 x28) + 1))) hR21 (by omega) (i := x28.toNat) (by first | omega | (simp only [setI_length] at *; omega)) ha39 (by kernel_rfl) (x := (IntKind.i64.wrap ((getI l20 x28) + 1))) (by exact rfl) (by kernel_rfl) ?_
                      intro g17 st17 hO13
                      replace hR1 := hR1.mono st17 (WL.no1 (by omega))
                      replace tot := tot.trans (st17.up1 (.inr (by omega)))
                      clear hR21
                      have hR21 : OwnS (Kd.int .i64) g17 (t + 1) 3 a21 n20 c20 (setI l20 x28 (IntKind.i64.wrap ((getI l20 x28) + 1))) := hO13
                      clear hO13
                      refine WP.done (by kernel_rfl) ?_
                      refine NX.then_n ?_
                      refine CP.refr 84 [(8, .int .i64 x27), (9, .slice a21 n20 c20), (61, .slice a1 n1 c1), (62, .int .i64 (l1.length : Int)), (63, .int .i64 x28)] (by kernel_rfl) (by kernel_rfl) ?_
                      clear ds
                      intro ds
                      refine CP.region ?_
                      refine WP.still 3 (by kernel_rfl) ?_
                      refine WP.done (by kernel_rfl) ?_
                      refine NX.block_n ?_
                      refine NX.post ?_
                      exact ⟨(IntKind.i64.wrap (x27 - 1)), (setI l20 x28 (IntKind.i64.wrap ((getI l20 x28) + 1))), a21, n20, c20, ⟨by kernel_rfl, by kernel_rfl⟩, tot, hR21, hR1, hs⟩
                · clear tot hs hR21 hR1
                  rintro tm g ⟨x32, l23, a24, n23, c23, hF, tot, hR24, hR1, hs⟩
                  clear ds
                  obtain ⟨ds, rfl⟩ := hF.open
                  clear hF
                  unfold F.coin_Split.c3 at hs
                  refine CP.region ?_
                  refine WP.still 2 (by kernel_rfl) ?_
                  refine WP.done (by kernel_rfl) ?_
                  refine NX.post ?_
                  exact ⟨x32, l23, a24, n23, c23, (IntKind.i64.wrap (x28 + 1)), ⟨by kernel_rfl, by kernel_rfl⟩, tot, hR24, hR1, hs⟩
              · replace hs := of_if_f hs h32
                refine CP.exit ?_
                refine NX.then_e ?_
                refine NX.then_e ?_
                refine NX.block_s ?_
                refine NX.post ?_
                exact ⟨l20, a21, n20, c20, ⟨by kernel_rfl, by kernel_rfl⟩, tot, hR21, hs⟩
            · clear tot hs hR1 hR8
              rintro tm g ⟨l18, a19, n18, c18, hF, tot, hR19, hs⟩
              clear ds
              obtain ⟨ds, rfl⟩ := hF.open
              clear hF
              unfold F.coin_Split.c2 at hs
              refine CP.seqR ?_
              refine WP.still 3 (by kernel_rfl) ?_
              refine WP.done (by kernel_rfl) ?_
              refine NX.then_n ?_
              refine CP.ret ?_
              refine NX.scope_r ?_
              obtain ⟨g13, hw1, st13, hnew⟩ := hR19.relab (by omega) r0
              refine NX.regw hw1 ?_
              replace tot := tot.trans (st13.up1 (.inr (by omega)))
              clear hR19
              have hR19 := hnew
              clear hnew
              replace hs := Option.some.inj hs
              obtain ⟨rfl, rfl⟩ := Prod.mk.inj hs
              exact NX.fin (v := .tuple #[.slice a19 n18 c18, .int .i64 0]) (Res.still (by kernel_rfl)) tot htL ⟨a19, n18, c18, rfl, hR19⟩
def F.punish_Shares.c3 (nx1 : (List Int) → Int → Option ((List Int) × Int)) (x4 : Int) (l10 : List Int) : Option ((List Int) × Int) := (nx1 l10 (IntKind.i64.wrap (x4 + 1)))
def F.punish_Shares.c4 (nx1 : (List Int) → Int → Option ((List Int) × Int)) (l5 : List Int) (x4 : Int) (q9 : Bool) : Option ((List Int) × Int) := (if q9 = true then (if 0 ≤ x4 ∧ x4 < (l5.length : Int) then (F.punish_Shares.c3 nx1 x4 (setI l5 x4 1)) else none) else (F.punish_Shares.c3 nx1 x4 l5))
def F.punish_Shares.c5 (x1 : Int) (l11 : List Int) : Option ((List Int) × Int) := ((F.coin_Split x1 l11).bind fun (l12, x7) => (some (l12, x7)))
def F.punish_Shares.l1 (x1 : Int) (x2 : Int) (l1 : List Bool) : Nat → (List Int) → Int → Option ((List Int) × Int)
  | 0, _, _ => none
  | k + 1, l5, x4 => (if decide (x4 < (l1.length : Int)) = true then (if 0 ≤ x4 ∧ x4 < (l1.length : Int) then (if (x4 != x2) = true then (F.punish_Shares.c4 (F.punish_Shares.l1 x1 x2 l1 k) l5 x4 (!(getI l1 x4))) else (F.punish_Shares.c4 (F.punish_Shares.l1 x1 x2 l1 k) l5 x4 false)) else none) else ((F.slices_Contains_int_int l5 1).bind fun q11 => (if (!q11) = true then (if 0 ≤ x2 ∧ x2 < (l5.length : Int) then (F.punish_Shares.c5 x1 (setI l5 x2 1)) else none) else (F.punish_Shares.c5 x1 l5))))
def F.punish_Shares.c2 (x1 : Int) (x2 : Int) (l1 : List Bool) (q3 : Bool) : Option ((List Int) × Int) := (if q3 = true then (some ([], 28)) else (if 0 ≤ (l1.length : Int) ∧ (l1.length : Int) ≤ 17592186044416 then (F.punish_Shares.l1 x1 x2 l1 fuel (List.replicate (l1.length : Int).toNat (0 : Int)) 0) else none))
def F.punish_Shares.c1 (x1 : Int) (x2 : Int) (l1 : List Bool) (q2 : Bool) : Option ((List Int) × Int) := (if q2 = true then (some ([], 3)) else (if decide (x2 < 0) = true then (F.punish_Shares.c2 x1 x2 l1 true) else (F.punish_Shares.c2 x1 x2 l1 (decide (x2 ≥ (l1.length : Int))))))
def F.punish_Shares (x1 : Int) (x2 : Int) (l1 : List Bool) : Option ((List Int) × Int) := ((F.coin_Right x1).bind fun q1 => (if (!q1) = true then (some ([], 2)) else (if decide ((l1.length : Int) < 2) = true then (F.punish_Shares.c1 x1 x2 l1 true) else (F.punish_Shares.c1 x1 x2 l1 (decide ((l1.length : Int) > 8))))))
theorem P.punish_Shares (g0 : GW) (r0 : Nat) (x1 : Int) (x2 : Int) (l1 : List Bool) (a1 : Option Addr) (n1 : Nat) (c1 : Nat) (hR1 : RdS Kd.bool g0 4 a1 n1 c1 l1) (o1 : List Int) (o2 : Int) (hs : F.punish_Shares x1 x2 l1 = some (o1, o2)) :
    Calls Try.prog 10 #[.int .i64 x1, .int .i64 x2, .slice a1 n1 c1] g0.w (Ret NoM g0 fun v g => ∃ (a_1 : Option Addr) (n_1 : Nat) (c_1 : Nat), v = .tuple #[.slice a_1 n_1 c_1, .int .i64 o2] ∧ OwnS (Kd.int .i64) g r0 3 a_1 n_1 c_1 o1) := by
  refine calls_of (args := [.int .i64 x1, .int .i64 x2, .slice a1 n1 c1]) Try.func10 rfl (0) ?_
  intro t ht htL
  refine ⟨_, rfl, ?_⟩
  refine CP.refr 65 [(0, .int .i64 x1), (1, .int .i64 x2), (2, .slice a1 n1 c1)] (by kernel_rfl) (by kernel_rfl) ?_
  intro ds
  have tot : Step (fun l => NoM l ∨ t ≤ l) g0 g0 := Step.refl _ _
  unfold F.punish_Shares at hs
  refine CP.seqR ?_
  refine WP.still 2 (by kernel_rfl) ?_
  refine WP.done (by kernel_rfl) ?_
  refine NX.then_n ?_
  refine CP.seq ?_
  refine CP.block ?_
  refine CP.seqR ?_
  refine WP.still 1 (by kernel_rfl) ?_
  replace hs := Option.bind_eq_some_iff.1 hs
  obtain ⟨q1, hk1, hs⟩ := hs
  have hcal1 := P.coin_Right g0 x1 q1 hk1
  refine WP.callC hcal1 (by kernel_rfl) ?_
  rintro _ g1 st1 rfl
  replace hR1 := hR1.mono st1 (fun x => x)
  replace tot := tot.trans st1.pure
  refine WP.still 2 (by kernel_rfl) ?_
  refine WP.done (by kernel_rfl) ?_
  refine NX.then_n ?_
  refine CP.cond (b := (!q1)) (by kernel_rfl) (fun h1 => ?_) (fun h1 => ?_)
  · replace hs := of_if_t hs h1
    refine CP.seqR ?_
    refine WP.still 2 (by kernel_rfl) ?_
    refine WP.done (by kernel_rfl) ?_
    refine NX.then_n ?_
    refine CP.ret ?_
    refine NX.block_r ?_
    refine NX.then_r ?_
    replace hs := Option.some.inj hs
    obtain ⟨rfl, rfl⟩ := Prod.mk.inj hs
    exact NX.fin (v := .tuple #[.slice none 0 0, .int .i64 2]) (Res.still (by kernel_rfl)) tot htL ⟨none, 0, 0, rfl, (OwnS.nil _ _ _ _)⟩
  · replace hs := of_if_f hs h1
    refine CP.cut (fun tm g => ∃ (q2 : Bool), Fr 65 [(0, .int .i64 x1), (1, .int .i64 x2), (2, .slice a1 n1 c1), (15, .bool q2)] tm ∧ Step (fun l => NoM l ∨ t ≤ l) g0 g ∧ RdS Kd.bool g 4 a1 n1 c1 l1 ∧ (F.punish_Shares.c1 x1 x2 l1 q2) = some (o1, o2)) ?_ ?_
    · refine CP.region ?_
      refine WP.still 1 (by kernel_rfl) ?_
      refine WP.len (a := a1) (cp := c1) hR1.len (by kernel_rfl) ?_
      refine WP.still 2 (by kernel_rfl) ?_
      refine WP.guard 19 (b := decide ((l1.length : Int) < 2)) (by kernel_rfl) (fun h23 => ?_) (fun h23 => ?_)
      · replace hs := of_if_t hs h23
        refine WP.still 5 (by kernel_rfl) ?_
        refine WP.done (by kernel_rfl) ?_
        refine NX.post ?_
        exact ⟨true, ⟨by kernel_rfl, by kernel_rfl⟩, tot, hR1, hs⟩
      · replace hs := of_if_f hs h23
        refine WP.still 1 (by kernel_rfl) ?_
        refine WP.len (a := a1) (cp := c1) hR1.len (by kernel_rfl) ?_
        refine WP.still 3 (by kernel_rfl) ?_
        refine WP.done (by kernel_rfl) ?_
        refine NX.post ?_
        exact ⟨decide ((l1.length : Int) > 8), ⟨by kernel_rfl, by kernel_rfl⟩, tot, hR1, hs⟩
    · clear tot hs hR1
      rintro tm g ⟨q2, hF, tot, hR1, hs⟩
      clear ds
      obtain ⟨ds, rfl⟩ := hF.open
      clear hF
      unfold F.punish_Shares.c1 at hs
      refine CP.cond (b := q2) (by kernel_rfl) (fun h3 => ?_) (fun h3 => ?_)
      · replace hs := of_if_t hs h3
        refine CP.seqR ?_
        refine WP.still 2 (by kernel_rfl) ?_
        refine WP.done (by kernel_rfl) ?_
        refine NX.then_n ?_
        refine CP.ret ?_
        refine NX.block_r ?_
        refine NX.then_r ?_
        replace hs := Option.some.inj hs
        obtain ⟨rfl, rfl⟩ := Prod.mk.inj hs
        exact NX.fin (v := .tuple #[.slice none 0 0, .int .i64 3]) (Res.still (by kernel_rfl)) tot htL ⟨none, 0, 0, rfl, (OwnS.nil _ _ _ _)⟩
      · replace hs := of_if_f hs h3
        refine CP.cut (fun tm g => ∃ (q3 : Bool), Fr 65 [(0, .int .i64 x1), (1, .int .i64 x2), (2, .slice a1 n1 c1), (24, .bool q3)] tm ∧ Step (fun l => NoM l ∨ t ≤ l) g0 g ∧ RdS Kd.bool g 4 a1 n1 c1 l1 ∧ (F.punish_Shares.c2 x1 x2 l1 q3) = some (o1, o2)) ?_ ?_
        · refine CP.region ?_
          refine WP.still 3 (by kernel_rfl) ?_
          refine WP.guard 27 (b := decide (x2 < 0)) (by kernel_rfl) (fun h22 => ?_) (fun h22 => ?_)
          · replace hs := of_if_t hs h22
            refine WP.still 6 (by kernel_rfl) ?_
            refine WP.done (by kernel_rfl) ?_
            refine NX.post ?_
            exact ⟨true, ⟨by kernel_rfl, by kernel_rfl⟩, tot, hR1, hs⟩
          · replace hs := of_if_f hs h22
            refine WP.still 2 (by kernel_rfl) ?_
            refine WP.len (a := a1) (cp := c1) hR1.len (by kernel_rfl) ?_
            refine WP.still 3 (by kernel_rfl) ?_
            refine WP.done (by kernel_rfl) ?_
            refine NX.post ?_
            exact ⟨decide (x2 ≥ (l1.length : Int)), ⟨by kernel_rfl, by kernel_rfl⟩, tot, hR1, hs⟩
        · clear tot hs hR1
          rintro tm g ⟨q3, hF, tot, hR1, hs⟩
          clear ds
          obtain ⟨ds, rfl⟩ := hF.open
          clear hF
          unfold F.punish_Shares.c2 at hs
          refine CP.cond (b := q3) (by kernel_rfl) (fun h5 => ?_) (fun h5 => ?_)
          · replace hs := of_if_t hs h5
            refine CP.seqR ?_
            refine WP.still 2 (by kernel_rfl) ?_
            refine WP.done (by kernel_rfl) ?_
            refine NX.then_n ?_
            refine CP.ret ?_
            refine NX.block_r ?_
            refine NX.then_r ?_
            replace hs := Option.some.inj hs
            obtain ⟨rfl, rfl⟩ := Prod.mk.inj hs
            exact NX.fin (v := .tuple #[.slice none 0 0, .int .i64 28]) (Res.still (by kernel_rfl)) tot htL ⟨none, 0, 0, rfl, (OwnS.nil _ _ _ _)⟩
          · replace hs := of_if_f hs h5
            refine CP.skip ?_
            refine NX.block_n ?_
            refine NX.then_n ?_
            refine CP.seqR ?_
            refine WP.still 1 (by kernel_rfl) ?_
            refine WP.len (a := a1) (cp := c1) hR1.len (by kernel_rfl) ?_
            by_cases hc1 : 0 ≤ (l1.length : Int) ∧ (l1.length : Int) ≤ 17592186044416
            case neg => rw [if_neg hc1] at hs; cases hs
            replace hs := of_if_p hs hc1
            refine WP.make (kd := (Kd.int .i64)) (t + 1) (t := 24) (e := 3) (bytes := 8) (kl := .i64) (kc := .i64) (i := (l1.length : Int)) (by kernel_rfl) (by kernel_rfl) (by omega) (by omega) (by omega) (z := 0) (by intro zv hz; cases hz; exact (by exact rfl)) ?_
            intro g2 a2 st2 hR2
            replace hR1 := hR1.mono st2 (fun x => x)
            replace tot := tot.trans st2.pure
            refine WP.still 1 (by kernel_rfl) ?_
            refine WP.done (by kernel_rfl) ?_
            refine NX.then_n ?_
            refine CP.seq ?_
            refine CP.seqR ?_
            refine WP.still 1 (by kernel_rfl) ?_
            refine WP.len (a := a1) (cp := c1) hR1.len (by kernel_rfl) ?_
            refine WP.still 1 (by kernel_rfl) ?_
            refine WP.done (by kernel_rfl) ?_
            refine NX.then_n ?_
            refine CP.block ?_
            generalize fuel = k1 at hs
            refine CP.loop (fun k1 tm g => ∃ (l5 : List Int) (a6 : Option Addr) (n5 : Nat) (c5 : Nat) (x4 : Int), Fr 65 [(0, .int .i64 x1), (1, .int .i64 x2), (8, .slice a6 n5 c5), (36, .slice a1 n1 c1), (37, .int .i64 (l1.length : Int)), (38, .int .i64 x4)] tm ∧ Step (fun l => NoM l ∨ t ≤ l) g0 g ∧ OwnS (Kd.int .i64) g (t + 1) 3 a6 n5 c5 l5 ∧ RdS Kd.bool g 4 a1 n1 c1 l1 ∧ F.punish_Shares.l1 x1 x2 l1 k1 l5 x4 = some (o1, o2)) k1 ?_ ?_ ?_
            · exact ⟨(List.replicate (l1.length : Int).toNat (0 : Int)), a2, (l1.length : Int).toNat, (l1.length : Int).toNat, 0, ⟨by kernel_rfl, by kernel_rfl⟩, tot, hR2, hR1, hs⟩
            · rintro tm g ⟨l5, a6, n5, c5, x4, hF, tot, hR6, hR1, hs⟩
              exact absurd hs (by simp [F.punish_Shares.l1])
            clear tot hs hR2 hR1
            rintro k1 tm g ⟨l5, a6, n5, c5, x4, hF, tot, hR6, hR1, hs⟩
            clear ds
            obtain ⟨ds, rfl⟩ := hF.open
            clear hF
            unfold F.punish_Shares.l1 at hs
            refine CP.seqR ?_
            refine WP.still 1 (by kernel_rfl) ?_
            refine WP.done (by kernel_rfl) ?_
            refine NX.then_n ?_
            refine CP.seq ?_
            refine CP.cond (b := decide (x4 < (l1.length : Int))) (by kernel_rfl) (fun h14 => ?_) (fun h14 => ?_)
            · replace hs := of_if_t hs h14
              refine CP.skip ?_
              refine NX.then_n ?_
              refine CP.cut (fun tm g => ∃ (l10 : List Int) (a11 : Option Addr) (n10 : Nat) (c10 : Nat), Fr 65 [(0, .int .i64 x1), (1, .int .i64 x2), (8, .slice a11 n10 c10), (36, .slice a1 n1 c1), (37, .int .i64 (l1.length : Int)), (38, .int .i64 x4)] tm ∧ Step (fun l => NoM l ∨ t ≤ l) g0 g ∧ OwnS (Kd.int .i64) g (t + 1) 3 a11 n10 c10 l10 ∧ RdS Kd.bool g 4 a1 n1 c1 l1 ∧ (F.punish_Shares.c3 (F.punish_Shares.l1 x1 x2 l1 k1) x4 l10) = some (o1, o2)) ?_ ?_
              · refine CP.block ?_
                refine CP.seqR ?_
                refine WP.still 1 (by kernel_rfl) ?_
                by_cases hc10 : 0 ≤ x4 ∧ x4 < (l1.length : Int)
                case neg => rw [if_neg hc10] at hs; cases hs
                replace hs := of_if_p hs hc10
                obtain ⟨b9, u9, ha9⟩ := hR1.at hc10
                refine WP.indexA (t := 22) (e := 4) (sz := 1) (cap := c1) (k := .i64) (i := x4) hR1.len ha9 (by kernel_rfl) (by kernel_rfl) hc10 ?_
                obtain ⟨cs4, hcR4, hcV4⟩ := hR1.src.view (getI_some hc10) ha9
                replace hcR4 := Kd.o_bool hcR4
                refine WP.loadV [[.bool (getI l1 x4)]] [1] hcV4 hcR4 rfl (f := 0) (ty := 4) (agg := false) (size := 1) (rs := [[.bool (getI l1 x4)]]) (v := .bool (getI l1 x4)) (by kernel_rfl) (by kernel_rfl) (by kernel_rfl) (by kernel_rfl) ?_
                refine WP.still 2 (by kernel_rfl) ?_
                refine WP.done (by kernel_rfl) ?_
                refine NX.then_n ?_
                refine CP.cut (fun tm g => ∃ (q9 : Bool), Fr 65 [(0, .int .i64 x1), (1, .int .i64 x2), (8, .slice a6 n5 c5), (9, .int .i64 x4), (36, .slice a1 n1 c1), (37, .int .i64 (l1.length : Int)), (38, .int .i64 x4), (49, .bool q9)] tm ∧ Step (fun l => NoM l ∨ t ≤ l) g0 g ∧ OwnS (Kd.int .i64) g (t + 1) 3 a6 n5 c5 l5 ∧ RdS Kd.bool g 4 a1 n1 c1 l1 ∧ (F.punish_Shares.c4 (F.punish_Shares.l1 x1 x2 l1 k1) l5 x4 q9) = some (o1, o2)) ?_ ?_
                · refine CP.region ?_
                  refine WP.still 4 (by kernel_rfl) ?_
                  refine WP.guard 46 (b := (x4 != x2)) (by kernel_rfl) (fun h19 => ?_) (fun h19 => ?_)
                  · replace hs := of_if_t hs h19
                    refine WP.still 3 (by kernel_rfl) ?_
                    refine WP.done (by kernel_rfl) ?_
                    refine NX.post ?_
                    exact ⟨(!(getI l1 x4)), ⟨by kernel_rfl, by kernel_rfl⟩, tot, hR6, hR1, hs⟩
                  · replace hs := of_if_f hs h19
                    refine WP.still 3 (by kernel_rfl) ?_
                    refine WP.done (by kernel_rfl) ?_
                    refine NX.post ?_
                    exact ⟨false, ⟨by kernel_rfl, by kernel_rfl⟩, tot, hR6, hR1, hs⟩
                · clear tot hs hR6 hR1
                  rintro tm g ⟨q9, hF, tot, hR6, hR1, hs⟩
                  clear ds
                  obtain ⟨ds, rfl⟩ := hF.open
                  clear hF
                  unfold F.punish_Shares.c4 at hs
                  refine CP.cond (b := q9) (by kernel_rfl) (fun h18 => ?_) (fun h18 => ?_)
                  · replace hs := of_if_t hs h18
                    refine CP.region ?_
                    refine WP.still 2 (by kernel_rfl) ?_
                    by_cases hc11 : 0 ≤ x4 ∧ x4 < (l5.length : Int)
                    case neg => rw [if_neg hc11] at hs; cases hs
                    replace hs := of_if_p hs hc11
                    obtain ⟨b10, u10, ha10⟩ := hR6.at hc11
                    refine WP.indexA (t := 24) (e := 3) (sz := 1) (cap := c5) (k := .i64) (i := x4) hR6.len ha10 (by kernel_rfl) (by kernel_rfl) hc11 ?_
                    refine WP.storeO (ty := 3) (v := .int .i64 1) hR6 (by omega) (i := x4.toNat) (by first | omega | (simp only [setI_length] at *; omega)) ha10 (by kernel_rfl) (x := 1) (by exact rfl) (by kernel_rfl) ?_
                    intro g16 st16 hO8
                    replace hR1 := hR1.mono st16 (WL.no1 (by omega))
                    replace tot := tot.trans (st16.up1 (.inr (by omega)))
                    clear hR6
                    have hR6 : OwnS (Kd.int .i64) g16 (t + 1) 3 a6 n5 c5 (setI l5 x4 1) := hO8
                    clear hO8
                    refine WP.done (by kernel_rfl) ?_
                    refine NX.block_n ?_
                    refine NX.post ?_
                    exact ⟨(setI l5 x4 1), a6, n5, c5, ⟨by kernel_rfl, by kernel_rfl⟩, tot, hR6, hR1, hs⟩
                  · replace hs := of_if_f hs h18
                    refine CP.skip ?_
                    refine NX.block_n ?_
                    refine NX.post ?_
                    exact ⟨l5, a6, n5, c5, ⟨by kernel_rfl, by kernel_rfl⟩, tot, hR6, hR1, hs⟩
              · clear tot hs hR6 hR1
                rintro tm g ⟨l10, a11, n10, c10, hF, tot, hR11, hR1, hs⟩
                clear ds
                obtain ⟨ds, rfl⟩ := hF.open
                clear hF
                unfold F.punish_Shares.c3 at hs
                refine CP.region ?_
                refine WP.still 2 (by kernel_rfl) ?_
                refine WP.done (by kernel_rfl) ?_
                refine NX.post ?_
                exact ⟨l10, a11, n10, c10, (IntKind.i64.wrap (x4 + 1)), ⟨by kernel_rfl, by kernel_rfl⟩, tot, hR11, hR1, hs⟩
            · replace hs := of_if_f hs h14
              refine CP.exit ?_
              refine NX.then_e ?_
              refine NX.then_e ?_
              refine NX.block_s ?_
              refine NX.then_n ?_
              refine CP.cut (fun tm g => ∃ (l11 : List Int) (a12 : Option Addr) (n11 : Nat) (c11 : Nat), Fr 65 [(0, .int .i64 x1), (8, .slice a12 n11 c11)] tm ∧ Step (fun l => NoM l ∨ t ≤ l) g0 g ∧ OwnS (Kd.int .i64) g (t + 1) 3 a12 n11 c11 l11 ∧ (F.punish_Shares.c5 x1 l11) = some (o1, o2)) ?_ ?_
              · refine CP.seqR ?_
                refine WP.still 1 (by kernel_rfl) ?_
                replace hs := Option.bind_eq_some_iff.1 hs
                obtain ⟨q11, hk8, hs⟩ := hs
                obtain ⟨gl4, hwl4, stl4, hRl4, back4⟩ := hR6.lend (by omega)
                refine WP.regw hwl4 ?_
                have hcal8 := P.slices_Contains_int_int gl4 l5 1 a6 n5 c5 hRl4 q11 hk8
                refine WP.callC hcal8 (by kernel_rfl) ?_
                rintro _ g23 st23 rfl
                obtain ⟨g24, hwl4', st24, hO11, sq4⟩ := back4 st23 (fun x => x)
                refine WP.regw hwl4' ?_
                replace st24 := st24.lent (ms := []) (fun _ hx => hx.elim)
                replace tot := tot.trans (st24.up1 (.inr (by omega)))
                clear hR6
                have hR6 : OwnS (Kd.int .i64) g24 (t + 1) 3 a6 n5 c5 l5 := hO11
                clear hO11
                refine WP.still 1 (by kernel_rfl) ?_
                refine WP.done (by kernel_rfl) ?_
                refine NX.then_n ?_
                refine CP.cond (b := (!q11)) (by kernel_rfl) (fun h21 => ?_) (fun h21 => ?_)
                · replace hs := of_if_t hs h21
                  refine CP.region ?_
                  refine WP.still 2 (by kernel_rfl) ?_
                  by_cases hc13 : 0 ≤ x2 ∧ x2 < (l5.length : Int)
                  case neg => rw [if_neg hc13] at hs; cases hs
                  replace hs := of_if_p hs hc13
                  obtain ⟨b12, u12, ha12⟩ := hR6.at hc13
                  refine WP.indexA (t := 24) (e := 3) (sz := 1) (cap := c5) (k := .i64) (i := x2) hR6.len ha12 (by kernel_rfl) (by kernel_rfl) hc13 ?_
                  refine WP.storeO (ty := 3) (v := .int .i64 1) hR6 (by omega) (i := x2.toNat) (by first | omega | (simp only [setI_length] at *; omega)) ha12 (by kernel_rfl) (x := 1) (by exact rfl) (by kernel_rfl) ?_
                  intro g25 st25 hO12
                  replace tot := tot.trans (st25.up1 (.inr (by omega)))
                  clear hR6
                  have hR6 : OwnS (Kd.int .i64) g25 (t + 1) 3 a6 n5 c5 (setI l5 x2 1) := hO12
                  clear hO12
                  refine WP.done (by kernel_rfl) ?_
                  refine NX.post ?_
                  exact ⟨(setI l5 x2 1), a6, n5, c5, ⟨by kernel_rfl, by kernel_rfl⟩, tot, hR6, hs⟩
                · replace hs := of_if_f hs h21
                  refine CP.skip ?_
                  refine NX.post ?_
                  exact ⟨l5, a6, n5, c5, ⟨by kernel_rfl, by kernel_rfl⟩, tot, hR6, hs⟩
              · clear tot hs hR6
                rintro tm g ⟨l11, a12, n11, c11, hF, tot, hR12, hs⟩
                clear ds
                obtain ⟨ds, rfl⟩ := hF.open
                clear hF
                unfold F.punish_Shares.c5 at hs
                refine CP.seqR ?_
                refine WP.still 2 (by kernel_rfl) ?_
                replace hs := Option.bind_eq_some_iff.1 hs
                obtain ⟨⟨l12, x7⟩, hk7, hs⟩ := hs
                dsimp only at hs
                obtain ⟨g21, hw3, st21, hnew⟩ := hR12.freeze (by omega)
                refine WP.regw hw3 ?_
                replace tot := tot.trans (st21.up1 (.inr (by omega)))
                clear hR12
                have hR12 := hnew
                clear hnew
                have hcal7 := P.coin_Split g21 (t + 4) x1 l11 a12 n11 c11 hR12 l12 x7 hk7
                refine WP.callC hcal7 (by kernel_rfl) ?_
                rintro _ g20 st20 ⟨a13, n12, c12, rfl, hR13⟩
                replace hR12 := hR12.mono st20 (fun x => x)
                replace tot := tot.trans st20.pure
                refine WP.still 4 (by kernel_rfl) ?_
                refine WP.done (by kernel_rfl) ?_
                refine NX.then_n ?_
                refine CP.ret ?_
                obtain ⟨g22, hw4, st22, hnew⟩ := hR13.relab (by omega) r0
                refine NX.regw hw4 ?_
                replace tot := tot.trans (st22.up1 (.inr (by omega)))
                clear hR13
                have hR13 := hnew
                clear hnew
                replace hs := Option.some.inj hs
                obtain ⟨rfl, rfl⟩ := Prod.mk.inj hs
                exact NX.fin (v := .tuple #[.slice a13 n12 c12, .int .i64 x7]) (Res.still (by kernel_rfl)) tot htL ⟨a13, n12, c12, rfl, hR13⟩
def F.baizeref34_Ints.l1 (l1 : List Int) (l2 : List Int) : Nat → Int → Option (Bool)
  | 0, _ => none
  | k + 1, x1 => (if decide (x1 < (l1.length : Int)) = true then (if 0 ≤ x1 ∧ x1 < (l1.length : Int) then (if 0 ≤ x1 ∧ x1 < (l2.length : Int) then (if ((getI l1 x1) != (getI l2 x1)) = true then (some false) else (F.baizeref34_Ints.l1 l1 l2 k (IntKind.i64.wrap (x1 + 1)))) else none) else none) else (some true))
def F.baizeref34_Ints (l1 : List Int) (l2 : List Int) : Option (Bool) := (if ((l1.length : Int) != (l2.length : Int)) = true then (some false) else (F.baizeref34_Ints.l1 l1 l2 fuel 0))
theorem P.baizeref34_Ints (g0 : GW) (l1 : List Int) (l2 : List Int) (a1 : Option Addr) (n1 : Nat) (c1 : Nat) (a2 : Option Addr) (n2 : Nat) (c2 : Nat) (hR1 : RdS (Kd.int .i64) g0 3 a1 n1 c1 l1) (hR2 : RdS (Kd.int .i64) g0 3 a2 n2 c2 l2) (o1 : Bool) (hs : F.baizeref34_Ints l1 l2 = some o1) :
    Calls Try.prog 12 #[.slice a1 n1 c1, .slice a2 n2 c2] g0.w (Ret NoM g0 fun v g => v = .bool o1) := by
  refine calls_of (args := [.slice a1 n1 c1, .slice a2 n2 c2]) Try.func12 rfl (0) ?_
  intro t ht htL
  refine ⟨_, rfl, ?_⟩
  refine CP.refr 26 [(0, .slice a1 n1 c1), (1, .slice a2 n2 c2)] (by kernel_rfl) (by kernel_rfl) ?_
  intro ds
  have tot : Step (fun l => NoM l ∨ t ≤ l) g0 g0 := Step.refl _ _
  unfold F.baizeref34_Ints at hs
  refine CP.seqR ?_
  refine WP.still 1 (by kernel_rfl) ?_
  refine WP.done (by kernel_rfl) ?_
  refine NX.then_n ?_
  refine CP.seq ?_
  refine CP.seqR ?_
  refine WP.still 1 (by kernel_rfl) ?_
  refine WP.len (a := a1) (cp := c1) hR1.len (by kernel_rfl) ?_
  refine WP.still 1 (by kernel_rfl) ?_
  refine WP.len (a := a2) (cp := c2) hR2.len (by kernel_rfl) ?_
  refine WP.still 1 (by kernel_rfl) ?_
  refine WP.done (by kernel_rfl) ?_
  refine NX.then_n ?_
  refine CP.cond (b := ((l1.length : Int) != (l2.length : Int))) (by kernel_rfl) (fun h1 => ?_) (fun h1 => ?_)
  · replace hs := of_if_t hs h1
    refine CP.seqR ?_
    refine WP.still 1 (by kernel_rfl) ?_
    refine WP.done (by kernel_rfl) ?_
    refine NX.then_n ?_
    refine CP.ret ?_
    refine NX.then_r ?_
    replace hs := Option.some.inj hs
    obtain rfl := hs
    exact NX.fin (v := .bool false) (Res.still (by kernel_rfl)) tot htL rfl
  · replace hs := of_if_f hs h1
    refine CP.skip ?_
    refine NX.then_n ?_
    refine CP.seq ?_
    refine CP.seqR ?_
    refine WP.still 1 (by kernel_rfl) ?_
    refine WP.done (by kernel_rfl) ?_
    refine NX.then_n ?_
    refine CP.block ?_
    generalize fuel = k1 at hs
    refine CP.loop (fun k1 tm g => ∃ (x1 : Int), Fr 26 [(0, .slice a1 n1 c1), (1, .slice a2 n2 c2), (5, .int .i64 x1)] tm ∧ Step (fun l => NoM l ∨ t ≤ l) g0 g ∧ RdS (Kd.int .i64) g 3 a1 n1 c1 l1 ∧ RdS (Kd.int .i64) g 3 a2 n2 c2 l2 ∧ F.baizeref34_Ints.l1 l1 l2 k1 x1 = some o1) k1 ?_ ?_ ?_
    · exact ⟨0, ⟨by kernel_rfl, by kernel_rfl⟩, tot, hR1, hR2, hs⟩
    · rintro tm g ⟨x1, hF, tot, hR1, hR2, hs⟩
      exact absurd hs (by simp [F.baizeref34_Ints.l1])
    clear tot hs hR1 hR2
    rintro k1 tm g ⟨x1, hF, tot, hR1, hR2, hs⟩
    clear ds
    obtain ⟨ds, rfl⟩ := hF.open
    clear hF
    unfold F.baizeref34_Ints.l1 at hs
    refine CP.seq ?_
    refine CP.seqR ?_
    refine WP.still 2 (by kernel_rfl) ?_
    refine WP.len (a := a1) (cp := c1) hR1.len (by kernel_rfl) ?_
    refine WP.still 1 (by kernel_rfl) ?_
    refine WP.done (by kernel_rfl) ?_
    refine NX.then_n ?_
    refine CP.cond (b := decide (x1 < (l1.length : Int))) (by kernel_rfl) (fun h6 => ?_) (fun h6 => ?_)
    · replace hs := of_if_t hs h6
      refine CP.skip ?_
      refine NX.then_n ?_
      refine CP.seq ?_
      refine CP.block ?_
      refine CP.seq ?_
      by_cases hc5 : 0 ≤ x1 ∧ x1 < (l1.length : Int)
      case neg => rw [if_neg hc5] at hs; cases hs
      replace hs := of_if_p hs hc5
      by_cases hc6 : 0 ≤ x1 ∧ x1 < (l2.length : Int)
      case neg => rw [if_neg hc6] at hs; cases hs
      replace hs := of_if_p hs hc6
      obtain ⟨b5, u5, ha5⟩ := hR1.at hc5
      obtain ⟨b6, u6, ha6⟩ := hR2.at hc6
      refine CP.drawL (by kernel_rfl) [2, 3, 6, 7] [[], [], [0, 1], [0, 1, 2], [], [], [4, 5], [4, 5, 6], [0, 1, 2, 3, 4, 5, 6, 7]] [⟨none, [], [], fun l g => RdS (Kd.int .i64) g 3 a1 n1 c1 l1⟩, ⟨none, [], [], fun l g => RdS (Kd.int .i64) g 3 a2 n2 c2 l2⟩, ⟨some 0, [], [0], fun l g => l.getD 0 undef = .pointer (some ⟨b5, u5 + x1.toNat * 1, none⟩)⟩, ⟨some 1, [], [1], fun l g => l.getD 0 undef = .int .i64 (getI l1 x1)⟩, ⟨some 2, [], [2], fun l g => l.getD 0 undef = .pointer (some ⟨b6, u6 + x1.toNat * 1, none⟩)⟩, ⟨some 3, [], [3], fun l g => l.getD 0 undef = .int .i64 (getI l2 x1)⟩] [[], [], [], []] [] [0, 1, 4, 5] [8] (by kernel_rfl) (by simp) (by simp) ⟨fun _ _ _ _ st h0 hl hj hR1 => (RdS.mono (e := 3) hR1 st h0), fun _ _ _ _ st h0 hl hj hR2 => (RdS.mono (e := 3) hR2 st h0), fun _ _ _ _ st h0 hl hj e => e, fun _ _ _ _ st h0 hl hj e => e, fun _ _ _ _ st h0 hl hj e => e, fun _ _ _ _ st h0 hl hj e => e, trivial⟩ ⟨hR1, hR2, trivial, trivial, trivial, trivial, trivial⟩ (by kernel_rfl) (fun vs => by kernel_rfl) ?_ ?_ ?_
      · intro j hj
        have hq : j = 0 := by have h : j < 1 := hj; omega
        rcases hq with rfl
        · intro vs g1 st1 hl hf
          replace hl : vs.length = 4 := hl
          obtain ⟨v0, vs0, rfl, hl0⟩ := len_succ hl
          obtain ⟨v1, vs1, rfl, hl1⟩ := len_succ hl0
          obtain ⟨v2, vs2, rfl, hl2⟩ := len_succ hl1
          obtain ⟨v3, vs3, rfl, hl3⟩ := len_succ hl2
          obtain rfl := len_zero hl3
          have e := (show v1 = .int .i64 (getI l1 x1) from hf _ (List.mem_of_getElem? (i := 3) rfl) (by kernel_rfl))
          subst e
          have e := (show v3 = .int .i64 (getI l2 x1) from hf _ (List.mem_of_getElem? (i := 5) rfl) (by kernel_rfl))
          subst e
          show Option.isSome _ = true
          kernel_rfl
      · intro j hj
        have hq : j = 0 ∨ j = 1 ∨ j = 2 ∨ j = 3 := by have h : j < 4 := hj; omega
        rcases hq with rfl | rfl | rfl | rfl
        · intro vs g1 st1 hl hf
          replace hl : vs.length = 4 := hl
          obtain ⟨v0, vs0, rfl, hl0⟩ := len_succ hl
          obtain ⟨v1, vs1, rfl, hl1⟩ := len_succ hl0
          obtain ⟨v2, vs2, rfl, hl2⟩ := len_succ hl1
          obtain ⟨v3, vs3, rfl, hl3⟩ := len_succ hl2
          obtain rfl := len_zero hl3
          have hR1 := (show RdS (Kd.int .i64) g1 3 a1 n1 c1 l1 from hf _ (List.mem_of_getElem? (i := 0) rfl) (by kernel_rfl))
          refine WP.indexA (t := 24) (e := 3) (sz := 1) (cap := c1) (k := .i64) (i := x1) hR1.len ha5 (by kernel_rfl) (by kernel_rfl) hc5 ?_
          refine WP.done (by kernel_rfl) (Shown.ok (v := .pointer (some ⟨b5, u5 + x1.toNat * 1, none⟩)) (by kernel_rfl) (Step.refl _ _) ?_)
          exact ⟨trivial, trivial, rfl, trivial, trivial, trivial, trivial⟩
        · intro vs g1 st1 hl hf
          replace hl : vs.length = 4 := hl
          obtain ⟨v0, vs0, rfl, hl0⟩ := len_succ hl
          obtain ⟨v1, vs1, rfl, hl1⟩ := len_succ hl0
          obtain ⟨v2, vs2, rfl, hl2⟩ := len_succ hl1
          obtain ⟨v3, vs3, rfl, hl3⟩ := len_succ hl2
          obtain rfl := len_zero hl3
          have hR1 := (show RdS (Kd.int .i64) g1 3 a1 n1 c1 l1 from hf _ (List.mem_of_getElem? (i := 0) rfl) (by kernel_rfl))
          have e := (show v0 = .pointer (some ⟨b5, u5 + x1.toNat * 1, none⟩) from hf _ (List.mem_of_getElem? (i := 2) rfl) (by kernel_rfl))
          subst e
          obtain ⟨cs5, hcR5, hcV5⟩ := hR1.src.view (getI_some hc5) ha5
          replace hcR5 := Kd.o_int hcR5
          refine WP.loadV [[.int .i64 (getI l1 x1)]] [1] hcV5 hcR5 rfl (f := 0) (ty := 3) (agg := false) (size := 1) (rs := [[.int .i64 (getI l1 x1)]]) (v := .int .i64 (getI l1 x1)) (by kernel_rfl) (by kernel_rfl) (by kernel_rfl) (by kernel_rfl) ?_
          refine WP.done (by kernel_rfl) (Shown.ok (v := .int .i64 (getI l1 x1)) (by kernel_rfl) (Step.refl _ _) ?_)
          exact ⟨trivial, trivial, trivial, rfl, trivial, trivial, trivial⟩
        · intro vs g1 st1 hl hf
          replace hl : vs.length = 4 := hl
          obtain ⟨v0, vs0, rfl, hl0⟩ := len_succ hl
          obtain ⟨v1, vs1, rfl, hl1⟩ := len_succ hl0
          obtain ⟨v2, vs2, rfl, hl2⟩ := len_succ hl1
          obtain ⟨v3, vs3, rfl, hl3⟩ := len_succ hl2
          obtain rfl := len_zero hl3
          have hR2 := (show RdS (Kd.int .i64) g1 3 a2 n2 c2 l2 from hf _ (List.mem_of_getElem? (i := 1) rfl) (by kernel_rfl))
          refine WP.indexA (t := 24) (e := 3) (sz := 1) (cap := c2) (k := .i64) (i := x1) hR2.len ha6 (by kernel_rfl) (by kernel_rfl) hc6 ?_
          refine WP.done (by kernel_rfl) (Shown.ok (v := .pointer (some ⟨b6, u6 + x1.toNat * 1, none⟩)) (by kernel_rfl) (Step.refl _ _) ?_)
          exact ⟨trivial, trivial, trivial, trivial, rfl, trivial, trivial⟩
        · intro vs g1 st1 hl hf
          replace hl : vs.length = 4 := hl
          obtain ⟨v0, vs0, rfl, hl0⟩ := len_succ hl
          obtain ⟨v1, vs1, rfl, hl1⟩ := len_succ hl0
          obtain ⟨v2, vs2, rfl, hl2⟩ := len_succ hl1
          obtain ⟨v3, vs3, rfl, hl3⟩ := len_succ hl2
          obtain rfl := len_zero hl3
          have hR2 := (show RdS (Kd.int .i64) g1 3 a2 n2 c2 l2 from hf _ (List.mem_of_getElem? (i := 1) rfl) (by kernel_rfl))
          have e := (show v2 = .pointer (some ⟨b6, u6 + x1.toNat * 1, none⟩) from hf _ (List.mem_of_getElem? (i := 4) rfl) (by kernel_rfl))
          subst e
          obtain ⟨cs6, hcR6, hcV6⟩ := hR2.src.view (getI_some hc6) ha6
          replace hcR6 := Kd.o_int hcR6
          refine WP.loadV [[.int .i64 (getI l2 x1)]] [1] hcV6 hcR6 rfl (f := 0) (ty := 3) (agg := false) (size := 1) (rs := [[.int .i64 (getI l2 x1)]]) (v := .int .i64 (getI l2 x1)) (by kernel_rfl) (by kernel_rfl) (by kernel_rfl) (by kernel_rfl) ?_
          refine WP.done (by kernel_rfl) (Shown.ok (v := .int .i64 (getI l2 x1)) (by kernel_rfl) (Step.refl _ _) ?_)
          exact ⟨trivial, trivial, trivial, trivial, trivial, rfl, trivial⟩
      · intro vs g1 st1 hl hf
        replace hl : vs.length = 4 := hl
        obtain ⟨v0, vs0, rfl, hl0⟩ := len_succ hl
        obtain ⟨v1, vs1, rfl, hl1⟩ := len_succ hl0
        obtain ⟨v2, vs2, rfl, hl2⟩ := len_succ hl1
        obtain ⟨v3, vs3, rfl, hl3⟩ := len_succ hl2
        obtain rfl := len_zero hl3
        have e := (show v1 = .int .i64 (getI l1 x1) from hf _ (List.mem_of_getElem? (i := 3) rfl) (by kernel_rfl))
        subst e
        have e := (show v3 = .int .i64 (getI l2 x1) from hf _ (List.mem_of_getElem? (i := 5) rfl) (by kernel_rfl))
        subst e
        replace hR1 := hR1.mono st1.toNo (fun x => x)
        replace hR2 := hR2.mono st1.toNo (fun x => x)
        replace tot := tot.trans st1.toNo.pure
        refine NX.then_n ?_
        refine CP.refr 26 [(0, .slice a1 n1 c1), (1, .slice a2 n2 c2), (5, .int .i64 x1), (25, .bool ((getI l1 x1) != (getI l2 x1)))] (by kernel_rfl) (by kernel_rfl) ?_
        clear ds
        intro ds
        refine CP.cond (b := ((getI l1 x1) != (getI l2 x1))) (by kernel_rfl) (fun h7 => ?_) (fun h7 => ?_)
        · replace hs := of_if_t hs h7
          refine CP.seqR ?_
          refine WP.still 1 (by kernel_rfl) ?_
          refine WP.done (by kernel_rfl) ?_
          refine NX.then_n ?_
          refine CP.ret ?_
          refine NX.block_r ?_
          refine NX.then_r ?_
          refine NX.then_r ?_
          refine NX.block_r ?_
          refine NX.then_r ?_
          replace hs := Option.some.inj hs
          obtain rfl := hs
          exact NX.fin (v := .bool false) (Res.still (by kernel_rfl)) tot htL rfl
        · replace hs := of_if_f hs h7
          refine CP.skip ?_
          refine NX.block_n ?_
          refine NX.then_n ?_
          refine CP.region ?_
          refine WP.still 3 (by kernel_rfl) ?_
          refine WP.done (by kernel_rfl) ?_
          refine NX.post ?_
          exact ⟨(IntKind.i64.wrap (x1 + 1)), ⟨by kernel_rfl, by kernel_rfl⟩, tot, hR1, hR2, hs⟩
    · replace hs := of_if_f hs h6
      refine CP.exit ?_
      refine NX.then_e ?_
      refine NX.then_e ?_
      refine NX.block_s ?_
      refine NX.then_n ?_
      refine CP.seqR ?_
      refine WP.still 1 (by kernel_rfl) ?_
      refine WP.done (by kernel_rfl) ?_
      refine NX.then_n ?_
      refine CP.ret ?_
      replace hs := Option.some.inj hs
      obtain rfl := hs
      exact NX.fin (v := .bool true) (Res.still (by kernel_rfl)) tot htL rfl
def F.baizelaw34_known.c1 (q4 : Bool) : Option (Bool) := (some q4)
def F.baizelaw34_known : Option (Bool) := ((F.punish_Shares 7 1 ([false, false, false])).bind fun (l1, x1) => ((F.punish_Shares 7 1 ([true, false, false])).bind fun (l2, x2) => ((F.punish_Shares 7 1 ([true, false, true])).bind fun (l3, x3) => (if (x1 == 0) = true then (if (x2 == 0) = true then (if (x3 == 0) = true then ((F.baizeref34_Ints l1 ([4, 0, 3])).bind fun q5 => (if q5 = true then ((F.baizeref34_Ints l2 ([0, 0, 7])).bind fun q6 => (if q6 = true then ((F.baizeref34_Ints l3 ([0, 7, 0])).bind fun q7 => (F.baizelaw34_known.c1 q7)) else (F.baizelaw34_known.c1 false))) else (F.baizelaw34_known.c1 false))) else (F.baizelaw34_known.c1 false)) else (F.baizelaw34_known.c1 false)) else (F.baizelaw34_known.c1 false)))))
theorem P.baizelaw34_known (g0 : GW) (o1 : Bool) (hs : F.baizelaw34_known = some o1) :
    Calls Try.prog 9 #[] g0.w (Ret NoM g0 fun v g => v = .bool o1) := by
  refine calls_of (args := []) Try.func9 rfl (0) ?_
  intro t ht htL
  refine ⟨_, rfl, ?_⟩
  refine CP.refr 47 [] (by kernel_rfl) (by kernel_rfl) ?_
  intro ds
  have tot : Step (fun l => NoM l ∨ t ≤ l) g0 g0 := Step.refl _ _
  unfold F.baizelaw34_known at hs
  refine CP.seqR ?_
  refine WP.still 1 (by kernel_rfl) ?_
  refine WP.done (by kernel_rfl) ?_
  refine NX.then_n ?_
  refine CP.seqR ?_
  refine WP.mkSl (kd := Kd.bool) (t := 22) (e := 4) (bytes := 1) (t + 1) [.bool false, .bool false, .bool false] [false, false, false] (by kernel_rfl) (by kernel_rfl) (Nat.le_of_ble_eq_true rfl) (Nat.le_of_ble_eq_true rfl) (all_cons rfl (all_cons rfl (all_cons rfl all_nil))) (⟨_, _, rfl, (by exact rfl), ⟨_, _, rfl, (by exact rfl), ⟨_, _, rfl, (by exact rfl), rfl⟩⟩⟩) rfl ?_
  intro g1 a1 st1 hR1
  replace tot := tot.trans st1.pure
  replace hs := Option.bind_eq_some_iff.1 hs
  obtain ⟨⟨l1, x1⟩, hk1, hs⟩ := hs
  dsimp only at hs
  obtain ⟨g3, hw1, st3, hnew⟩ := hR1.freeze (by omega)
  refine WP.regw hw1 ?_
  replace tot := tot.trans (st3.up1 (.inr (by omega)))
  clear hR1
  have hR1 := hnew
  clear hnew
  have hcal1 := P.punish_Shares g3 (t + 2) 7 1 ([false, false, false]) a1 3 3 hR1 l1 x1 hk1
  refine WP.callC hcal1 (by kernel_rfl) ?_
  rintro _ g2 st2 ⟨a2, n1, c1, rfl, hR2⟩
  replace hR1 := hR1.mono st2 (fun x => x)
  replace tot := tot.trans st2.pure
  refine WP.still 5 (by kernel_rfl) ?_
  refine WP.done (by kernel_rfl) ?_
  refine NX.then_n ?_
  refine CP.seqR ?_
  refine WP.mkSl (kd := Kd.bool) (t := 22) (e := 4) (bytes := 1) (t + 3) [.bool true, .bool false, .bool false] [true, false, false] (by kernel_rfl) (by kernel_rfl) (Nat.le_of_ble_eq_true rfl) (Nat.le_of_ble_eq_true rfl) (all_cons rfl (all_cons rfl (all_cons rfl all_nil))) (⟨_, _, rfl, (by exact rfl), ⟨_, _, rfl, (by exact rfl), ⟨_, _, rfl, (by exact rfl), rfl⟩⟩⟩) rfl ?_
  intro g4 a3 st4 hR3
  replace hR2 := hR2.mono st4 (fun x => x) (fun x => x)
  replace tot := tot.trans st4.pure
  replace hs := Option.bind_eq_some_iff.1 hs
  obtain ⟨⟨l2, x2⟩, hk2, hs⟩ := hs
  dsimp only at hs
  obtain ⟨g6, hw2, st6, hnew⟩ := hR3.freeze (by omega)
  refine WP.regw hw2 ?_
  replace hR2 := hR2.mono st6 (WL.no1 (by omega)) (WL.no1 (by omega))
  replace tot := tot.trans (st6.up1 (.inr (by omega)))
  clear hR3
  have hR3 := hnew
  clear hnew
  have hcal2 := P.punish_Shares g6 (t + 4) 7 1 ([true, false, false]) a3 3 3 hR3 l2 x2 hk2
  refine WP.callC hcal2 (by kernel_rfl) ?_
  rintro _ g5 st5 ⟨a4, n2, c2, rfl, hR4⟩
  replace hR2 := hR2.mono st5 (fun x => x) (fun x => x)
  replace hR3 := hR3.mono st5 (fun x => x)
  replace tot := tot.trans st5.pure
  refine WP.still 5 (by kernel_rfl) ?_
  refine WP.done (by kernel_rfl) ?_
  refine NX.then_n ?_
  refine CP.refr 47 [(1, .slice a2 n1 c1), (2, .int .i64 x1), (3, .slice a4 n2 c2), (4, .int .i64 x2)] (by kernel_rfl) (by kernel_rfl) ?_
  clear ds
  intro ds
  refine CP.seqR ?_
  refine WP.mkSl (kd := Kd.bool) (t := 22) (e := 4) (bytes := 1) (t + 5) [.bool true, .bool false, .bool true] [true, false, true] (by kernel_rfl) (by kernel_rfl) (Nat.le_of_ble_eq_true rfl) (Nat.le_of_ble_eq_true rfl) (all_cons rfl (all_cons rfl (all_cons rfl all_nil))) (⟨_, _, rfl, (by exact rfl), ⟨_, _, rfl, (by exact rfl), ⟨_, _, rfl, (by exact rfl), rfl⟩⟩⟩) rfl ?_
  intro g7 a5 st7 hR5
  replace hR2 := hR2.mono st7 (fun x => x) (fun x => x)
  replace hR4 := hR4.mono st7 (fun x => x) (fun x => x)
  replace tot := tot.trans st7.pure
  replace hs := Option.bind_eq_some_iff.1 hs
  obtain ⟨⟨l3, x3⟩, hk3, hs⟩ := hs
  dsimp only at hs
  obtain ⟨g9, hw3, st9, hnew⟩ := hR5.freeze (by omega)
  refine WP.regw hw3 ?_
  replace hR2 := hR2.mono st9 (WL.no1 (by omega)) (WL.no1 (by omega))
  replace hR4 := hR4.mono st9 (WL.no1 (by omega)) (WL.no1 (by omega))
  replace tot := tot.trans (st9.up1 (.inr (by omega)))
  clear hR5
  have hR5 := hnew
  clear hnew
  have hcal3 := P.punish_Shares g9 (t + 6) 7 1 ([true, false, true]) a5 3 3 hR5 l3 x3 hk3
  refine WP.callC hcal3 (by kernel_rfl) ?_
  rintro _ g8 st8 ⟨a6, n3, c3, rfl, hR6⟩
  replace hR2 := hR2.mono st8 (fun x => x) (fun x => x)
  replace hR4 := hR4.mono st8 (fun x => x) (fun x => x)
  replace hR5 := hR5.mono st8 (fun x => x)
  replace tot := tot.trans st8.pure
  refine WP.still 5 (by kernel_rfl) ?_
  refine WP.done (by kernel_rfl) ?_
  refine NX.then_n ?_
  refine CP.cut (fun tm g => ∃ (q4 : Bool), Fr 47 [(0, .bool q4)] tm ∧ Step (fun l => NoM l ∨ t ≤ l) g0 g ∧ (F.baizelaw34_known.c1 q4) = some o1) ?_ ?_
  · refine CP.region ?_
    refine WP.still 3 (by kernel_rfl) ?_
    refine WP.guard 24 (b := (x1 == 0)) (by kernel_rfl) (fun h6 => ?_) (fun h6 => ?_)
    · replace hs := of_if_t hs h6
      refine WP.still 4 (by kernel_rfl) ?_
      refine WP.guard 28 (b := (x2 == 0)) (by kernel_rfl) (fun h7 => ?_) (fun h7 => ?_)
      · replace hs := of_if_t hs h7
        refine WP.still 4 (by kernel_rfl) ?_
        refine WP.guard 32 (b := (x3 == 0)) (by kernel_rfl) (fun h8 => ?_) (fun h8 => ?_)
        · replace hs := of_if_t hs h8
          refine WP.still 1 (by kernel_rfl) ?_
          refine WP.mkSl (kd := (Kd.int .i64)) (t := 24) (e := 3) (bytes := 8) (t + 10) [.int .i64 4, .int .i64 0, .int .i64 3] [4, 0, 3] (by kernel_rfl) (by kernel_rfl) (Nat.le_of_ble_eq_true rfl) (Nat.le_of_ble_eq_true rfl) (all_cons rfl (all_cons rfl (all_cons rfl all_nil))) (⟨_, _, rfl, (by exact rfl), ⟨_, _, rfl, (by exact rfl), ⟨_, _, rfl, (by exact rfl), rfl⟩⟩⟩) rfl ?_
          intro g22 a10 st22 hR10
          replace hR2 := hR2.mono st22 (fun x => x) (fun x => x)
          replace hR4 := hR4.mono st22 (fun x => x) (fun x => x)
          replace hR6 := hR6.mono st22 (fun x => x) (fun x => x)
          replace tot := tot.trans st22.pure
          replace hs := Option.bind_eq_some_iff.1 hs
          obtain ⟨q5, hk7, hs⟩ := hs
          obtain ⟨g25, hw7, st25, hnew⟩ := hR10.freeze (by omega)
          refine WP.regw hw7 ?_
          replace hR2 := hR2.mono st25 (WL.no1 (by omega)) (WL.no1 (by omega))
          replace hR4 := hR4.mono st25 (WL.no1 (by omega)) (WL.no1 (by omega))
          replace hR6 := hR6.mono st25 (WL.no1 (by omega)) (WL.no1 (by omega))
          replace tot := tot.trans (st25.up1 (.inr (by omega)))
          clear hR10
          have hR10 := hnew
          clear hnew
          obtain ⟨gl4, hwl4, stl4, hRl4, back4⟩ := hR2.lend (by omega)
          refine WP.regw hwl4 ?_
          have hcal7 := P.baizeref34_Ints gl4 l1 ([4, 0, 3]) a2 n1 c1 a10 3 3 hRl4 (hR10.mono stl4 (WL.no1 (by omega))) q5 hk7
          refine WP.callC hcal7 (by kernel_rfl) ?_
          rintro _ g23 st23 rfl
          obtain ⟨g24, hwl4', st24, hO4, sq4⟩ := back4 st23 (fun x => x)
          refine WP.regw hwl4' ?_
          replace st24 := st24.lent (ms := []) (fun _ hx => hx.elim)
          replace hR4 := hR4.mono st24 (WL.no1 (by omega)) (WL.no1 (by omega))
          replace hR6 := hR6.mono st24 (WL.no1 (by omega)) (WL.no1 (by omega))
          replace hR10 := hR10.mono st24 (WL.no1 (by omega))
          replace tot := tot.trans (st24.up1 (.inr (by omega)))
          clear hR2
          have hR2 : OwnS (Kd.int .i64) g24 (t + 2) 3 a2 n1 c1 l1 := hO4
          clear hO4
          refine WP.still 2 (by kernel_rfl) ?_
          refine WP.guard 37 (b := q5) (by kernel_rfl) (fun h9 => ?_) (fun h9 => ?_)
          · replace hs := of_if_t hs h9
            refine WP.still 1 (by kernel_rfl) ?_
            refine WP.mkSl (kd := (Kd.int .i64)) (t := 24) (e := 3) (bytes := 8) (t + 11) [.int .i64 0, .int .i64 0, .int .i64 7] [0, 0, 7] (by kernel_rfl) (by kernel_rfl) (Nat.le_of_ble_eq_true rfl) (Nat.le_of_ble_eq_true rfl) (all_cons rfl (all_cons rfl (all_cons rfl all_nil))) (⟨_, _, rfl, (by exact rfl), ⟨_, _, rfl, (by exact rfl), ⟨_, _, rfl, (by exact rfl), rfl⟩⟩⟩) rfl ?_
            intro g26 a11 st26 hR11
            replace hR2 := hR2.mono st26 (fun x => x) (fun x => x)
            replace hR4 := hR4.mono st26 (fun x => x) (fun x => x)
            replace hR6 := hR6.mono st26 (fun x => x) (fun x => x)
            replace hR10 := hR10.mono st26 (fun x => x)
            replace tot := tot.trans st26.pure
            replace hs := Option.bind_eq_some_iff.1 hs
            obtain ⟨q6, hk8, hs⟩ := hs
            obtain ⟨g29, hw8, st29, hnew⟩ := hR11.freeze (by omega)
            refine WP.regw hw8 ?_
            replace hR2 := hR2.mono st29 (WL.no1 (by omega)) (WL.no1 (by omega))
            replace hR4 := hR4.mono st29 (WL.no1 (by omega)) (WL.no1 (by omega))
            replace hR6 := hR6.mono st29 (WL.no1 (by omega)) (WL.no1 (by omega))
            replace hR10 := hR10.mono st29 (WL.no1 (by omega))
            replace tot := tot.trans (st29.up1 (.inr (by omega)))
            clear hR11
            have hR11 := hnew
            clear hnew
            obtain ⟨gl5, hwl5, stl5, hRl5, back5⟩ := hR4.lend (by omega)
            refine WP.regw hwl5 ?_
            have hcal8 := P.baizeref34_Ints gl5 l2 ([0, 0, 7]) a4 n2 c2 a11 3 3 hRl5 (hR11.mono stl5 (WL.no1 (by omega))) q6 hk8
            refine WP.callC hcal8 (by kernel_rfl) ?_
            rintro _ g27 st27 rfl
            obtain ⟨g28, hwl5', st28, hO5, sq5⟩ := back5 st27 (fun x => x)
            refine WP.regw hwl5' ?_
            replace st28 := st28.lent (ms := []) (fun _ hx => hx.elim)
            replace hR2 := hR2.mono st28 (WL.no1 (by omega)) (WL.no1 (by omega))
            replace hR6 := hR6.mono st28 (WL.no1 (by omega)) (WL.no1 (by omega))
            replace hR10 := hR10.mono st28 (WL.no1 (by omega))
            replace hR11 := hR11.mono st28 (WL.no1 (by omega))
            replace tot := tot.trans (st28.up1 (.inr (by omega)))
            clear hR4
            have hR4 : OwnS (Kd.int .i64) g28 (t + 4) 3 a4 n2 c2 l2 := hO5
            clear hO5
            refine WP.still 2 (by kernel_rfl) ?_
            refine WP.guard 42 (b := q6) (by kernel_rfl) (fun h10 => ?_) (fun h10 => ?_)
            · replace hs := of_if_t hs h10
              refine WP.still 1 (by kernel_rfl) ?_
              refine WP.mkSl (kd := (Kd.int .i64)) (t := 24) (e := 3) (bytes := 8) (t + 12) [.int .i64 0, .int .i64 7, .int .i64 0] [0, 7, 0] (by kernel_rfl) (by kernel_rfl) (Nat.le_of_ble_eq_true rfl) (Nat.le_of_ble_eq_true rfl) (all_cons rfl (all_cons rfl (all_cons rfl all_nil))) (⟨_, _, rfl, (by exact rfl), ⟨_, _, rfl, (by exact rfl), ⟨_, _, rfl, (by exact rfl), rfl⟩⟩⟩) rfl ?_
              intro g30 a12 st30 hR12
              replace hR2 := hR2.mono st30 (fun x => x) (fun x => x)
              replace hR4 := hR4.mono st30 (fun x => x) (fun x => x)
              replace hR6 := hR6.mono st30 (fun x => x) (fun x => x)
              replace hR10 := hR10.mono st30 (fun x => x)
              replace hR11 := hR11.mono st30 (fun x => x)
              replace tot := tot.trans st30.pure
              replace hs := Option.bind_eq_some_iff.1 hs
              obtain ⟨q7, hk9, hs⟩ := hs
              obtain ⟨g33, hw9, st33, hnew⟩ := hR12.freeze (by omega)
              refine WP.regw hw9 ?_
              replace hR2 := hR2.mono st33 (WL.no1 (by omega)) (WL.no1 (by omega))
              replace hR4 := hR4.mono st33 (WL.no1 (by omega)) (WL.no1 (by omega))
              replace hR6 := hR6.mono st33 (WL.no1 (by omega)) (WL.no1 (by omega))
              replace hR10 := hR10.mono st33 (WL.no1 (by omega))
              replace hR11 := hR11.mono st33 (WL.no1 (by omega))
              replace tot := tot.trans (st33.up1 (.inr (by omega)))
              clear hR12
              have hR12 := hnew
              clear hnew
              obtain ⟨gl6, hwl6, stl6, hRl6, back6⟩ := hR6.lend (by omega)
              refine WP.regw hwl6 ?_
              have hcal9 := P.baizeref34_Ints gl6 l3 ([0, 7, 0]) a6 n3 c3 a12 3 3 hRl6 (hR12.mono stl6 (WL.no1 (by omega))) q7 hk9
              refine WP.callC hcal9 (by kernel_rfl) ?_
              rintro _ g31 st31 rfl
              obtain ⟨g32, hwl6', st32, hO6, sq6⟩ := back6 st31 (fun x => x)
              refine WP.regw hwl6' ?_
              replace st32 := st32.lent (ms := []) (fun _ hx => hx.elim)
              replace hR2 := hR2.mono st32 (WL.no1 (by omega)) (WL.no1 (by omega))
              replace hR4 := hR4.mono st32 (WL.no1 (by omega)) (WL.no1 (by omega))
              replace hR10 := hR10.mono st32 (WL.no1 (by omega))
              replace hR11 := hR11.mono st32 (WL.no1 (by omega))
              replace hR12 := hR12.mono st32 (WL.no1 (by omega))
              replace tot := tot.trans (st32.up1 (.inr (by omega)))
              clear hR6
              have hR6 : OwnS (Kd.int .i64) g32 (t + 6) 3 a6 n3 c3 l3 := hO6
              clear hO6
              refine WP.still 2 (by kernel_rfl) ?_
              refine WP.done (by kernel_rfl) ?_
              refine NX.post ?_
              exact ⟨q7, ⟨by kernel_rfl, by kernel_rfl⟩, tot, hs⟩
            · replace hs := of_if_f hs h10
              refine WP.still 5 (by kernel_rfl) ?_
              refine WP.done (by kernel_rfl) ?_
              refine NX.post ?_
              exact ⟨false, ⟨by kernel_rfl, by kernel_rfl⟩, tot, hs⟩
          · replace hs := of_if_f hs h9
            refine WP.still 10 (by kernel_rfl) ?_
            refine WP.done (by kernel_rfl) ?_
            refine NX.post ?_
            exact ⟨false, ⟨by kernel_rfl, by kernel_rfl⟩, tot, hs⟩
        · replace hs := of_if_f hs h8
          refine WP.still 15 (by kernel_rfl) ?_
          refine WP.done (by kernel_rfl) ?_
          refine NX.post ?_
          exact ⟨false, ⟨by kernel_rfl, by kernel_rfl⟩, tot, hs⟩
      · replace hs := of_if_f hs h7
        refine WP.still 19 (by kernel_rfl) ?_
        refine WP.done (by kernel_rfl) ?_
        refine NX.post ?_
        exact ⟨false, ⟨by kernel_rfl, by kernel_rfl⟩, tot, hs⟩
    · replace hs := of_if_f hs h6
      refine WP.still 23 (by kernel_rfl) ?_
      refine WP.done (by kernel_rfl) ?_
      refine NX.post ?_
      exact ⟨false, ⟨by kernel_rfl, by kernel_rfl⟩, tot, hs⟩
  · clear tot hs hR2 hR4 hR6
    rintro tm g ⟨q4, hF, tot, hs⟩
    clear ds
    obtain ⟨ds, rfl⟩ := hF.open
    clear hF
    unfold F.baizelaw34_known.c1 at hs
    refine CP.ret ?_
    replace hs := Option.some.inj hs
    obtain rfl := hs
    exact NX.fin (v := .bool q4) (Res.still (by kernel_rfl)) tot htL rfl
def F.baizeref34_Shares.c4 (nx1 : Int → Int → Option ((List Int) × Int)) (x11 : Int) (x21 : Int) : Option ((List Int) × Int) := (nx1 x21 (IntKind.i64.wrap (x11 + 1)))
def F.baizeref34_Shares.c5 (nx1 : Int → Int → Option ((List Int) × Int)) (x10 : Int) (x11 : Int) (q11 : Bool) : Option ((List Int) × Int) := (if q11 = true then (F.baizeref34_Shares.c4 nx1 x11 (IntKind.i64.wrap (x10 + 1))) else (F.baizeref34_Shares.c4 nx1 x11 x10))
def F.baizeref34_Shares.c6 (nx2 : (List Int) → Int → Int → Option ((List Int) × Int)) (x24 : Int) (l14 : List Int) (x28 : Int) : Option ((List Int) × Int) := (nx2 l14 x28 (IntKind.i64.wrap (x24 + 1)))
def F.baizeref34_Shares.c7 (nx2 : (List Int) → Int → Int → Option ((List Int) × Int)) (x1 : Int) (x10 : Int) (l11 : List Int) (x23 : Int) (x24 : Int) (q15 : Bool) : Option ((List Int) × Int) := (if q15 = true then (F.baizeref34_Shares.c6 nx2 x24 l11 x23) else (if x10 ≠ 0 then (if 0 ≤ x24 ∧ x24 < (l11.length : Int) then (if decide (x23 > 0) = true then (if 0 ≤ x24 ∧ x24 < ((setI l11 x24 (IntKind.i64.wrap (x1.tdiv x10))).length : Int) then (if 0 ≤ x24 ∧ x24 < ((setI l11 x24 (IntKind.i64.wrap (x1.tdiv x10))).length : Int) then (F.baizeref34_Shares.c6 nx2 x24 (setI (setI l11 x24 (IntKind.i64.wrap (x1.tdiv x10))) x24 (IntKind.i64.wrap ((getI (setI l11 x24 (IntKind.i64.wrap (x1.tdiv x10))) x24) + 1))) (IntKind.i64.wrap (x23 - 1))) else none) else none) else (F.baizeref34_Shares.c6 nx2 x24 (setI l11 x24 (IntKind.i64.wrap (x1.tdiv x10))) x23)) else none) else none))
def F.baizeref34_Shares.l2 (x1 : Int) (x2 : Int) (l1 : List Bool) (x10 : Int) : Nat → (List Int) → Int → Int → Option ((List Int) × Int)
  | 0, _, _, _ => none
  | k + 1, l11, x23, x24 => (if decide (x24 < (l1.length : Int)) = true then (if (x24 == x2) = true then (F.baizeref34_Shares.c7 (F.baizeref34_Shares.l2 x1 x2 l1 x10 k) x1 x10 l11 x23 x24 true) else (if 0 ≤ x24 ∧ x24 < (l1.length : Int) then (F.baizeref34_Shares.c7 (F.baizeref34_Shares.l2 x1 x2 l1 x10 k) x1 x10 l11 x23 x24 (getI l1 x24)) else none)) else (some (l11, 0)))
def F.baizeref34_Shares.l1 (x1 : Int) (x2 : Int) (l1 : List Bool) : Nat → Int → Int → Option ((List Int) × Int)
  | 0, _, _ => none
  | k + 1, x10, x11 => (if decide (x11 < (l1.length : Int)) = true then (if (x11 != x2) = true then (if 0 ≤ x11 ∧ x11 < (l1.length : Int) then (F.baizeref34_Shares.c5 (F.baizeref34_Shares.l1 x1 x2 l1 k) x10 x11 (!(getI l1 x11))) else none) else (F.baizeref34_Shares.c5 (F.baizeref34_Shares.l1 x1 x2 l1 k) x10 x11 false)) else (if (x10 == 0) = true then (if 0 ≤ x2 ∧ x2 < ((List.replicate (l1.length : Int).toNat (0 : Int)).length : Int) then (some ((setI (List.replicate (l1.length : Int).toNat (0 : Int)) x2 x1), 0)) else none) else (if x10 ≠ 0 then (F.baizeref34_Shares.l2 x1 x2 l1 x10 fuel (List.replicate (l1.length : Int).toNat (0 : Int)) (x1.tmod x10) 0) else none)))
def F.baizeref34_Shares.c3 (x1 : Int) (x2 : Int) (l1 : List Bool) (q3 : Bool) : Option ((List Int) × Int) := (if q3 = true then (some ([], 28)) else (if 0 ≤ (l1.length : Int) ∧ (l1.length : Int) ≤ 17592186044416 then (F.baizeref34_Shares.l1 x1 x2 l1 fuel 0 0) else none))
def F.baizeref34_Shares.c2 (x1 : Int) (x2 : Int) (l1 : List Bool) (q2 : Bool) : Option ((List Int) × Int) := (if q2 = true then (some ([], 3)) else (if decide (x2 < 0) = true then (F.baizeref34_Shares.c3 x1 x2 l1 true) else (F.baizeref34_Shares.c3 x1 x2 l1 (decide (x2 ≥ (l1.length : Int))))))
def F.baizeref34_Shares.c1 (x1 : Int) (x2 : Int) (l1 : List Bool) (q1 : Bool) : Option ((List Int) × Int) := (if q1 = true then (some ([], 2)) else (if decide ((l1.length : Int) < 2) = true then (F.baizeref34_Shares.c2 x1 x2 l1 true) else (F.baizeref34_Shares.c2 x1 x2 l1 (decide ((l1.length : Int) > 8)))))
def F.baizeref34_Shares (x1 : Int) (x2 : Int) (l1 : List Bool) : Option ((List Int) × Int) := (if decide (x1 < 0) = true then (F.baizeref34_Shares.c1 x1 x2 l1 true) else (F.baizeref34_Shares.c1 x1 x2 l1 (decide (x1 > 1125899906842624))))
theorem P.baizeref34_Shares (g0 : GW) (r0 : Nat) (x1 : Int) (x2 : Int) (l1 : List Bool) (a1 : Option Addr) (n1 : Nat) (c1 : Nat) (hR1 : RdS Kd.bool g0 4 a1 n1 c1 l1) (o1 : List Int) (o2 : Int) (hs : F.baizeref34_Shares x1 x2 l1 = some (o1, o2)) :
    Calls Try.prog 11 #[.int .i64 x1, .int .i64 x2, .slice a1 n1 c1] g0.w (Ret NoM g0 fun v g => ∃ (a_1 : Option Addr) (n_1 : Nat) (c_1 : Nat), v = .tuple #[.slice a_1 n_1 c_1, .int .i64 o2] ∧ OwnS (Kd.int .i64) g r0 3 a_1 n_1 c_1 o1) := by
  refine calls_of (args := [.int .i64 x1, .int .i64 x2, .slice a1 n1 c1]) Try.func11 rfl (0) ?_
  intro t ht htL
  refine ⟨_, rfl, ?_⟩
  refine CP.refr 100 [(0, .int .i64 x1), (1, .int .i64 x2), (2, .slice a1 n1 c1)] (by kernel_rfl) (by kernel_rfl) ?_
  intro ds
  have tot : Step (fun l => NoM l ∨ t ≤ l) g0 g0 := Step.refl _ _
  unfold F.baizeref34_Shares at hs
  refine CP.seqR ?_
  refine WP.still 2 (by kernel_rfl) ?_
  refine WP.done (by kernel_rfl) ?_
  refine NX.then_n ?_
  refine CP.seq ?_
  refine CP.cut (fun tm g => ∃ (q1 : Bool), Fr 100 [(0, .int .i64 x1), (1, .int .i64 x2), (2, .slice a1 n1 c1), (18, .bool q1)] tm ∧ Step (fun l => NoM l ∨ t ≤ l) g0 g ∧ RdS Kd.bool g 4 a1 n1 c1 l1 ∧ (F.baizeref34_Shares.c1 x1 x2 l1 q1) = some (o1, o2)) ?_ ?_
  · refine CP.region ?_
    refine WP.still 3 (by kernel_rfl) ?_
    refine WP.guard 15 (b := decide (x1 < 0)) (by kernel_rfl) (fun h56 => ?_) (fun h56 => ?_)
    · replace hs := of_if_t hs h56
      refine WP.still 3 (by kernel_rfl) ?_
      refine WP.done (by kernel_rfl) ?_
      refine NX.post ?_
      exact ⟨true, ⟨by kernel_rfl, by kernel_rfl⟩, tot, hR1, hs⟩
    · replace hs := of_if_f hs h56
      refine WP.still 3 (by kernel_rfl) ?_
      refine WP.done (by kernel_rfl) ?_
      refine NX.post ?_
      exact ⟨decide (x1 > 1125899906842624), ⟨by kernel_rfl, by kernel_rfl⟩, tot, hR1, hs⟩
  · clear tot hs hR1
    rintro tm g ⟨q1, hF, tot, hR1, hs⟩
    clear ds
    obtain ⟨ds, rfl⟩ := hF.open
    clear hF
    unfold F.baizeref34_Shares.c1 at hs
    refine CP.cond (b := q1) (by kernel_rfl) (fun h2 => ?_) (fun h2 => ?_)
    · replace hs := of_if_t hs h2
      refine CP.seqR ?_
      refine WP.still 2 (by kernel_rfl) ?_
      refine WP.done (by kernel_rfl) ?_
      refine NX.then_n ?_
      refine CP.ret ?_
      refine NX.then_r ?_
      replace hs := Option.some.inj hs
      obtain ⟨rfl, rfl⟩ := Prod.mk.inj hs
      exact NX.fin (v := .tuple #[.slice none 0 0, .int .i64 2]) (Res.still (by kernel_rfl)) tot htL ⟨none, 0, 0, rfl, (OwnS.nil _ _ _ _)⟩
    · replace hs := of_if_f hs h2
      refine CP.skip ?_
      refine NX.then_n ?_
      refine CP.seq ?_
      refine CP.cut (fun tm g => ∃ (q2 : Bool), Fr 100 [(0, .int .i64 x1), (1, .int .i64 x2), (2, .slice a1 n1 c1), (26, .bool q2)] tm ∧ Step (fun l => NoM l ∨ t ≤ l) g0 g ∧ RdS Kd.bool g 4 a1 n1 c1 l1 ∧ (F.baizeref34_Shares.c2 x1 x2 l1 q2) = some (o1, o2)) ?_ ?_
      · refine CP.region ?_
        refine WP.still 1 (by kernel_rfl) ?_
        refine WP.len (a := a1) (cp := c1) hR1.len (by kernel_rfl) ?_
        refine WP.still 2 (by kernel_rfl) ?_
        refine WP.guard 22 (b := decide ((l1.length : Int) < 2)) (by kernel_rfl) (fun h55 => ?_) (fun h55 => ?_)
        · replace hs := of_if_t hs h55
          refine WP.still 4 (by kernel_rfl) ?_
          refine WP.done (by kernel_rfl) ?_
          refine NX.post ?_
          exact ⟨true, ⟨by kernel_rfl, by kernel_rfl⟩, tot, hR1, hs⟩
        · replace hs := of_if_f hs h55
          refine WP.still 1 (by kernel_rfl) ?_
          refine WP.len (a := a1) (cp := c1) hR1.len (by kernel_rfl) ?_
          refine WP.still 2 (by kernel_rfl) ?_
          refine WP.done (by kernel_rfl) ?_
          refine NX.post ?_
          exact ⟨decide ((l1.length : Int) > 8), ⟨by kernel_rfl, by kernel_rfl⟩, tot, hR1, hs⟩
      · clear tot hs hR1
        rintro tm g ⟨q2, hF, tot, hR1, hs⟩
        clear ds
        obtain ⟨ds, rfl⟩ := hF.open
        clear hF
        unfold F.baizeref34_Shares.c2 at hs
        refine CP.cond (b := q2) (by kernel_rfl) (fun h4 => ?_) (fun h4 => ?_)
        · replace hs := of_if_t hs h4
          refine CP.seqR ?_
          refine WP.still 2 (by kernel_rfl) ?_
          refine WP.done (by kernel_rfl) ?_
          refine NX.then_n ?_
          refine CP.ret ?_
          refine NX.then_r ?_
          replace hs := Option.some.inj hs
          obtain ⟨rfl, rfl⟩ := Prod.mk.inj hs
          exact NX.fin (v := .tuple #[.slice none 0 0, .int .i64 3]) (Res.still (by kernel_rfl)) tot htL ⟨none, 0, 0, rfl, (OwnS.nil _ _ _ _)⟩
        · replace hs := of_if_f hs h4
          refine CP.skip ?_
          refine NX.then_n ?_
          refine CP.seq ?_
          refine CP.cut (fun tm g => ∃ (q3 : Bool), Fr 100 [(0, .int .i64 x1), (1, .int .i64 x2), (2, .slice a1 n1 c1), (34, .bool q3)] tm ∧ Step (fun l => NoM l ∨ t ≤ l) g0 g ∧ RdS Kd.bool g 4 a1 n1 c1 l1 ∧ (F.baizeref34_Shares.c3 x1 x2 l1 q3) = some (o1, o2)) ?_ ?_
          · refine CP.region ?_
            refine WP.still 3 (by kernel_rfl) ?_
            refine WP.guard 29 (b := decide (x2 < 0)) (by kernel_rfl) (fun h54 => ?_) (fun h54 => ?_)
            · replace hs := of_if_t hs h54
              refine WP.still 5 (by kernel_rfl) ?_
              refine WP.done (by kernel_rfl) ?_
              refine NX.post ?_
              exact ⟨true, ⟨by kernel_rfl, by kernel_rfl⟩, tot, hR1, hs⟩
            · replace hs := of_if_f hs h54
              refine WP.still 2 (by kernel_rfl) ?_
              refine WP.len (a := a1) (cp := c1) hR1.len (by kernel_rfl) ?_
              refine WP.still 2 (by kernel_rfl) ?_
              refine WP.done (by kernel_rfl) ?_
              refine NX.post ?_
              exact ⟨decide (x2 ≥ (l1.length : Int)), ⟨by kernel_rfl, by kernel_rfl⟩, tot, hR1, hs⟩
          · clear tot hs hR1
            rintro tm g ⟨q3, hF, tot, hR1, hs⟩
            clear ds
            obtain ⟨ds, rfl⟩ := hF.open
            clear hF
            unfold F.baizeref34_Shares.c3 at hs
            refine CP.cond (b := q3) (by kernel_rfl) (fun h6 => ?_) (fun h6 => ?_)
            · replace hs := of_if_t hs h6
              refine CP.seqR ?_
              refine WP.still 2 (by kernel_rfl) ?_
              refine WP.done (by kernel_rfl) ?_
              refine NX.then_n ?_
              refine CP.ret ?_
              refine NX.then_r ?_
              replace hs := Option.some.inj hs
              obtain ⟨rfl, rfl⟩ := Prod.mk.inj hs
              exact NX.fin (v := .tuple #[.slice none 0 0, .int .i64 28]) (Res.still (by kernel_rfl)) tot htL ⟨none, 0, 0, rfl, (OwnS.nil _ _ _ _)⟩
            · replace hs := of_if_f hs h6
              refine CP.skip ?_
              refine NX.then_n ?_
              refine CP.seqR ?_
              refine WP.still 1 (by kernel_rfl) ?_
              refine WP.len (a := a1) (cp := c1) hR1.len (by kernel_rfl) ?_
              by_cases hc1 : 0 ≤ (l1.length : Int) ∧ (l1.length : Int) ≤ 17592186044416
              case neg => rw [if_neg hc1] at hs; cases hs
              replace hs := of_if_p hs hc1
              refine WP.make (kd := (Kd.int .i64)) (t + 1) (t := 24) (e := 3) (bytes := 8) (kl := .i64) (kc := .i64) (i := (l1.length : Int)) (by kernel_rfl) (by kernel_rfl) (by omega) (by omega) (by omega) (z := 0) (by intro zv hz; cases hz; exact (by exact rfl)) ?_
              intro g1 a2 st1 hR2
              replace hR1 := hR1.mono st1 (fun x => x)
              replace tot := tot.trans st1.pure
              refine WP.still 1 (by kernel_rfl) ?_
              refine WP.done (by kernel_rfl) ?_
              refine NX.then_n ?_
              refine CP.seqR ?_
              refine WP.still 1 (by kernel_rfl) ?_
              refine WP.done (by kernel_rfl) ?_
              refine NX.then_n ?_
              refine CP.seq ?_
              refine CP.seqR ?_
              refine WP.still 1 (by kernel_rfl) ?_
              refine WP.done (by kernel_rfl) ?_
              refine NX.then_n ?_
              refine CP.block ?_
              generalize fuel = k1 at hs
              refine CP.loop (fun k1 tm g => ∃ (x10 : Int) (x11 : Int), Fr 100 [(0, .int .i64 x1), (1, .int .i64 x2), (2, .slice a1 n1 c1), (8, .slice a2 ((l1.length : Int).toNat) ((l1.length : Int).toNat)), (9, .int .i64 x10), (10, .int .i64 x11)] tm ∧ Step (fun l => NoM l ∨ t ≤ l) g0 g ∧ RdS Kd.bool g 4 a1 n1 c1 l1 ∧ OwnS (Kd.int .i64) g (t + 1) 3 a2 ((l1.length : Int).toNat) ((l1.length : Int).toNat) (List.replicate (l1.length : Int).toNat (0 : Int)) ∧ F.baizeref34_Shares.l1 x1 x2 l1 k1 x10 x11 = some (o1, o2)) k1 ?_ ?_ ?_
              · exact ⟨0, 0, ⟨by kernel_rfl, by kernel_rfl⟩, tot, hR1, hR2, hs⟩
              · rintro tm g ⟨x10, x11, hF, tot, hR1, hR2, hs⟩
                exact absurd hs (by simp [F.baizeref34_Shares.l1])
              clear tot hs hR1 hR2
              rintro k1 tm g ⟨x10, x11, hF, tot, hR1, hR2, hs⟩
              clear ds
              obtain ⟨ds, rfl⟩ := hF.open
              clear hF
              unfold F.baizeref34_Shares.l1 at hs
              refine CP.seq ?_
              refine CP.seqR ?_
              refine WP.still 2 (by kernel_rfl) ?_
              refine WP.len (a := a1) (cp := c1) hR1.len (by kernel_rfl) ?_
              refine WP.still 1 (by kernel_rfl) ?_
              refine WP.done (by kernel_rfl) ?_
              refine NX.then_n ?_
              refine CP.cond (b := decide (x11 < (l1.length : Int))) (by kernel_rfl) (fun h31 => ?_) (fun h31 => ?_)
              · replace hs := of_if_t hs h31
                refine CP.skip ?_
                refine NX.then_n ?_
                refine CP.cut (fun tm g => ∃ (x21 : Int), Fr 100 [(0, .int .i64 x1), (1, .int .i64 x2), (2, .slice a1 n1 c1), (8, .slice a2 ((l1.length : Int).toNat) ((l1.length : Int).toNat)), (9, .int .i64 x21), (10, .int .i64 x11)] tm ∧ Step (fun l => NoM l ∨ t ≤ l) g0 g ∧ RdS Kd.bool g 4 a1 n1 c1 l1 ∧ OwnS (Kd.int .i64) g (t + 1) 3 a2 ((l1.length : Int).toNat) ((l1.length : Int).toNat) (List.replicate (l1.length : Int).toNat (0 : Int)) ∧ (F.baizeref34_Shares.c4 (F.baizeref34_Shares.l1 x1 x2 l1 k1) x11 x21) = some (o1, o2)) ?_ ?_
                · refine CP.block ?_
                  refine CP.cut (fun tm g => ∃ (q11 : Bool), Fr 100 [(0, .int .i64 x1), (1, .int .i64 x2), (2, .slice a1 n1 c1), (8, .slice a2 ((l1.length : Int).toNat) ((l1.length : Int).toNat)), (9, .int .i64 x10), (10, .int .i64 x11), (53, .bool q11)] tm ∧ Step (fun l => NoM l ∨ t ≤ l) g0 g ∧ RdS Kd.bool g 4 a1 n1 c1 l1 ∧ OwnS (Kd.int .i64) g (t + 1) 3 a2 ((l1.length : Int).toNat) ((l1.length : Int).toNat) (List.replicate (l1.length : Int).toNat (0 : Int)) ∧ (F.baizeref34_Shares.c5 (F.baizeref34_Shares.l1 x1 x2 l1 k1) x10 x11 q11) = some (o1, o2)) ?_ ?_
                  · refine CP.region ?_
                    refine WP.still 4 (by kernel_rfl) ?_
                    refine WP.guard 47 (b := (x11 != x2)) (by kernel_rfl) (fun h36 => ?_) (fun h36 => ?_)
                    · replace hs := of_if_t hs h36
                      refine WP.still 2 (by kernel_rfl) ?_
                      by_cases hc30 : 0 ≤ x11 ∧ x11 < (l1.length : Int)
                      case neg => rw [if_neg hc30] at hs; cases hs
                      replace hs := of_if_p hs hc30
                      obtain ⟨b23, u23, ha23⟩ := hR1.at hc30
                      refine WP.indexA (t := 22) (e := 4) (sz := 1) (cap := c1) (k := .i64) (i := x11) hR1.len ha23 (by kernel_rfl) (by kernel_rfl) hc30 ?_
                      obtain ⟨cs13, hcR13, hcV13⟩ := hR1.src.view (getI_some hc30) ha23
                      replace hcR13 := Kd.o_bool hcR13
                      refine WP.loadV [[.bool (getI l1 x11)]] [1] hcV13 hcR13 rfl (f := 0) (ty := 4) (agg := false) (size := 1) (rs := [[.bool (getI l1 x11)]]) (v := .bool (getI l1 x11)) (by kernel_rfl) (by kernel_rfl) (by kernel_rfl) (by kernel_rfl) ?_
                      refine WP.still 2 (by kernel_rfl) ?_
                      refine WP.done (by kernel_rfl) ?_
                      refine NX.post ?_
                      exact ⟨(!(getI l1 x11)), ⟨by kernel_rfl, by kernel_rfl⟩, tot, hR1, hR2, hs⟩
                    · replace hs := of_if_f hs h36
                      refine WP.still 6 (by kernel_rfl) ?_
                      refine WP.done (by kernel_rfl) ?_
                      refine NX.post ?_
                      exact ⟨false, ⟨by kernel_rfl, by kernel_rfl⟩, tot, hR1, hR2, hs⟩
                  · clear tot hs hR1 hR2
                    rintro tm g ⟨q11, hF, tot, hR1, hR2, hs⟩
                    clear ds
                    obtain ⟨ds, rfl⟩ := hF.open
                    clear hF
                    unfold F.baizeref34_Shares.c5 at hs
                    refine CP.cond (b := q11) (by kernel_rfl) (fun h35 => ?_) (fun h35 => ?_)
                    · replace hs := of_if_t hs h35
                      refine CP.region ?_
                      refine WP.still 3 (by kernel_rfl) ?_
                      refine WP.done (by kernel_rfl) ?_
                      refine NX.block_n ?_
                      refine NX.post ?_
                      exact ⟨(IntKind.i64.wrap (x10 + 1)), ⟨by kernel_rfl, by kernel_rfl⟩, tot, hR1, hR2, hs⟩
                    · replace hs := of_if_f hs h35
                      refine CP.skip ?_
                      refine NX.block_n ?_
                      refine NX.post ?_
                      exact ⟨x10, ⟨by kernel_rfl, by kernel_rfl⟩, tot, hR1, hR2, hs⟩
                · clear tot hs hR1 hR2
                  rintro tm g ⟨x21, hF, tot, hR1, hR2, hs⟩
                  clear ds
                  obtain ⟨ds, rfl⟩ := hF.open
                  clear hF
                  unfold F.baizeref34_Shares.c4 at hs
                  refine CP.region ?_
                  refine WP.still 3 (by kernel_rfl) ?_
                  refine WP.done (by kernel_rfl) ?_
                  refine NX.post ?_
                  exact ⟨x21, (IntKind.i64.wrap (x11 + 1)), ⟨by kernel_rfl, by kernel_rfl⟩, tot, hR1, hR2, hs⟩
              · replace hs := of_if_f hs h31
                refine CP.exit ?_
                refine NX.then_e ?_
                refine NX.then_e ?_
                refine NX.block_s ?_
                refine NX.then_n ?_
                refine CP.seq ?_
                refine CP.seqR ?_
                refine WP.still 2 (by kernel_rfl) ?_
                refine WP.done (by kernel_rfl) ?_
                refine NX.then_n ?_
                refine CP.cond (b := (x10 == 0)) (by kernel_rfl) (fun h37 => ?_) (fun h37 => ?_)
                · replace hs := of_if_t hs h37
                  refine CP.seqR ?_
                  refine WP.still 3 (by kernel_rfl) ?_
                  by_cases hc31 : 0 ≤ x2 ∧ x2 < ((List.replicate (l1.length : Int).toNat (0 : Int)).length : Int)
                  case neg => rw [if_neg hc31] at hs; cases hs
                  replace hs := of_if_p hs hc31
                  obtain ⟨b24, u24, ha24⟩ := hR2.at hc31
                  refine WP.indexA (t := 24) (e := 3) (sz := 1) (cap := (l1.length : Int).toNat) (k := .i64) (i := x2) hR2.len ha24 (by kernel_rfl) (by kernel_rfl) hc31 ?_
                  refine WP.storeO (ty := 3) (v := .int .i64 x1) hR2 (by omega) (i := x2.toNat) (by first | omega | (simp only [setI_length] at *; omega)) ha24 (by kernel_rfl) (x := x1) (by exact rfl) (by kernel_rfl) ?_
                  intro g12 st12 hO11
                  replace hR1 := hR1.mono st12 (WL.no1 (by omega))
                  replace tot := tot.trans (st12.up1 (.inr (by omega)))
                  clear hR2
                  have hR2 : OwnS (Kd.int .i64) g12 (t + 1) 3 a2 ((l1.length : Int).toNat) ((l1.length : Int).toNat) (setI (List.replicate (l1.length : Int).toNat (0 : Int)) x2 x1) := hO11
                  clear hO11
                  refine WP.done (by kernel_rfl) ?_
                  refine NX.then_n ?_
                  refine CP.seqR ?_
                  refine WP.still 3 (by kernel_rfl) ?_
                  refine WP.done (by kernel_rfl) ?_
                  refine NX.then_n ?_
                  refine CP.refr 100 [(6, .slice a2 ((l1.length : Int).toNat) ((l1.length : Int).toNat)), (7, .int .i64 0)] (by kernel_rfl) (by kernel_rfl) ?_
                  clear ds
                  intro ds
                  refine CP.ret ?_
                  refine NX.then_r ?_
                  obtain ⟨g13, hw1, st13, hnew⟩ := hR2.relab (by omega) r0
                  refine NX.regw hw1 ?_
                  replace tot := tot.trans (st13.up1 (.inr (by omega)))
                  clear hR2
                  have hR2 := hnew
                  clear hnew
                  replace hs := Option.some.inj hs
                  obtain ⟨rfl, rfl⟩ := Prod.mk.inj hs
                  exact NX.fin (v := .tuple #[.slice a2 ((l1.length : Int).toNat) ((l1.length : Int).toNat), .int .i64 0]) (Res.still (by kernel_rfl)) tot htL ⟨a2, (l1.length : Int).toNat, (l1.length : Int).toNat, rfl, hR2⟩
                · replace hs := of_if_f hs h37
                  refine CP.skip ?_
                  refine NX.then_n ?_
                  refine CP.seqR ?_
                  refine WP.still 2 (by kernel_rfl) ?_
                  by_cases hc32 : x10 ≠ 0
                  case neg => rw [if_neg hc32] at hs; cases hs
                  replace hs := of_if_p hs hc32
                  refine WP.rem (k := .i64) (x := x1) (y := x10) (by kernel_rfl) hc32 ?_
                  refine WP.still 1 (by kernel_rfl) ?_
                  refine WP.done (by kernel_rfl) ?_
                  refine NX.then_n ?_
                  refine CP.seq ?_
                  refine CP.seqR ?_
                  refine WP.still 1 (by kernel_rfl) ?_
                  refine WP.done (by kernel_rfl) ?_
                  refine NX.then_n ?_
                  refine CP.block ?_
                  generalize fuel = k2 at hs
                  refine CP.loop (fun k2 tm g => ∃ (l11 : List Int) (a12 : Option Addr) (n11 : Nat) (c11 : Nat) (x23 : Int) (x24 : Int), Fr 100 [(0, .int .i64 x1), (1, .int .i64 x2), (2, .slice a1 n1 c1), (8, .slice a12 n11 c11), (9, .int .i64 x10), (11, .int .i64 x23), (12, .int .i64 x24)] tm ∧ Step (fun l => NoM l ∨ t ≤ l) g0 g ∧ RdS Kd.bool g 4 a1 n1 c1 l1 ∧ OwnS (Kd.int .i64) g (t + 1) 3 a12 n11 c11 l11 ∧ F.baizeref34_Shares.l2 x1 x2 l1 x10 k2 l11 x23 x24 = some (o1, o2)) k2 ?_ ?_ ?_
                  · exact ⟨(List.replicate (l1.length : Int).toNat (0 : Int)), a2, (l1.length : Int).toNat, (l1.length : Int).toNat, (x1.tmod x10), 0, ⟨by kernel_rfl, by kernel_rfl⟩, tot, hR1, hR2, hs⟩
                  · rintro tm g ⟨l11, a12, n11, c11, x23, x24, hF, tot, hR1, hR12, hs⟩
                    exact absurd hs (by simp [F.baizeref34_Shares.l2])
                  clear tot hs hR1 hR2
                  rintro k2 tm g ⟨l11, a12, n11, c11, x23, x24, hF, tot, hR1, hR12, hs⟩
                  clear ds
                  obtain ⟨ds, rfl⟩ := hF.open
                  clear hF
                  unfold F.baizeref34_Shares.l2 at hs
                  refine CP.seq ?_
                  refine CP.seqR ?_
                  refine WP.still 2 (by kernel_rfl) ?_
                  refine WP.len (a := a1) (cp := c1) hR1.len (by kernel_rfl) ?_
                  refine WP.still 1 (by kernel_rfl) ?_
                  refine WP.done (by kernel_rfl) ?_
                  refine NX.then_n ?_
                  refine CP.cond (b := decide (x24 < (l1.length : Int))) (by kernel_rfl) (fun h46 => ?_) (fun h46 => ?_)
                  · replace hs := of_if_t hs h46
                    refine CP.skip ?_
                    refine NX.then_n ?_
                    refine CP.cut (fun tm g => ∃ (l14 : List Int) (a15 : Option Addr) (n14 : Nat) (c14 : Nat) (x28 : Int), Fr 100 [(0, .int .i64 x1), (1, .int .i64 x2), (2, .slice a1 n1 c1), (8, .slice a15 n14 c14), (9, .int .i64 x10), (11, .int .i64 x28), (12, .int .i64 x24)] tm ∧ Step (fun l => NoM l ∨ t ≤ l) g0 g ∧ RdS Kd.bool g 4 a1 n1 c1 l1 ∧ OwnS (Kd.int .i64) g (t + 1) 3 a15 n14 c14 l14 ∧ (F.baizeref34_Shares.c6 (F.baizeref34_Shares.l2 x1 x2 l1 x10 k2) x24 l14 x28) = some (o1, o2)) ?_ ?_
                    · refine CP.block ?_
                      refine CP.seq ?_
                      refine CP.cut (fun tm g => ∃ (q15 : Bool), Fr 100 [(0, .int .i64 x1), (1, .int .i64 x2), (2, .slice a1 n1 c1), (8, .slice a12 n11 c11), (9, .int .i64 x10), (11, .int .i64 x23), (12, .int .i64 x24), (80, .bool q15)] tm ∧ Step (fun l => NoM l ∨ t ≤ l) g0 g ∧ RdS Kd.bool g 4 a1 n1 c1 l1 ∧ OwnS (Kd.int .i64) g (t + 1) 3 a12 n11 c11 l11 ∧ (F.baizeref34_Shares.c7 (F.baizeref34_Shares.l2 x1 x2 l1 x10 k2) x1 x10 l11 x23 x24 q15) = some (o1, o2)) ?_ ?_
                      · refine CP.region ?_
                        refine WP.still 4 (by kernel_rfl) ?_
                        refine WP.guard 75 (b := (x24 == x2)) (by kernel_rfl) (fun h53 => ?_) (fun h53 => ?_)
                        · replace hs := of_if_t hs h53
                          refine WP.still 5 (by kernel_rfl) ?_
                          refine WP.done (by kernel_rfl) ?_
                          refine NX.post ?_
                          exact ⟨true, ⟨by kernel_rfl, by kernel_rfl⟩, tot, hR1, hR12, hs⟩
                        · replace hs := of_if_f hs h53
                          refine WP.still 2 (by kernel_rfl) ?_
                          by_cases hc53 : 0 ≤ x24 ∧ x24 < (l1.length : Int)
                          case neg => rw [if_neg hc53] at hs; cases hs
                          replace hs := of_if_p hs hc53
                          obtain ⟨b41, u41, ha41⟩ := hR1.at hc53
                          refine WP.indexA (t := 22) (e := 4) (sz := 1) (cap := c1) (k := .i64) (i := x24) hR1.len ha41 (by kernel_rfl) (by kernel_rfl) hc53 ?_
                          obtain ⟨cs22, hcR22, hcV22⟩ := hR1.src.view (getI_some hc53) ha41
                          replace hcR22 := Kd.o_bool hcR22
                          refine WP.loadV [[.bool (getI l1 x24)]] [1] hcV22 hcR22 rfl (f := 0) (ty := 4) (agg := false) (size := 1) (rs := [[.bool (getI l1 x24)]]) (v := .bool (getI l1 x24)) (by kernel_rfl) (by kernel_rfl) (by kernel_rfl) (by kernel_rfl) ?_
                          refine WP.still 1 (by kernel_rfl) ?_
                          refine WP.done (by kernel_rfl) ?_
                          refine NX.post ?_
                          exact ⟨(getI l1 x24), ⟨by kernel_rfl, by kernel_rfl⟩, tot, hR1, hR12, hs⟩
                      · clear tot hs hR1 hR12
                        rintro tm g ⟨q15, hF, tot, hR1, hR12, hs⟩
                        clear ds
                        obtain ⟨ds, rfl⟩ := hF.open
                        clear hF
                        unfold F.baizeref34_Shares.c7 at hs
                        refine CP.cond (b := q15) (by kernel_rfl) (fun h51 => ?_) (fun h51 => ?_)
                        · replace hs := of_if_t hs h51
                          refine CP.exit ?_
                          refine NX.then_e ?_
                          refine NX.block_s ?_
                          refine NX.post ?_
                          exact ⟨l11, a12, n11, c11, x23, ⟨by kernel_rfl, by kernel_rfl⟩, tot, hR1, hR12, hs⟩
                        · replace hs := of_if_f hs h51
                          refine CP.skip ?_
                          refine NX.then_n ?_
                          refine CP.seqR ?_
                          refine WP.still 4 (by kernel_rfl) ?_
                          by_cases hc49 : x10 ≠ 0
                          case neg => rw [if_neg hc49] at hs; cases hs
                          replace hs := of_if_p hs hc49
                          refine WP.quo (k := .i64) (x := x1) (y := x10) (by kernel_rfl) hc49 ?_
                          by_cases hc50 : 0 ≤ x24 ∧ x24 < (l11.length : Int)
                          case neg => rw [if_neg hc50] at hs; cases hs
                          replace hs := of_if_p hs hc50
                          obtain ⟨b38, u38, ha38⟩ := hR12.at hc50
                          refine WP.indexA (t := 24) (e := 3) (sz := 1) (cap := c11) (k := .i64) (i := x24) hR12.len ha38 (by kernel_rfl) (by kernel_rfl) hc50 ?_
                          refine WP.storeO (ty := 3) (v := .int .i64 (IntKind.i64.wrap (x1.tdiv x10))) hR12 (by omega) (i := x24.toNat) (by first | omega | (simp only [setI_length] at *; omega)) ha38 (by kernel_rfl) (x := (IntKind.i64.wrap (x1.tdiv x10))) (by exact rfl) (by kernel_rfl) ?_
                          intro g20 st20 hO18
                          replace hR1 := hR1.mono st20 (WL.no1 (by omega))
                          replace tot := tot.trans (st20.up1 (.inr (by omega)))
                          clear hR12
                          have hR12 : OwnS (Kd.int .i64) g20 (t + 1) 3 a12 n11 c11 (setI l11 x24 (IntKind.i64.wrap (x1.tdiv x10))) := hO18
                          clear hO18
                          refine WP.done (by kernel_rfl) ?_
                          refine NX.then_n ?_
                          refine CP.seqR ?_
                          refine WP.still 2 (by kernel_rfl) ?_
                          refine WP.done (by kernel_rfl) ?_
                          refine NX.then_n ?_
                          refine CP.cond (b := decide (x23 > 0)) (by kernel_rfl) (fun h52 => ?_) (fun h52 => ?_)
                          · replace hs := of_if_t hs h52
                            refine CP.seqR ?_
                            refine WP.still 4 (by kernel_rfl) ?_
                            by_cases hc51 : 0 ≤ x24 ∧ x24 < ((setI l11 x24 (IntKind.i64.wrap (x1.tdiv x10))).length : Int)
                            case neg => rw [if_neg hc51] at hs; cases hs
                            replace hs := of_if_p hs hc51
                            obtain ⟨b39, u39, ha39⟩ := hR12.at (i := x24) (by first | exact hc51 | simpa only [setI_length] using hc51)
                            refine WP.indexA (t := 24) (e := 3) (sz := 1) (cap := c11) (k := .i64) (i := x24) hR12.len ha39 (by kernel_rfl) (by kernel_rfl) hc51 ?_
                            obtain ⟨cs21, hcR21, hcV21⟩ := hR12.src.view (getI_some hc51) ha39
                            replace hcR21 := Kd.o_int hcR21
                            refine WP.loadV [[.int .i64 (getI (setI l11 x24 (IntKind.i64.wrap (x1.tdiv x10))) x24)]] [1] hcV21 hcR21 rfl (f := 0) (ty := 3) (agg := false) (size := 1) (rs := [[.int .i64 (getI (setI l11 x24 (IntKind.i64.wrap (x1.tdiv x10))) x24)]]) (v := .int .i64 (getI (setI l11 x24 (IntKind.i64.wrap (x1.tdiv x10))) x24)) (by kernel_rfl) (by kernel_rfl) (by kernel_rfl) (by kernel_rfl) ?_
                            refine WP.still 1 (by kernel_rfl) ?_
                            by_cases hc52 : 0 ≤ x24 ∧ x24 < ((setI l11 x24 (IntKind.i64.wrap (x1.tdiv x10))).length : Int)
                            case neg => rw [if_neg hc52] at hs; cases hs
                            replace hs := of_if_p hs hc52
                            obtain ⟨b40, u40, ha40⟩ := hR12.at (i := x24) (by first | exact hc52 | simpa only [setI_length] using hc52)
                            refine WP.indexA (t := 24) (e := 3) (sz := 1) (cap := c11) (k := .i64) (i := x24) hR12.len ha40 (by kernel_rfl) (by kernel_rfl) hc52 ?_
                            refine WP.storeO (ty := 3) (v := .int .i64 (IntKind.i64.wrap ((getI (setI l11 x24 (IntKind.i64.wrap (x1.tdiv x10))) x24) + 1))) hR12 (by omega) (i := x24.toNat) (by first | omega | (simp only [setI_length] at *; omega)) ha40 (by kernel_rfl) (x := (IntKind.i64.wrap ((getI (setI l11 x24 (IntKind.i64.wrap (x1.tdiv x10))) x24) + 1))) (by exact rfl) (by kernel_rfl) ?_
                            intro g21 st21 hO19
                            replace hR1 := hR1.mono st21 (WL.no1 (by omega))
                            replace tot := tot.trans (st21.up1 (.inr (by omega)))
                            clear hR12
                            have hR12 : OwnS (Kd.int .i64) g21 (t + 1) 3 a12 n11 c11 (setI (setI l11 x24 (IntKind.i64.wrap (x1.tdiv x10))) x24 (IntKind.i64.wrap ((getI (setI l11 x24 (IntKind.i64.wrap (x1.tdiv x10))) x24) + 1))) := hO19
                            clear hO19
                            refine WP.done (by kernel_rfl) ?_
                            refine NX.then_n ?_
                            refine CP.refr 100 [(0, .int .i64 x1), (1, .int .i64 x2), (2, .slice a1 n1 c1), (8, .slice a12 n11 c11), (9, .int .i64 x10), (11, .int .i64 x23), (12, .int .i64 x24)] (by kernel_rfl) (by kernel_rfl) ?_
                            clear ds
                            intro ds
                            refine CP.region ?_
                            refine WP.still 3 (by kernel_rfl) ?_
                            refine WP.done (by kernel_rfl) ?_
                            refine NX.block_n ?_
                            refine NX.post ?_
                            exact ⟨(setI (setI l11 x24 (IntKind.i64.wrap (x1.tdiv x10))) x24 (IntKind.i64.wrap ((getI (setI l11 x24 (IntKind.i64.wrap (x1.tdiv x10))) x24) + 1))), a12, n11, c11, (IntKind.i64.wrap (x23 - 1)), ⟨by kernel_rfl, by kernel_rfl⟩, tot, hR1, hR12, hs⟩
                          · replace hs := of_if_f hs h52
                            refine CP.skip ?_
                            refine NX.block_n ?_
                            refine NX.post ?_
                            exact ⟨(setI l11 x24 (IntKind.i64.wrap (x1.tdiv x10))), a12, n11, c11, x23, ⟨by kernel_rfl, by kernel_rfl⟩, tot, hR1, hR12, hs⟩
                    · clear tot hs hR1 hR12
                      rintro tm g ⟨l14, a15, n14, c14, x28, hF, tot, hR1, hR15, hs⟩
                      clear ds
                      obtain ⟨ds, rfl⟩ := hF.open
                      clear hF
                      unfold F.baizeref34_Shares.c6 at hs
                      refine CP.region ?_
                      refine WP.still 3 (by kernel_rfl) ?_
                      refine WP.done (by kernel_rfl) ?_
                      refine NX.post ?_
                      exact ⟨l14, a15, n14, c14, x28, (IntKind.i64.wrap (x24 + 1)), ⟨by kernel_rfl, by kernel_rfl⟩, tot, hR1, hR15, hs⟩
                  · replace hs := of_if_f hs h46
                    refine CP.exit ?_
                    refine NX.then_e ?_
                    refine NX.then_e ?_
                    refine NX.block_s ?_
                    refine NX.then_n ?_
                    refine CP.seqR ?_
                    refine WP.still 3 (by kernel_rfl) ?_
                    refine WP.done (by kernel_rfl) ?_
                    refine NX.then_n ?_
                    refine CP.ret ?_
                    obtain ⟨g22, hw2, st22, hnew⟩ := hR12.relab (by omega) r0
                    refine NX.regw hw2 ?_
                    replace tot := tot.trans (st22.up1 (.inr (by omega)))
                    clear hR12
                    have hR12 := hnew
                    clear hnew
                    replace hs := Option.some.inj hs
                    obtain ⟨rfl, rfl⟩ := Prod.mk.inj hs
                    exact NX.fin (v := .tuple #[.slice a12 n11 c11, .int .i64 0]) (Res.still (by kernel_rfl)) tot htL ⟨a12, n11, c11, rfl, hR12⟩
def F.baizelaw34_PunishShares.c3 (nx1 : Int → Int → Int → Int → Option (Bool)) (l2 : List Int) (x7 : Int) (x10 : Int) (x17 : Int) (x18 : Int) : Option (Bool) := (nx1 (IntKind.i64.wrap (x7 + (getI l2 x10))) x17 x18 (IntKind.i64.wrap (x10 + 1)))
def F.baizelaw34_PunishShares.c5 (nx1 : Int → Int → Int → Int → Option (Bool)) (l2 : List Int) (x7 : Int) (x8 : Int) (x9 : Int) (x10 : Int) (q15 : Bool) : Option (Bool) := (if q15 = true then (F.baizelaw34_PunishShares.c3 nx1 l2 x7 x10 (imin x8 (getI l2 x10)) (imax x9 (getI l2 x10))) else (F.baizelaw34_PunishShares.c3 nx1 l2 x7 x10 x8 x9))
def F.baizelaw34_PunishShares.c4 (nx1 : Int → Int → Int → Int → Option (Bool)) (x2 : Int) (l1 : List Bool) (l2 : List Int) (x7 : Int) (x8 : Int) (x9 : Int) (x10 : Int) (q14 : Bool) : Option (Bool) := (if q14 = true then (some false) else (if (x10 != x2) = true then (if 0 ≤ x10 ∧ x10 < (l1.length : Int) then (F.baizelaw34_PunishShares.c5 nx1 l2 x7 x8 x9 x10 (!(getI l1 x10))) else none) else (F.baizelaw34_PunishShares.c5 nx1 l2 x7 x8 x9 x10 false)))
def F.baizelaw34_PunishShares.c6 (q16 : Bool) : Option (Bool) := (some q16)
def F.baizelaw34_PunishShares.l1 (x1 : Int) (x2 : Int) (l1 : List Bool) (l2 : List Int) (x3 : Int) : Nat → Int → Int → Int → Int → Option (Bool)
  | 0, _, _, _, _ => none
  | k + 1, x7, x8, x9, x10 => (if decide (x10 < (l2.length : Int)) = true then (if 0 ≤ x10 ∧ x10 < (l2.length : Int) then (if (x10 != x2) = true then (if 0 ≤ x10 ∧ x10 < (l1.length : Int) then (if (getI l1 x10) = true then (F.baizelaw34_PunishShares.c4 (F.baizelaw34_PunishShares.l1 x1 x2 l1 l2 x3 k) x2 l1 l2 x7 x8 x9 x10 ((getI l2 x10) != 0)) else (F.baizelaw34_PunishShares.c4 (F.baizelaw34_PunishShares.l1 x1 x2 l1 l2 x3 k) x2 l1 l2 x7 x8 x9 x10 false)) else none) else (F.baizelaw34_PunishShares.c4 (F.baizelaw34_PunishShares.l1 x1 x2 l1 l2 x3 k) x2 l1 l2 x7 x8 x9 x10 false)) else none) else (if (x3 != 0) = true then (F.baizelaw34_PunishShares.c6 true) else (if (x7 == x1) = true then (if decide ((IntKind.i64.wrap (x9 - x8)) ≤ 1) = true then (F.baizelaw34_PunishShares.c6 true) else (if 0 ≤ x2 ∧ x2 < (l2.length : Int) then (F.baizelaw34_PunishShares.c6 ((getI l2 x2) == x1)) else none)) else (if 0 ≤ x2 ∧ x2 < (l2.length : Int) then (F.baizelaw34_PunishShares.c6 ((getI l2 x2) == x1)) else none))))
def F.baizelaw34_PunishShares.c2 (x1 : Int) (x2 : Int) (l1 : List Bool) (l2 : List Int) (x3 : Int) (q5 : Bool) : Option (Bool) := (if q5 = true then (some false) else (F.baizelaw34_PunishShares.l1 x1 x2 l1 l2 x3 fuel 0 x1 0 0))
def F.baizelaw34_PunishShares.c1 (x1 : Int) (x2 : Int) (l1 : List Bool) (q2 : Bool) : Option (Bool) := (if q2 = true then ((F.baizelaw34_known).bind fun q3 => (some q3)) else ((F.punish_Shares x1 x2 l1).bind fun (l2, x3) => ((F.baizeref34_Shares x1 x2 l1).bind fun (l3, x4) => (if (x3 != x4) = true then (F.baizelaw34_PunishShares.c2 x1 x2 l1 l2 x3 true) else ((F.baizeref34_Ints l2 l3).bind fun q17 => (F.baizelaw34_PunishShares.c2 x1 x2 l1 l2 x3 (!q17)))))))
def F.baizelaw34_PunishShares (x1 : Int) (x2 : Int) (l1 : List Bool) : Option (Bool) := ((F.baizelaw34_known).bind fun q18 => (if (!q18) = true then (F.baizelaw34_PunishShares.c1 x1 x2 l1 true) else (F.baizelaw34_PunishShares.c1 x1 x2 l1 (decide ((l1.length : Int) > 20)))))
theorem P.baizelaw34_PunishShares (g0 : GW) (x1 : Int) (x2 : Int) (l1 : List Bool) (a1 : Option Addr) (n1 : Nat) (c1 : Nat) (hR1 : RdS Kd.bool g0 4 a1 n1 c1 l1) (o1 : Bool) (hs : F.baizelaw34_PunishShares x1 x2 l1 = some o1) :
    Calls Try.prog 3 #[.int .i64 x1, .int .i64 x2, .slice a1 n1 c1] g0.w (Ret NoM g0 fun v g => v = .bool o1) := by
  refine calls_of (args := [.int .i64 x1, .int .i64 x2, .slice a1 n1 c1]) Try.func3 rfl (0) ?_
  intro t ht htL
  refine ⟨_, rfl, ?_⟩
  refine CP.refr 109 [(0, .int .i64 x1), (1, .int .i64 x2), (2, .slice a1 n1 c1)] (by kernel_rfl) (by kernel_rfl) ?_
  intro ds
  have tot : Step (fun l => NoM l ∨ t ≤ l) g0 g0 := Step.refl _ _
  unfold F.baizelaw34_PunishShares at hs
  refine CP.seqR ?_
  refine WP.still 1 (by kernel_rfl) ?_
  refine WP.done (by kernel_rfl) ?_
  refine NX.then_n ?_
  refine CP.seq ?_
  refine CP.cut (fun tm g => ∃ (q2 : Bool), Fr 109 [(0, .int .i64 x1), (1, .int .i64 x2), (2, .slice a1 n1 c1), (22, .bool q2)] tm ∧ Step (fun l => NoM l ∨ t ≤ l) g0 g ∧ RdS Kd.bool g 4 a1 n1 c1 l1 ∧ (F.baizelaw34_PunishShares.c1 x1 x2 l1 q2) = some o1) ?_ ?_
  · refine CP.region ?_
    replace hs := Option.bind_eq_some_iff.1 hs
    obtain ⟨q18, hk7, hs⟩ := hs
    have hcal7 := P.baizelaw34_known g0 q18 hk7
    refine WP.callC hcal7 (by kernel_rfl) ?_
    rintro _ g11 st11 rfl
    replace hR1 := hR1.mono st11 (fun x => x)
    replace tot := tot.trans st11.pure
    refine WP.still 2 (by kernel_rfl) ?_
    refine WP.guard 18 (b := (!q18)) (by kernel_rfl) (fun h44 => ?_) (fun h44 => ?_)
    · replace hs := of_if_t hs h44
      refine WP.still 4 (by kernel_rfl) ?_
      refine WP.done (by kernel_rfl) ?_
      refine NX.post ?_
      exact ⟨true, ⟨by kernel_rfl, by kernel_rfl⟩, tot, hR1, hs⟩
    · replace hs := of_if_f hs h44
      refine WP.still 1 (by kernel_rfl) ?_
      refine WP.len (a := a1) (cp := c1) hR1.len (by kernel_rfl) ?_
      refine WP.still 2 (by kernel_rfl) ?_
      refine WP.done (by kernel_rfl) ?_
      refine NX.post ?_
      exact ⟨decide ((l1.length : Int) > 20), ⟨by kernel_rfl, by kernel_rfl⟩, tot, hR1, hs⟩
  · clear tot hs hR1
    rintro tm g ⟨q2, hF, tot, hR1, hs⟩
    clear ds
    obtain ⟨ds, rfl⟩ := hF.open
    clear hF
    unfold F.baizelaw34_PunishShares.c1 at hs
    refine CP.cond (b := q2) (by kernel_rfl) (fun h2 => ?_) (fun h2 => ?_)
    · replace hs := of_if_t hs h2
      refine CP.seqR ?_
      replace hs := Option.bind_eq_some_iff.1 hs
      obtain ⟨q3, hk2, hs⟩ := hs
      have hcal2 := P.baizelaw34_known g q3 hk2
      refine WP.callC hcal2 (by kernel_rfl) ?_
      rintro _ g2 st2 rfl
      replace hR1 := hR1.mono st2 (fun x => x)
      replace tot := tot.trans st2.pure
      refine WP.still 1 (by kernel_rfl) ?_
      refine WP.done (by kernel_rfl) ?_
      refine NX.then_n ?_
      refine CP.ret ?_
      refine NX.then_r ?_
      replace hs := Option.some.inj hs
      obtain rfl := hs
      exact NX.fin (v := .bool q3) (Res.still (by kernel_rfl)) tot htL rfl
    · replace hs := of_if_f hs h2
      refine CP.skip ?_
      refine NX.then_n ?_
      refine CP.seqR ?_
      refine WP.still 3 (by kernel_rfl) ?_
      replace hs := Option.bind_eq_some_iff.1 hs
      obtain ⟨⟨l2, x3⟩, hk3, hs⟩ := hs
      dsimp only at hs
      have hcal3 := P.punish_Shares g (t + 1) x1 x2 l1 a1 n1 c1 hR1 l2 x3 hk3
      refine WP.callC hcal3 (by kernel_rfl) ?_
      rintro _ g3 st3 ⟨a2, n2, c2, rfl, hR2⟩
      replace hR1 := hR1.mono st3 (fun x => x)
      replace tot := tot.trans st3.pure
      refine WP.still 5 (by kernel_rfl) ?_
      refine WP.done (by kernel_rfl) ?_
      refine NX.then_n ?_
      refine CP.seqR ?_
      refine WP.still 3 (by kernel_rfl) ?_
      replace hs := Option.bind_eq_some_iff.1 hs
      obtain ⟨⟨l3, x4⟩, hk4, hs⟩ := hs
      dsimp only at hs
      have hcal4 := P.baizeref34_Shares g3 (t + 2) x1 x2 l1 a1 n1 c1 hR1 l3 x4 hk4
      refine WP.callC hcal4 (by kernel_rfl) ?_
      rintro _ g4 st4 ⟨a3, n3, c3, rfl, hR3⟩
      replace hR1 := hR1.mono st4 (fun x => x)
      replace hR2 := hR2.mono st4 (fun x => x) (fun x => x)
      replace tot := tot.trans st4.pure
      refine WP.still 5 (by kernel_rfl) ?_
      refine WP.done (by kernel_rfl) ?_
      refine NX.then_n ?_
      refine CP.refr 109 [(0, .int .i64 x1), (1, .int .i64 x2), (2, .slice a1 n1 c1), (7, .slice a2 n2 c2), (8, .int .i64 x3), (9, .slice a3 n3 c3), (10, .int .i64 x4)] (by kernel_rfl) (by kernel_rfl) ?_
      clear ds
      intro ds
      refine CP.seq ?_
      refine CP.cut (fun tm g => ∃ (q5 : Bool), Fr 109 [(0, .int .i64 x1), (1, .int .i64 x2), (2, .slice a1 n1 c1), (7, .slice a2 n2 c2), (8, .int .i64 x3), (46, .bool q5)] tm ∧ Step (fun l => NoM l ∨ t ≤ l) g0 g ∧ RdS Kd.bool g 4 a1 n1 c1 l1 ∧ OwnS (Kd.int .i64) g (t + 1) 3 a2 n2 c2 l2 ∧ (F.baizelaw34_PunishShares.c2 x1 x2 l1 l2 x3 q5) = some o1) ?_ ?_
      · refine CP.region ?_
        refine WP.still 4 (by kernel_rfl) ?_
        refine WP.guard 41 (b := (x3 != x4)) (by kernel_rfl) (fun h43 => ?_) (fun h43 => ?_)
        · replace hs := of_if_t hs h43
          refine WP.still 5 (by kernel_rfl) ?_
          refine WP.done (by kernel_rfl) ?_
          refine NX.post ?_
          exact ⟨true, ⟨by kernel_rfl, by kernel_rfl⟩, tot, hR1, hR2, hs⟩
        · replace hs := of_if_f hs h43
          refine WP.still 2 (by kernel_rfl) ?_
          replace hs := Option.bind_eq_some_iff.1 hs
          obtain ⟨q17, hk6, hs⟩ := hs
          obtain ⟨g10, hw2, st10, hnew⟩ := hR3.freeze (by omega)
          refine WP.regw hw2 ?_
          replace hR1 := hR1.mono st10 (WL.no1 (by omega))
          replace hR2 := hR2.mono st10 (WL.no1 (by omega)) (WL.no1 (by omega))
          replace tot := tot.trans (st10.up1 (.inr (by omega)))
          clear hR3
          have hR3 := hnew
          clear hnew
          obtain ⟨gl2, hwl2, stl2, hRl2, back2⟩ := hR2.lend (by omega)
          refine WP.regw hwl2 ?_
          have hcal6 := P.baizeref34_Ints gl2 l2 l3 a2 n2 c2 a3 n3 c3 hRl2 (hR3.mono stl2 (WL.no1 (by omega))) q17 hk6
          refine WP.callC hcal6 (by kernel_rfl) ?_
          rintro _ g8 st8 rfl
          obtain ⟨g9, hwl2', st9, hO2, sq2⟩ := back2 st8 (fun x => x)
          refine WP.regw hwl2' ?_
          replace st9 := st9.lent (ms := []) (fun _ hx => hx.elim)
          replace hR1 := hR1.mono st9 (WL.no1 (by omega))
          replace hR3 := hR3.mono st9 (WL.no1 (by omega))
          replace tot := tot.trans (st9.up1 (.inr (by omega)))
          clear hR2
          have hR2 : OwnS (Kd.int .i64) g9 (t + 1) 3 a2 n2 c2 l2 := hO2
          clear hO2
          refine WP.still 2 (by kernel_rfl) ?_
          refine WP.done (by kernel_rfl) ?_
          refine NX.post ?_
          exact ⟨(!q17), ⟨by kernel_rfl, by kernel_rfl⟩, tot, hR1, hR2, hs⟩
      · clear tot hs hR1 hR2 hR3
        rintro tm g ⟨q5, hF, tot, hR1, hR2, hs⟩
        clear ds
        obtain ⟨ds, rfl⟩ := hF.open
        clear hF
        unfold F.baizelaw34_PunishShares.c2 at hs
        refine CP.cond (b := q5) (by kernel_rfl) (fun h4 => ?_) (fun h4 => ?_)
        · replace hs := of_if_t hs h4
          refine CP.seqR ?_
          refine WP.still 1 (by kernel_rfl) ?_
          refine WP.done (by kernel_rfl) ?_
          refine NX.then_n ?_
          refine CP.ret ?_
          refine NX.then_r ?_
          replace hs := Option.some.inj hs
          obtain rfl := hs
          exact NX.fin (v := .bool false) (Res.still (by kernel_rfl)) tot htL rfl
        · replace hs := of_if_f hs h4
          refine CP.skip ?_
          refine NX.then_n ?_
          refine CP.seqR ?_
          refine WP.still 4 (by kernel_rfl) ?_
          refine WP.done (by kernel_rfl) ?_
          refine NX.then_n ?_
          refine CP.seq ?_
          refine CP.seqR ?_
          refine WP.still 1 (by kernel_rfl) ?_
          refine WP.len (a := a2) (cp := c2) hR2.len (by kernel_rfl) ?_
          refine WP.still 1 (by kernel_rfl) ?_
          refine WP.done (by kernel_rfl) ?_
          refine NX.then_n ?_
          refine CP.block ?_
          generalize fuel = k1 at hs
          refine CP.loop (fun k1 tm g => ∃ (x7 : Int) (x8 : Int) (x9 : Int) (x10 : Int), Fr 109 [(0, .int .i64 x1), (1, .int .i64 x2), (2, .slice a1 n1 c1), (7, .slice a2 n2 c2), (8, .int .i64 x3), (11, .int .i64 x7), (12, .int .i64 x8), (13, .int .i64 x9), (48, .slice a2 n2 c2), (49, .int .i64 (l2.length : Int)), (50, .int .i64 x10)] tm ∧ Step (fun l => NoM l ∨ t ≤ l) g0 g ∧ RdS Kd.bool g 4 a1 n1 c1 l1 ∧ OwnS (Kd.int .i64) g (t + 1) 3 a2 n2 c2 l2 ∧ F.baizelaw34_PunishShares.l1 x1 x2 l1 l2 x3 k1 x7 x8 x9 x10 = some o1) k1 ?_ ?_ ?_
          · exact ⟨0, x1, 0, 0, ⟨by kernel_rfl, by kernel_rfl⟩, tot, hR1, hR2, hs⟩
          · rintro tm g ⟨x7, x8, x9, x10, hF, tot, hR1, hR2, hs⟩
            exact absurd hs (by simp [F.baizelaw34_PunishShares.l1])
          clear tot hs hR1 hR2
          rintro k1 tm g ⟨x7, x8, x9, x10, hF, tot, hR1, hR2, hs⟩
          clear ds
          obtain ⟨ds, rfl⟩ := hF.open
          clear hF
          unfold F.baizelaw34_PunishShares.l1 at hs
          refine CP.seqR ?_
          refine WP.still 1 (by kernel_rfl) ?_
          refine WP.done (by kernel_rfl) ?_
          refine NX.then_n ?_
          refine CP.seq ?_
          refine CP.cond (b := decide (x10 < (l2.length : Int))) (by kernel_rfl) (fun h23 => ?_) (fun h23 => ?_)
          · replace hs := of_if_t hs h23
            refine CP.skip ?_
            refine NX.then_n ?_
            refine CP.cut (fun tm g => ∃ (x17 : Int) (x18 : Int), Fr 109 [(0, .int .i64 x1), (1, .int .i64 x2), (2, .slice a1 n1 c1), (7, .slice a2 n2 c2), (8, .int .i64 x3), (11, .int .i64 (IntKind.i64.wrap (x7 + (getI l2 x10)))), (12, .int .i64 x17), (13, .int .i64 x18), (48, .slice a2 n2 c2), (49, .int .i64 (l2.length : Int)), (50, .int .i64 x10)] tm ∧ Step (fun l => NoM l ∨ t ≤ l) g0 g ∧ RdS Kd.bool g 4 a1 n1 c1 l1 ∧ OwnS (Kd.int .i64) g (t + 1) 3 a2 n2 c2 l2 ∧ (F.baizelaw34_PunishShares.c3 (F.baizelaw34_PunishShares.l1 x1 x2 l1 l2 x3 k1) l2 x7 x10 x17 x18) = some o1) ?_ ?_
            · refine CP.block ?_
              refine CP.seqR ?_
              refine WP.still 1 (by kernel_rfl) ?_
              by_cases hc14 : 0 ≤ x10 ∧ x10 < (l2.length : Int)
              case neg => rw [if_neg hc14] at hs; cases hs
              replace hs := of_if_p hs hc14
              obtain ⟨b14, u14, ha14⟩ := hR2.at hc14
              refine WP.indexA (t := 24) (e := 3) (sz := 1) (cap := c2) (k := .i64) (i := x10) hR2.len ha14 (by kernel_rfl) (by kernel_rfl) hc14 ?_
              obtain ⟨cs14, hcR14, hcV14⟩ := hR2.src.view (getI_some hc14) ha14
              replace hcR14 := Kd.o_int hcR14
              refine WP.loadV [[.int .i64 (getI l2 x10)]] [1] hcV14 hcR14 rfl (f := 0) (ty := 3) (agg := false) (size := 1) (rs := [[.int .i64 (getI l2 x10)]]) (v := .int .i64 (getI l2 x10)) (by kernel_rfl) (by kernel_rfl) (by kernel_rfl) (by kernel_rfl) ?_
              refine WP.still 2 (by kernel_rfl) ?_
              refine WP.done (by kernel_rfl) ?_
              refine NX.then_n ?_
              refine CP.seqR ?_
              refine WP.still 4 (by kernel_rfl) ?_
              refine WP.done (by kernel_rfl) ?_
              refine NX.then_n ?_
              refine CP.seq ?_
              refine CP.cut (fun tm g => ∃ (q14 : Bool), Fr 109 [(0, .int .i64 x1), (1, .int .i64 x2), (2, .slice a1 n1 c1), (7, .slice a2 n2 c2), (8, .int .i64 x3), (11, .int .i64 (IntKind.i64.wrap (x7 + (getI l2 x10)))), (12, .int .i64 x8), (13, .int .i64 x9), (14, .int .i64 x10), (15, .int .i64 (getI l2 x10)), (48, .slice a2 n2 c2), (49, .int .i64 (l2.length : Int)), (50, .int .i64 x10), (70, .bool q14)] tm ∧ Step (fun l => NoM l ∨ t ≤ l) g0 g ∧ RdS Kd.bool g 4 a1 n1 c1 l1 ∧ OwnS (Kd.int .i64) g (t + 1) 3 a2 n2 c2 l2 ∧ (F.baizelaw34_PunishShares.c4 (F.baizelaw34_PunishShares.l1 x1 x2 l1 l2 x3 k1) x2 l1 l2 x7 x8 x9 x10 q14) = some o1) ?_ ?_
              · refine CP.region ?_
                refine WP.still 4 (by kernel_rfl) ?_
                refine WP.guard 61 (b := (x10 != x2)) (by kernel_rfl) (fun h35 => ?_) (fun h35 => ?_)
                · replace hs := of_if_t hs h35
                  refine WP.still 2 (by kernel_rfl) ?_
                  by_cases hc18 : 0 ≤ x10 ∧ x10 < (l1.length : Int)
                  case neg => rw [if_neg hc18] at hs; cases hs
                  replace hs := of_if_p hs hc18
                  obtain ⟨b18, u18, ha18⟩ := hR1.at hc18
                  refine WP.indexA (t := 22) (e := 4) (sz := 1) (cap := c1) (k := .i64) (i := x10) hR1.len ha18 (by kernel_rfl) (by kernel_rfl) hc18 ?_
                  obtain ⟨cs18, hcR18, hcV18⟩ := hR1.src.view (getI_some hc18) ha18
                  replace hcR18 := Kd.o_bool hcR18
                  refine WP.loadV [[.bool (getI l1 x10)]] [1] hcV18 hcR18 rfl (f := 0) (ty := 4) (agg := false) (size := 1) (rs := [[.bool (getI l1 x10)]]) (v := .bool (getI l1 x10)) (by kernel_rfl) (by kernel_rfl) (by kernel_rfl) (by kernel_rfl) ?_
                  refine WP.still 2 (by kernel_rfl) ?_
                  refine WP.guard 67 (b := (getI l1 x10)) (by kernel_rfl) (fun h36 => ?_) (fun h36 => ?_)
                  · replace hs := of_if_t hs h36
                    refine WP.still 3 (by kernel_rfl) ?_
                    refine WP.done (by kernel_rfl) ?_
                    refine NX.post ?_
                    exact ⟨((getI l2 x10) != 0), ⟨by kernel_rfl, by kernel_rfl⟩, tot, hR1, hR2, hs⟩
                  · replace hs := of_if_f hs h36
                    refine WP.still 3 (by kernel_rfl) ?_
                    refine WP.done (by kernel_rfl) ?_
                    refine NX.post ?_
                    exact ⟨false, ⟨by kernel_rfl, by kernel_rfl⟩, tot, hR1, hR2, hs⟩
                · replace hs := of_if_f hs h35
                  refine WP.still 9 (by kernel_rfl) ?_
                  refine WP.done (by kernel_rfl) ?_
                  refine NX.post ?_
                  exact ⟨false, ⟨by kernel_rfl, by kernel_rfl⟩, tot, hR1, hR2, hs⟩
              · clear tot hs hR1 hR2
                rintro tm g ⟨q14, hF, tot, hR1, hR2, hs⟩
                clear ds
                obtain ⟨ds, rfl⟩ := hF.open
                clear hF
                unfold F.baizelaw34_PunishShares.c4 at hs
                refine CP.cond (b := q14) (by kernel_rfl) (fun h31 => ?_) (fun h31 => ?_)
                · replace hs := of_if_t hs h31
                  refine CP.seqR ?_
                  refine WP.still 1 (by kernel_rfl) ?_
                  refine WP.done (by kernel_rfl) ?_
                  refine NX.then_n ?_
                  refine CP.ret ?_
                  refine NX.then_r ?_
                  refine NX.block_r ?_
                  refine NX.then_r ?_
                  refine NX.then_r ?_
                  refine NX.block_r ?_
                  refine NX.then_r ?_
                  replace hs := Option.some.inj hs
                  obtain rfl := hs
                  exact NX.fin (v := .bool false) (Res.still (by kernel_rfl)) tot htL rfl
                · replace hs := of_if_f hs h31
                  refine CP.skip ?_
                  refine NX.then_n ?_
                  refine CP.cut (fun tm g => ∃ (q15 : Bool), Fr 109 [(0, .int .i64 x1), (1, .int .i64 x2), (2, .slice a1 n1 c1), (7, .slice a2 n2 c2), (8, .int .i64 x3), (11, .int .i64 (IntKind.i64.wrap (x7 + (getI l2 x10)))), (12, .int .i64 x8), (13, .int .i64 x9), (15, .int .i64 (getI l2 x10)), (48, .slice a2 n2 c2), (49, .int .i64 (l2.length : Int)), (50, .int .i64 x10), (80, .bool q15)] tm ∧ Step (fun l => NoM l ∨ t ≤ l) g0 g ∧ RdS Kd.bool g 4 a1 n1 c1 l1 ∧ OwnS (Kd.int .i64) g (t + 1) 3 a2 n2 c2 l2 ∧ (F.baizelaw34_PunishShares.c5 (F.baizelaw34_PunishShares.l1 x1 x2 l1 l2 x3 k1) l2 x7 x8 x9 x10 q15) = some o1) ?_ ?_
                  · refine CP.region ?_
                    refine WP.still 4 (by kernel_rfl) ?_
                    refine WP.guard 74 (b := (x10 != x2)) (by kernel_rfl) (fun h34 => ?_) (fun h34 => ?_)
                    · replace hs := of_if_t hs h34
                      refine WP.still 2 (by kernel_rfl) ?_
                      by_cases hc17 : 0 ≤ x10 ∧ x10 < (l1.length : Int)
                      case neg => rw [if_neg hc17] at hs; cases hs
                      replace hs := of_if_p hs hc17
                      obtain ⟨b17, u17, ha17⟩ := hR1.at hc17
                      refine WP.indexA (t := 22) (e := 4) (sz := 1) (cap := c1) (k := .i64) (i := x10) hR1.len ha17 (by kernel_rfl) (by kernel_rfl) hc17 ?_
                      obtain ⟨cs17, hcR17, hcV17⟩ := hR1.src.view (getI_some hc17) ha17
                      replace hcR17 := Kd.o_bool hcR17
                      refine WP.loadV [[.bool (getI l1 x10)]] [1] hcV17 hcR17 rfl (f := 0) (ty := 4) (agg := false) (size := 1) (rs := [[.bool (getI l1 x10)]]) (v := .bool (getI l1 x10)) (by kernel_rfl) (by kernel_rfl) (by kernel_rfl) (by kernel_rfl) ?_
                      refine WP.still 2 (by kernel_rfl) ?_
                      refine WP.done (by kernel_rfl) ?_
                      refine NX.post ?_
                      exact ⟨(!(getI l1 x10)), ⟨by kernel_rfl, by kernel_rfl⟩, tot, hR1, hR2, hs⟩
                    · replace hs := of_if_f hs h34
                      refine WP.still 6 (by kernel_rfl) ?_
                      refine WP.done (by kernel_rfl) ?_
                      refine NX.post ?_
                      exact ⟨false, ⟨by kernel_rfl, by kernel_rfl⟩, tot, hR1, hR2, hs⟩
                  · clear tot hs hR1 hR2
                    rintro tm g ⟨q15, hF, tot, hR1, hR2, hs⟩
                    clear ds
                    obtain ⟨ds, rfl⟩ := hF.open
                    clear hF
                    unfold F.baizelaw34_PunishShares.c5 at hs
                    refine CP.cond (b := q15) (by kernel_rfl) (fun h33 => ?_) (fun h33 => ?_)
                    · replace hs := of_if_t hs h33
                      refine CP.region ?_
                      refine WP.still 8 (by kernel_rfl) ?_
                      refine WP.done (by kernel_rfl) ?_
                      refine NX.block_n ?_
                      refine NX.post ?_
                      exact ⟨(imin x8 (getI l2 x10)), (imax x9 (getI l2 x10)), ⟨by kernel_rfl, by kernel_rfl⟩, tot, hR1, hR2, hs⟩
                    · replace hs := of_if_f hs h33
                      refine CP.skip ?_
                      refine NX.block_n ?_
                      refine NX.post ?_
                      exact ⟨x8, x9, ⟨by kernel_rfl, by kernel_rfl⟩, tot, hR1, hR2, hs⟩
            · clear tot hs hR1 hR2
              rintro tm g ⟨x17, x18, hF, tot, hR1, hR2, hs⟩
              clear ds
              obtain ⟨ds, rfl⟩ := hF.open
              clear hF
              unfold F.baizelaw34_PunishShares.c3 at hs
              refine CP.region ?_
              refine WP.still 2 (by kernel_rfl) ?_
              refine WP.done (by kernel_rfl) ?_
              refine NX.post ?_
              exact ⟨(IntKind.i64.wrap (x7 + (getI l2 x10))), x17, x18, (IntKind.i64.wrap (x10 + 1)), ⟨by kernel_rfl, by kernel_rfl⟩, tot, hR1, hR2, hs⟩
          · replace hs := of_if_f hs h23
            refine CP.exit ?_
            refine NX.then_e ?_
            refine NX.then_e ?_
            refine NX.block_s ?_
            refine NX.then_n ?_
            refine CP.cut (fun tm g => ∃ (q16 : Bool), Fr 109 [(6, .bool q16)] tm ∧ Step (fun l => NoM l ∨ t ≤ l) g0 g ∧ (F.baizelaw34_PunishShares.c6 q16) = some o1) ?_ ?_
            · refine CP.region ?_
              refine WP.still 3 (by kernel_rfl) ?_
              refine WP.guard 90 (b := (x3 != 0)) (by kernel_rfl) (fun h40 => ?_) (fun h40 => ?_)
              · replace hs := of_if_t hs h40
                refine WP.still 19 (by kernel_rfl) ?_
                refine WP.done (by kernel_rfl) ?_
                refine NX.post ?_
                exact ⟨true, ⟨by kernel_rfl, by kernel_rfl⟩, tot, hs⟩
              · replace hs := of_if_f hs h40
                refine WP.still 4 (by kernel_rfl) ?_
                refine WP.guard 94 (b := (x7 == x1)) (by kernel_rfl) (fun h41 => ?_) (fun h41 => ?_)
                · replace hs := of_if_t hs h41
                  refine WP.still 7 (by kernel_rfl) ?_
                  refine WP.guard 101 (b := decide ((IntKind.i64.wrap (x9 - x8)) ≤ 1)) (by kernel_rfl) (fun h42 => ?_) (fun h42 => ?_)
                  · replace hs := of_if_t hs h42
                    refine WP.still 8 (by kernel_rfl) ?_
                    refine WP.done (by kernel_rfl) ?_
                    refine NX.post ?_
                    exact ⟨true, ⟨by kernel_rfl, by kernel_rfl⟩, tot, hs⟩
                  · replace hs := of_if_f hs h42
                    refine WP.still 2 (by kernel_rfl) ?_
                    by_cases hc21 : 0 ≤ x2 ∧ x2 < (l2.length : Int)
                    case neg => rw [if_neg hc21] at hs; cases hs
                    replace hs := of_if_p hs hc21
                    obtain ⟨b21, u21, ha21⟩ := hR2.at hc21
                    refine WP.indexA (t := 24) (e := 3) (sz := 1) (cap := c2) (k := .i64) (i := x2) hR2.len ha21 (by kernel_rfl) (by kernel_rfl) hc21 ?_
                    obtain ⟨cs21, hcR21, hcV21⟩ := hR2.src.view (getI_some hc21) ha21
                    replace hcR21 := Kd.o_int hcR21
                    refine WP.loadV [[.int .i64 (getI l2 x2)]] [1] hcV21 hcR21 rfl (f := 0) (ty := 3) (agg := false) (size := 1) (rs := [[.int .i64 (getI l2 x2)]]) (v := .int .i64 (getI l2 x2)) (by kernel_rfl) (by kernel_rfl) (by kernel_rfl) (by kernel_rfl) ?_
                    refine WP.still 4 (by kernel_rfl) ?_
                    refine WP.done (by kernel_rfl) ?_
                    refine NX.post ?_
                    exact ⟨((getI l2 x2) == x1), ⟨by kernel_rfl, by kernel_rfl⟩, tot, hs⟩
                · replace hs := of_if_f hs h41
                  refine WP.still 9 (by kernel_rfl) ?_
                  by_cases hc22 : 0 ≤ x2 ∧ x2 < (l2.length : Int)
                  case neg => rw [if_neg hc22] at hs; cases hs
                  replace hs := of_if_p hs hc22
                  obtain ⟨b22, u22, ha22⟩ := hR2.at hc22
                  refine WP.indexA (t := 24) (e := 3) (sz := 1) (cap := c2) (k := .i64) (i := x2) hR2.len ha22 (by kernel_rfl) (by kernel_rfl) hc22 ?_
                  obtain ⟨cs22, hcR22, hcV22⟩ := hR2.src.view (getI_some hc22) ha22
                  replace hcR22 := Kd.o_int hcR22
                  refine WP.loadV [[.int .i64 (getI l2 x2)]] [1] hcV22 hcR22 rfl (f := 0) (ty := 3) (agg := false) (size := 1) (rs := [[.int .i64 (getI l2 x2)]]) (v := .int .i64 (getI l2 x2)) (by kernel_rfl) (by kernel_rfl) (by kernel_rfl) (by kernel_rfl) ?_
                  refine WP.still 4 (by kernel_rfl) ?_
                  refine WP.done (by kernel_rfl) ?_
                  refine NX.post ?_
                  exact ⟨((getI l2 x2) == x1), ⟨by kernel_rfl, by kernel_rfl⟩, tot, hs⟩
            · clear tot hs hR2
              rintro tm g ⟨q16, hF, tot, hs⟩
              clear ds
              obtain ⟨ds, rfl⟩ := hF.open
              clear hF
              unfold F.baizelaw34_PunishShares.c6 at hs
              refine CP.ret ?_
              replace hs := Option.some.inj hs
              obtain rfl := hs
              exact NX.fin (v := .bool q16) (Res.still (by kernel_rfl)) tot htL rfl
end Go.Proofs.Ytlnockimfgfcgaa
