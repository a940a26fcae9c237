/-
  Walks, written by program: each Go function computes the plain function of its name, in whatever world its arguments' facts hold.
-/
import Derived.Test.YtahpmlekenbafaaRows
import Derived.Test.YtahpmlekenbafaaLabH
namespace Go.Proofs.Ytahpmlekenbafaa
open Go.RowKit Go.Lab
attribute [local irreducible] WP CP NX wpList Code.wp Calls
set_option maxRecDepth 100000
set_option maxHeartbeats 4000000
set_option linter.unusedVariables false
structure S_baizelaw35_Loss where
  f1 : Int
  f2 : Int
  f3 : (List Bool)
  deriving Inhabited
def k_S_baizelaw35_Loss : Kd S_baizelaw35_Loss := Kd.pull (Kd.pair (Kd.int .i64) (Kd.pair (Kd.int .i64) (Kd.slice 4 Kd.bool))) (fun x => (x.f1, x.f2, x.f3))
theorem k_S_baizelaw35_Loss.opn {g : GW} {cs : List Value} {x : S_baizelaw35_Loss} (h : k_S_baizelaw35_Loss.R g cs x) : ∃ (a2 : Option Addr) (n2 : Nat) (c2 : Nat), cs = [[.int .i64 x.f1], [.int .i64 x.f2], [.slice a2 n2 c2]].flatten ∧ RdS Kd.bool g 4 a2 n2 c2 x.f3 := by
  obtain ⟨q0, d0, rfl, h0, q1, d1, rfl, h1, h2⟩ := h
  replace h0 : q0 = [.int .i64 x.f1] := h0
  subst h0
  replace h1 : q1 = [.int .i64 x.f2] := h1
  subst h1
  obtain ⟨a2, n2, c2, h2, hr2⟩ := h2
  subst h2
  exact ⟨a2, n2, c2, by simp, hr2⟩
theorem k_S_baizelaw35_Loss.mk {g : GW} {s0 s1 s2 : List Value} {f0 : Int} {f1 : Int} {f2 : (List Bool)} (h0 : ((Kd.int .i64)).R g s0 f0) (h1 : ((Kd.int .i64)).R g s1 f1) (h2 : ((Kd.slice 4 Kd.bool)).R g s2 f2) : k_S_baizelaw35_Loss.R g [s0, s1, s2].flatten ⟨f0, f1, f2⟩ := by
  refine ⟨_, _, rfl, h0, _, _, rfl, h1, (by simpa using h2)⟩
def F.close_seated.c1 (q1 : Bool) : Option (Bool) := (some q1)
def F.close_seated (x1 : Int) : Option (Bool) := (if decide (x1 ≥ 2) = true then (F.close_seated.c1 (decide (x1 ≤ 8))) else (F.close_seated.c1 false))
theorem P.close_seated (g0 : GW) (x1 : Int) (o1 : Bool) (hs : F.close_seated x1 = some o1) :
    Calls Try.prog 20 #[.int .i64 x1] g0.w (Ret NoM g0 fun v g => v = .bool o1) := by
  refine calls_of (args := [.int .i64 x1]) Try.func20 rfl (0) ?_
  intro t ht htL
  refine ⟨_, rfl, ?_⟩
  refine CP.refr 9 [(0, .int .i64 x1)] (by kernel_rfl) (by kernel_rfl) ?_
  intro ds
  have tot : Step (fun l => NoM l ∨ t ≤ l) g0 g0 := Step.refl _ _
  unfold F.close_seated at hs
  refine CP.seqR ?_
  refine WP.still 1 (by kernel_rfl) ?_
  refine WP.done (by kernel_rfl) ?_
  refine NX.then_n ?_
  refine CP.cut (fun tm g => ∃ (q1 : Bool), Fr 9 [(2, .bool q1)] tm ∧ Step (fun l => NoM l ∨ t ≤ l) g0 g ∧ (F.close_seated.c1 q1) = some o1) ?_ ?_
  · refine CP.region ?_
    refine WP.still 3 (by kernel_rfl) ?_
    refine WP.guard 5 (b := decide (x1 ≥ 2)) (by kernel_rfl) (fun h2 => ?_) (fun h2 => ?_)
    · replace hs := of_if_t hs h2
      refine WP.still 4 (by kernel_rfl) ?_
      refine WP.done (by kernel_rfl) ?_
      refine NX.post ?_
      exact ⟨decide (x1 ≤ 8), ⟨by kernel_rfl, by kernel_rfl⟩, tot, hs⟩
    · replace hs := of_if_f hs h2
      refine WP.still 4 (by kernel_rfl) ?_
      refine WP.done (by kernel_rfl) ?_
      refine NX.post ?_
      exact ⟨false, ⟨by kernel_rfl, by kernel_rfl⟩, tot, hs⟩
  · clear tot hs
    rintro tm g ⟨q1, hF, tot, hs⟩
    clear ds
    obtain ⟨ds, rfl⟩ := hF.open
    clear hF
    unfold F.close_seated.c1 at hs
    refine CP.ret ?_
    replace hs := Option.some.inj hs
    obtain rfl := hs
    exact NX.fin (v := .bool q1) (Res.still (by kernel_rfl)) tot htL rfl
def F.coin_Right.c1 (q1 : Bool) : Option (Bool) := (some q1)
def F.coin_Right (x1 : Int) : Option (Bool) := (if decide (x1 ≥ 0) = true then (F.coin_Right.c1 (decide (x1 ≤ 1125899906842624))) else (F.coin_Right.c1 false))
theorem P.coin_Right (g0 : GW) (x1 : Int) (o1 : Bool) (hs : F.coin_Right x1 = some o1) :
    Calls Try.prog 21 #[.int .i64 x1] g0.w (Ret NoM g0 fun v g => v = .bool o1) := by
  refine calls_of (args := [.int .i64 x1]) Try.func21 rfl (0) ?_
  intro t ht htL
  refine ⟨_, rfl, ?_⟩
  refine CP.refr 9 [(0, .int .i64 x1)] (by kernel_rfl) (by kernel_rfl) ?_
  intro ds
  have tot : Step (fun l => NoM l ∨ t ≤ l) g0 g0 := Step.refl _ _
  unfold F.coin_Right at hs
  refine CP.seqR ?_
  refine WP.still 1 (by kernel_rfl) ?_
  refine WP.done (by kernel_rfl) ?_
  refine NX.then_n ?_
  refine CP.cut (fun tm g => ∃ (q1 : Bool), Fr 9 [(2, .bool q1)] tm ∧ Step (fun l => NoM l ∨ t ≤ l) g0 g ∧ (F.coin_Right.c1 q1) = some o1) ?_ ?_
  · refine CP.region ?_
    refine WP.still 3 (by kernel_rfl) ?_
    refine WP.guard 5 (b := decide (x1 ≥ 0)) (by kernel_rfl) (fun h2 => ?_) (fun h2 => ?_)
    · replace hs := of_if_t hs h2
      refine WP.still 4 (by kernel_rfl) ?_
      refine WP.done (by kernel_rfl) ?_
      refine NX.post ?_
      exact ⟨decide (x1 ≤ 1125899906842624), ⟨by kernel_rfl, by kernel_rfl⟩, tot, hs⟩
    · replace hs := of_if_f hs h2
      refine WP.still 4 (by kernel_rfl) ?_
      refine WP.done (by kernel_rfl) ?_
      refine NX.post ?_
      exact ⟨false, ⟨by kernel_rfl, by kernel_rfl⟩, tot, hs⟩
  · clear tot hs
    rintro tm g ⟨q1, hF, tot, hs⟩
    clear ds
    obtain ⟨ds, rfl⟩ := hF.open
    clear hF
    unfold F.coin_Right.c1 at hs
    refine CP.ret ?_
    replace hs := Option.some.inj hs
    obtain rfl := hs
    exact NX.fin (v := .bool q1) (Res.still (by kernel_rfl)) tot htL rfl
def F.coin_Add.c1 (x1 : Int) (x2 : Int) (q4 : Bool) : Option (Int × Int) := (if q4 = true then (some (0, 2)) else (some ((IntKind.i64.wrap (x1 + x2)), 0)))
def F.coin_Add (x1 : Int) (x2 : Int) : Option (Int × Int) := ((F.coin_Right x1).bind fun q5 => (if (!q5) = true then (F.coin_Add.c1 x1 x2 true) else ((F.coin_Right x2).bind fun q6 => (if (!q6) = true then (F.coin_Add.c1 x1 x2 true) else ((F.coin_Right (IntKind.i64.wrap (x1 + x2))).bind fun q7 => (F.coin_Add.c1 x1 x2 (!q7)))))))
theorem P.coin_Add (g0 : GW) (x1 : Int) (x2 : Int) (o1 : Int) (o2 : Int) (hs : F.coin_Add x1 x2 = some (o1, o2)) :
    Calls Try.prog 39 #[.int .i64 x1, .int .i64 x2] g0.w (Ret NoM g0 fun v g => v = .tuple #[.int .i64 o1, .int .i64 o2]) := by
  refine calls_of (args := [.int .i64 x1, .int .i64 x2]) Try.func39 rfl (0) ?_
  intro t ht htL
  refine ⟨_, rfl, ?_⟩
  refine CP.refr 24 [(0, .int .i64 x1), (1, .int .i64 x2)] (by kernel_rfl) (by kernel_rfl) ?_
  intro ds
  have tot : Step (fun l => NoM l ∨ t ≤ l) g0 g0 := Step.refl _ _
  unfold F.coin_Add at hs
  refine CP.seqR ?_
  refine WP.still 2 (by kernel_rfl) ?_
  refine WP.done (by kernel_rfl) ?_
  refine NX.then_n ?_
  refine CP.seq ?_
  refine CP.cut (fun tm g => ∃ (q4 : Bool), Fr 24 [(0, .int .i64 x1), (1, .int .i64 x2), (20, .bool q4)] tm ∧ Step (fun l => NoM l ∨ t ≤ l) g0 g ∧ (F.coin_Add.c1 x1 x2 q4) = some (o1, o2)) ?_ ?_
  · refine CP.region ?_
    refine WP.still 1 (by kernel_rfl) ?_
    replace hs := Option.bind_eq_some_iff.1 hs
    obtain ⟨q5, hk4, hs⟩ := hs
    have hcal4 := P.coin_Right g0 x1 q5 hk4
    refine WP.callC hcal4 (by kernel_rfl) ?_
    rintro _ g4 st4 rfl
    replace tot := tot.trans st4.pure
    refine WP.still 2 (by kernel_rfl) ?_
    refine WP.guard 9 (b := (!q5)) (by kernel_rfl) (fun h4 => ?_) (fun h4 => ?_)
    · replace hs := of_if_t hs h4
      refine WP.still 11 (by kernel_rfl) ?_
      refine WP.done (by kernel_rfl) ?_
      refine NX.post ?_
      exact ⟨true, ⟨by kernel_rfl, by kernel_rfl⟩, tot, hs⟩
    · replace hs := of_if_f hs h4
      refine WP.still 1 (by kernel_rfl) ?_
      replace hs := Option.bind_eq_some_iff.1 hs
      obtain ⟨q6, hk5, hs⟩ := hs
      have hcal5 := P.coin_Right g4 x2 q6 hk5
      refine WP.callC hcal5 (by kernel_rfl) ?_
      rintro _ g5 st5 rfl
      replace tot := tot.trans st5.pure
      refine WP.still 3 (by kernel_rfl) ?_
      refine WP.guard 14 (b := (!q6)) (by kernel_rfl) (fun h5 => ?_) (fun h5 => ?_)
      · replace hs := of_if_t hs h5
        refine WP.still 6 (by kernel_rfl) ?_
        refine WP.done (by kernel_rfl) ?_
        refine NX.post ?_
        exact ⟨true, ⟨by kernel_rfl, by kernel_rfl⟩, tot, hs⟩
      · replace hs := of_if_f hs h5
        refine WP.still 3 (by kernel_rfl) ?_
        replace hs := Option.bind_eq_some_iff.1 hs
        obtain ⟨q7, hk6, hs⟩ := hs
        have hcal6 := P.coin_Right g5 (IntKind.i64.wrap (x1 + x2)) q7 hk6
        refine WP.callC hcal6 (by kernel_rfl) ?_
        rintro _ g6 st6 rfl
        replace tot := tot.trans st6.pure
        refine WP.still 2 (by kernel_rfl) ?_
        refine WP.done (by kernel_rfl) ?_
        refine NX.post ?_
        exact ⟨(!q7), ⟨by kernel_rfl, by kernel_rfl⟩, tot, hs⟩
  · clear tot hs
    rintro tm g ⟨q4, hF, tot, hs⟩
    clear ds
    obtain ⟨ds, rfl⟩ := hF.open
    clear hF
    unfold F.coin_Add.c1 at hs
    refine CP.cond (b := q4) (by kernel_rfl) (fun h3 => ?_) (fun h3 => ?_)
    · replace hs := of_if_t hs h3
      refine CP.seqR ?_
      refine WP.still 2 (by kernel_rfl) ?_
      refine WP.done (by kernel_rfl) ?_
      refine NX.then_n ?_
      refine CP.ret ?_
      refine NX.then_r ?_
      replace hs := Option.some.inj hs
      obtain ⟨rfl, rfl⟩ := Prod.mk.inj hs
      exact NX.fin (v := .tuple #[.int .i64 0, .int .i64 2]) (Res.still (by kernel_rfl)) tot htL rfl
    · replace hs := of_if_f hs h3
      refine CP.skip ?_
      refine NX.then_n ?_
      refine CP.seqR ?_
      refine WP.still 5 (by kernel_rfl) ?_
      refine WP.done (by kernel_rfl) ?_
      refine NX.then_n ?_
      refine CP.ret ?_
      replace hs := Option.some.inj hs
      obtain ⟨rfl, rfl⟩ := Prod.mk.inj hs
      exact NX.fin (v := .tuple #[.int .i64 (IntKind.i64.wrap (x1 + x2)), .int .i64 0]) (Res.still (by kernel_rfl)) tot htL rfl
def F.coin_Sum.l1 (l1 : List Int) : Nat → Int → Int → Option (Int × Int)
  | 0, _, _ => none
  | k + 1, x3, x4 => (if decide (x4 < (l1.length : Int)) = true then (if 0 ≤ x4 ∧ x4 < (l1.length : Int) then ((F.coin_Add x3 (getI l1 x4)).bind fun (x9, x10) => (if (x10 != 0) = true then (some (0, x10)) else (F.coin_Sum.l1 l1 k x9 (IntKind.i64.wrap (x4 + 1))))) else none) else (some (x3, 0)))
def F.coin_Sum (l1 : List Int) : Option (Int × Int) := (F.coin_Sum.l1 l1 fuel 0 0)
theorem P.coin_Sum (g0 : GW) (l1 : List Int) (a1 : Option Addr) (n1 : Nat) (c1 : Nat) (hR1 : RdS (Kd.int .i64) g0 3 a1 n1 c1 l1) (o1 : Int) (o2 : Int) (hs : F.coin_Sum l1 = some (o1, o2)) :
    Calls Try.prog 24 #[.slice a1 n1 c1] g0.w (Ret NoM g0 fun v g => v = .tuple #[.int .i64 o1, .int .i64 o2]) := by
  refine calls_of (args := [.slice a1 n1 c1]) Try.func24 rfl (0) ?_
  intro t ht htL
  refine ⟨_, rfl, ?_⟩
  refine CP.refr 27 [(0, .slice a1 n1 c1)] (by kernel_rfl) (by kernel_rfl) ?_
  intro ds
  have tot : Step (fun l => NoM l ∨ t ≤ l) g0 g0 := Step.refl _ _
  unfold F.coin_Sum at hs
  refine CP.seqR ?_
  refine WP.still 2 (by kernel_rfl) ?_
  refine WP.done (by kernel_rfl) ?_
  refine NX.then_n ?_
  refine CP.seqR ?_
  refine WP.still 1 (by kernel_rfl) ?_
  refine WP.done (by kernel_rfl) ?_
  refine NX.then_n ?_
  refine CP.seq ?_
  refine CP.seqR ?_
  refine WP.still 1 (by kernel_rfl) ?_
  refine WP.len (a := a1) (cp := c1) hR1.len (by kernel_rfl) ?_
  refine WP.still 1 (by kernel_rfl) ?_
  refine WP.done (by kernel_rfl) ?_
  refine NX.then_n ?_
  refine CP.block ?_
  generalize fuel = k1 at hs
  refine CP.loop (fun k1 tm g => ∃ (x3 : Int) (x4 : Int), Fr 27 [(4, .int .i64 x3), (9, .slice a1 n1 c1), (10, .int .i64 (l1.length : Int)), (11, .int .i64 x4)] tm ∧ Step (fun l => NoM l ∨ t ≤ l) g0 g ∧ RdS (Kd.int .i64) g 3 a1 n1 c1 l1 ∧ F.coin_Sum.l1 l1 k1 x3 x4 = some (o1, o2)) k1 ?_ ?_ ?_
  · exact ⟨0, 0, ⟨by kernel_rfl, by kernel_rfl⟩, tot, hR1, hs⟩
  · rintro tm g ⟨x3, x4, hF, tot, hR1, hs⟩
    exact absurd hs (by simp [F.coin_Sum.l1])
  clear tot hs hR1
  rintro k1 tm g ⟨x3, x4, hF, tot, hR1, hs⟩
  clear ds
  obtain ⟨ds, rfl⟩ := hF.open
  clear hF
  unfold F.coin_Sum.l1 at hs
  refine CP.seqR ?_
  refine WP.still 1 (by kernel_rfl) ?_
  refine WP.done (by kernel_rfl) ?_
  refine NX.then_n ?_
  refine CP.seq ?_
  refine CP.cond (b := decide (x4 < (l1.length : Int))) (by kernel_rfl) (fun h5 => ?_) (fun h5 => ?_)
  · replace hs := of_if_t hs h5
    refine CP.skip ?_
    refine NX.then_n ?_
    refine CP.seq ?_
    refine CP.block ?_
    refine CP.seqR ?_
    by_cases hc3 : 0 ≤ x4 ∧ x4 < (l1.length : Int)
    case neg => rw [if_neg hc3] at hs; cases hs
    replace hs := of_if_p hs hc3
    obtain ⟨b3, u3, ha3⟩ := hR1.at hc3
    refine WP.indexA (t := 22) (e := 3) (sz := 1) (cap := c1) (k := .i64) (i := x4) hR1.len ha3 (by kernel_rfl) (by kernel_rfl) hc3 ?_
    obtain ⟨cs3, hcR3, hcV3⟩ := hR1.src.view (getI_some hc3) ha3
    replace hcR3 := Kd.o_int hcR3
    refine WP.loadV [[.int .i64 (getI l1 x4)]] [1] hcV3 hcR3 rfl (f := 0) (ty := 3) (agg := false) (size := 1) (rs := [[.int .i64 (getI l1 x4)]]) (v := .int .i64 (getI l1 x4)) (by kernel_rfl) (by kernel_rfl) (by kernel_rfl) (by kernel_rfl) ?_
    refine WP.still 1 (by kernel_rfl) ?_
    refine WP.done (by kernel_rfl) ?_
    refine NX.then_n ?_
    refine CP.seqR ?_
    refine WP.still 2 (by kernel_rfl) ?_
    replace hs := Option.bind_eq_some_iff.1 hs
    obtain ⟨⟨x9, x10⟩, hk3, hs⟩ := hs
    dsimp only at hs
    have hcal3 := P.coin_Add g x3 (getI l1 x4) x9 x10 hk3
    refine WP.callC hcal3 (by kernel_rfl) ?_
    rintro _ g3 st3 rfl
    replace hR1 := hR1.mono st3 (fun x => x)
    replace tot := tot.trans st3.pure
    refine WP.still 5 (by kernel_rfl) ?_
    refine WP.done (by kernel_rfl) ?_
    refine NX.then_n ?_
    refine CP.seq ?_
    refine CP.seqR ?_
    refine WP.still 2 (by kernel_rfl) ?_
    refine WP.done (by kernel_rfl) ?_
    refine NX.then_n ?_
    refine CP.refr 27 [(7, .int .i64 x9), (8, .int .i64 x10), (9, .slice a1 n1 c1), (10, .int .i64 (l1.length : Int)), (11, .int .i64 x4), (22, .bool (x10 != 0))] (by kernel_rfl) (by kernel_rfl) ?_
    clear ds
    intro ds
    refine CP.cond (b := (x10 != 0)) (by kernel_rfl) (fun h6 => ?_) (fun h6 => ?_)
    · replace hs := of_if_t hs h6
      refine CP.seqR ?_
      refine WP.still 3 (by kernel_rfl) ?_
      refine WP.done (by kernel_rfl) ?_
      refine NX.then_n ?_
      refine CP.ret ?_
      refine NX.then_r ?_
      refine NX.block_r ?_
      refine NX.then_r ?_
      refine NX.then_r ?_
      refine NX.block_r ?_
      refine NX.then_r ?_
      replace hs := Option.some.inj hs
      obtain ⟨rfl, rfl⟩ := Prod.mk.inj hs
      exact NX.fin (v := .tuple #[.int .i64 0, .int .i64 x10]) (Res.still (by kernel_rfl)) tot htL rfl
    · replace hs := of_if_f hs h6
      refine CP.skip ?_
      refine NX.then_n ?_
      refine CP.region ?_
      refine WP.still 2 (by kernel_rfl) ?_
      refine WP.done (by kernel_rfl) ?_
      refine NX.block_n ?_
      refine NX.then_n ?_
      refine CP.region ?_
      refine WP.still 2 (by kernel_rfl) ?_
      refine WP.done (by kernel_rfl) ?_
      refine NX.post ?_
      exact ⟨x9, (IntKind.i64.wrap (x4 + 1)), ⟨by kernel_rfl, by kernel_rfl⟩, tot, hR1, hs⟩
  · replace hs := of_if_f hs h5
    refine CP.exit ?_
    refine NX.then_e ?_
    refine NX.then_e ?_
    refine NX.block_s ?_
    refine NX.then_n ?_
    refine CP.seqR ?_
    refine WP.still 3 (by kernel_rfl) ?_
    refine WP.done (by kernel_rfl) ?_
    refine NX.then_n ?_
    refine CP.ret ?_
    replace hs := Option.some.inj hs
    obtain ⟨rfl, rfl⟩ := Prod.mk.inj hs
    exact NX.fin (v := .tuple #[.int .i64 x3, .int .i64 0]) (Res.still (by kernel_rfl)) tot htL rfl
def F.slices_Clone_int_int_nil : Option ((List Int)) := (some ([]))
theorem P.slices_Clone_int_int_nil (g0 : GW) (r0 : Nat) (o1 : List Int) (hs : F.slices_Clone_int_int_nil = some o1) :
    Calls Try.prog 26 #[.slice none 0 0] g0.w (Ret NoM g0 fun v g => ∃ (a_1 : Option Addr) (n_1 : Nat) (c_1 : Nat), v = .slice a_1 n_1 c_1 ∧ OwnS (Kd.int .i64) g r0 3 a_1 n_1 c_1 o1) := by
  refine calls_of (args := [.slice none 0 0]) Try.func26 rfl (0) ?_
  intro t ht htL
  refine ⟨_, rfl, ?_⟩
  refine CP.refr 8 [(0, .slice none 0 0)] (by kernel_rfl) (by kernel_rfl) ?_
  intro ds
  have tot : Step (fun l => NoM l ∨ t ≤ l) g0 g0 := Step.refl _ _
  unfold F.slices_Clone_int_int_nil at hs
  refine CP.seqR ?_
  refine WP.still 1 (by kernel_rfl) ?_
  refine WP.done (by kernel_rfl) ?_
  refine NX.then_n ?_
  refine CP.seq ?_
  refine CP.seqR ?_
  refine WP.still 2 (by kernel_rfl) ?_
  refine WP.done (by kernel_rfl) ?_
  refine NX.then_n ?_
  refine CP.cond_t (by kernel_rfl) ?_
  refine CP.seqR ?_
  refine WP.still 1 (by kernel_rfl) ?_
  refine WP.done (by kernel_rfl) ?_
  refine NX.then_n ?_
  refine CP.ret ?_
  refine NX.then_r ?_
  replace hs := Option.some.inj hs
  obtain rfl := hs
  exact NX.fin (v := .slice none 0 0) (Res.still (by kernel_rfl)) tot htL ⟨none, 0, 0, rfl, (OwnS.nil _ _ _ _)⟩
def F.slices_Clone_int_int_some (l1 : List Int) : Option ((List Int)) := (if ([] : List Int).length + l1.length ≤ 17592186044416 then (some (([] : List Int) ++ l1)) else none)
theorem P.slices_Clone_int_int_some (g0 : GW) (r0 : Nat) (l1 : List Int) (n1 : Nat) (c1 : Nat) (p1 : Addr) (hR1 : RdS (Kd.int .i64) g0 3 (some p1) n1 c1 l1) (o1 : List Int) (hs : F.slices_Clone_int_int_some l1 = some o1) :
    Calls Try.prog 26 #[.slice (some p1) n1 c1] g0.w (Ret NoM g0 fun v g => ∃ (a_1 : Option Addr) (n_1 : Nat) (c_1 : Nat), v = .slice a_1 n_1 c_1 ∧ OwnS (Kd.int .i64) g r0 3 a_1 n_1 c_1 o1) := by
  refine calls_of (args := [.slice (some p1) n1 c1]) Try.func26 rfl (0) ?_
  intro t ht htL
  refine ⟨_, rfl, ?_⟩
  refine CP.refr 8 [(0, .slice (some p1) n1 c1)] (by kernel_rfl) (by kernel_rfl) ?_
  intro ds
  have tot : Step (fun l => NoM l ∨ t ≤ l) g0 g0 := Step.refl _ _
  unfold F.slices_Clone_int_int_some at hs
  refine CP.seqR ?_
  refine WP.still 1 (by kernel_rfl) ?_
  refine WP.done (by kernel_rfl) ?_
  refine NX.then_n ?_
  refine CP.seq ?_
  refine CP.seqR ?_
  refine WP.still 2 (by kernel_rfl) ?_
  refine WP.done (by kernel_rfl) ?_
  refine NX.then_n ?_
  refine CP.cond_f (by kernel_rfl) ?_
  refine CP.skip ?_
  refine NX.then_n ?_
  refine CP.seqR ?_
  refine WP.mkSl (kd := (Kd.int .i64)) (t := 22) (e := 3) (bytes := 8) (t + 1) [] ([] : List Int) (by kernel_rfl) (by kernel_rfl) (Nat.le_of_ble_eq_true rfl) (Nat.le_of_ble_eq_true rfl) all_nil (rfl) rfl ?_
  intro g1 a1 st1 hR2
  replace hR1 := hR1.mono st1 (fun x => x)
  replace tot := tot.trans st1.pure
  refine WP.still 1 (by kernel_rfl) ?_
  by_cases hc1 : ([] : List Int).length + l1.length ≤ 17592186044416
  case neg => rw [if_neg hc1] at hs; cases hs
  replace hs := of_if_p hs hc1
  refine WP.append (kd := (Kd.int .i64)) (t := 22) (e := 3) (bytes := 8) (a2 := (some p1)) (c2 := c1) hR2 hR1.src hR1.len (by kernel_rfl) (by kernel_rfl) (by omega) (by simp only [maxLen]; omega) (by omega) ?_
  intro g2 a2 c2 st2 hR3
  replace hR1 := hR1.mono st2 (WL.no1 (by omega))
  replace tot := tot.trans (st2.up1 (.inr (by omega)))
  refine WP.still 1 (by kernel_rfl) ?_
  refine WP.done (by kernel_rfl) ?_
  refine NX.then_n ?_
  refine CP.ret ?_
  obtain ⟨g3, hw1, st3, hnew⟩ := hR3.relab (by omega) r0
  refine NX.regw hw1 ?_
  replace tot := tot.trans (st3.up1 (.inr (by omega)))
  clear hR3
  have hR3 := hnew
  clear hnew
  replace hs := Option.some.inj hs
  obtain rfl := hs
  exact NX.fin (v := .slice a2 (0 + n1) c2) (Res.still (by kernel_rfl)) tot htL ⟨a2, (0 + n1), c2, rfl, hR3⟩
def F.slices_Clone_int_int (l1 : List Int) : Option ((List Int)) := F.slices_Clone_int_int_some l1
theorem P.slices_Clone_int_int (g0 : GW) (r0 : Nat) (l1 : List Int) (a1 : Option Addr) (n1 : Nat) (c1 : Nat) (hR1 : RdS (Kd.int .i64) g0 3 a1 n1 c1 l1) (o1 : List Int) (hs : F.slices_Clone_int_int l1 = some o1) :
    Calls Try.prog 26 #[.slice a1 n1 c1] g0.w (Ret NoM g0 fun v g => ∃ (a_1 : Option Addr) (n_1 : Nat) (c_1 : Nat), v = .slice a_1 n_1 c_1 ∧ OwnS (Kd.int .i64) g r0 3 a_1 n_1 c_1 o1) := by
  rcases hR1.nilOr with ⟨rfl, rfl, rfl, rfl⟩ | ⟨b, rfl⟩
  · exact P.slices_Clone_int_int_nil _ _ _ hs
  · exact P.slices_Clone_int_int_some _ _ _ _ _ _ hR1 _ hs
def F.close_others_1.c1 (q1 : Bool) : Option (Int) := (if q1 = true then (some 0) else (some 1))
def F.close_others_1 (x1 : Int) (x2 : Int) (l1 : List Bool) : Option (Int) := (if (x1 == x2) = true then (F.close_others_1.c1 true) else (if 0 ≤ x1 ∧ x1 < (l1.length : Int) then (F.close_others_1.c1 (getI l1 x1)) else none))
theorem P.close_others_1 (g0 : GW) (m0 : Nat) (m1 : Nat) (x1 : Int) (x2 : Int) (l1 : List Bool) (a1 : Option Addr) (n1 : Nat) (c1 : Nat) (b1 : Nat) (b2 : Nat) (hR1 : RdS Kd.bool g0 4 a1 n1 c1 l1) (hB1 : Box g0 m0 b1 3 [[.int .i64 x2]] [1]) (hB2 : Box g0 m1 b2 28 [[.slice a1 n1 c1]] [1]) (hm1_0 : m1 ≠ m0) (hm0 : m0 ≠ 0) (hm1 : m1 ≠ 0) (o1 : Int) (hs : F.close_others_1 x1 x2 l1 = some o1) :
    Calls Try.prog 40 #[.int .i64 x1, .pointer (some ⟨b1, 0, none⟩), .pointer (some ⟨b2, 0, none⟩)] g0.w (Ret NoM g0 fun v g => v = .int .i64 o1) := by
  refine calls_of (args := [.int .i64 x1, .pointer (some ⟨b1, 0, none⟩), .pointer (some ⟨b2, 0, none⟩)]) Try.func40 rfl (m0 + m1 + 0) ?_
  intro t ht htL
  refine ⟨_, rfl, ?_⟩
  refine CP.refr 14 [(0, .int .i64 x1), (1, .pointer (some ⟨b1, 0, none⟩)), (2, .pointer (some ⟨b2, 0, none⟩))] (by kernel_rfl) (by kernel_rfl) ?_
  intro ds
  have tot : Step (fun l => NoM l ∨ t ≤ l) g0 g0 := Step.refl _ _
  unfold F.close_others_1 at hs
  refine CP.seqR ?_
  refine WP.still 1 (by kernel_rfl) ?_
  refine WP.done (by kernel_rfl) ?_
  refine NX.then_n ?_
  refine CP.seq ?_
  refine CP.cut (fun tm g => ∃ (q1 : Bool), Fr 14 [(13, .bool q1)] tm ∧ Step (fun l => NoM l ∨ t ≤ l) g0 g ∧ (F.close_others_1.c1 q1) = some o1) ?_ ?_
  · refine CP.region ?_
    refine WP.still 1 (by kernel_rfl) ?_
    refine WP.loadB (v := .int .i64 x2) hB1 (by kernel_rfl) (by kernel_rfl) ?_
    refine WP.still 2 (by kernel_rfl) ?_
    refine WP.guard 8 (b := (x1 == x2)) (by kernel_rfl) (fun h3 => ?_) (fun h3 => ?_)
    · replace hs := of_if_t hs h3
      refine WP.still 5 (by kernel_rfl) ?_
      refine WP.done (by kernel_rfl) ?_
      refine NX.post ?_
      exact ⟨true, ⟨by kernel_rfl, by kernel_rfl⟩, tot, hs⟩
    · replace hs := of_if_f hs h3
      refine WP.loadB (v := .slice a1 n1 c1) hB2 (by kernel_rfl) (by kernel_rfl) ?_
      refine WP.still 1 (by kernel_rfl) ?_
      by_cases hc2 : 0 ≤ x1 ∧ x1 < (l1.length : Int)
      case neg => rw [if_neg hc2] at hs; cases hs
      replace hs := of_if_p hs hc2
      obtain ⟨b4, u2, ha2⟩ := hR1.at hc2
      refine WP.indexA (t := 28) (e := 4) (sz := 1) (cap := c1) (k := .i64) (i := x1) hR1.len ha2 (by kernel_rfl) (by kernel_rfl) hc2 ?_
      obtain ⟨cs2, hcR2, hcV2⟩ := hR1.src.view (getI_some hc2) ha2
      replace hcR2 := Kd.o_bool hcR2
      refine WP.loadV [[.bool (getI l1 x1)]] [1] hcV2 hcR2 rfl (f := 0) (ty := 4) (agg := false) (size := 1) (rs := [[.bool (getI l1 x1)]]) (v := .bool (getI l1 x1)) (by kernel_rfl) (by kernel_rfl) (by kernel_rfl) (by kernel_rfl) ?_
      refine WP.still 1 (by kernel_rfl) ?_
      refine WP.done (by kernel_rfl) ?_
      refine NX.post ?_
      exact ⟨(getI l1 x1), ⟨by kernel_rfl, by kernel_rfl⟩, tot, hs⟩
  · clear tot hs hB1 hB2 hR1
    rintro tm g ⟨q1, hF, tot, hs⟩
    clear ds
    obtain ⟨ds, rfl⟩ := hF.open
    clear hF
    unfold F.close_others_1.c1 at hs
    refine CP.cond (b := q1) (by kernel_rfl) (fun h2 => ?_) (fun h2 => ?_)
    · replace hs := of_if_t hs h2
      refine CP.seqR ?_
      refine WP.still 1 (by kernel_rfl) ?_
      refine WP.done (by kernel_rfl) ?_
      refine NX.then_n ?_
      refine CP.ret ?_
      refine NX.then_r ?_
      replace hs := Option.some.inj hs
      obtain rfl := hs
      exact NX.fin (v := .int .i64 0) (Res.still (by kernel_rfl)) tot htL rfl
    · replace hs := of_if_f hs h2
      refine CP.skip ?_
      refine NX.then_n ?_
      refine CP.seqR ?_
      refine WP.still 1 (by kernel_rfl) ?_
      refine WP.done (by kernel_rfl) ?_
      refine NX.then_n ?_
      refine CP.ret ?_
      replace hs := Option.some.inj hs
      obtain rfl := hs
      exact NX.fin (v := .int .i64 1) (Res.still (by kernel_rfl)) tot htL rfl
def F.close_others.c1 (nx1 : (List Int) → Bool → Int → Option ((List Int) × Bool)) (x3 : Int) (l6 : List Int) (q5 : Bool) : Option ((List Int) × Bool) := (nx1 l6 q5 (IntKind.i64.wrap (x3 + 1)))
def F.close_others.l1 (x1 : Int) (l1 : List Bool) : Nat → (List Int) → Bool → Int → Option ((List Int) × Bool)
  | 0, _, _, _ => none
  | k + 1, l3, q2, x3 => (if decide (x3 < (l1.length : Int)) = true then ((F.close_others_1 x3 x1 l1).bind fun x7 => (if 0 ≤ x3 ∧ x3 < (l3.length : Int) then (if 0 ≤ x3 ∧ x3 < ((setI l3 x3 x7).length : Int) then (if ((getI (setI l3 x3 x7) x3) == 0) = true then (F.close_others.c1 (F.close_others.l1 x1 l1 k) x3 (setI l3 x3 x7) q2) else (F.close_others.c1 (F.close_others.l1 x1 l1 k) x3 (setI l3 x3 x7) true)) else none) else none)) else (some (l3, q2)))
def F.close_others (x1 : Int) (l1 : List Bool) : Option ((List Int) × Bool) := (if 0 ≤ (l1.length : Int) ∧ (l1.length : Int) ≤ 17592186044416 then (F.close_others.l1 x1 l1 fuel (List.replicate (l1.length : Int).toNat 0) false 0) else none)
theorem P.close_others (g0 : GW) (r0 : Nat) (x1 : Int) (l1 : List Bool) (a1 : Option Addr) (n1 : Nat) (c1 : Nat) (hR1 : RdS Kd.bool g0 4 a1 n1 c1 l1) (o1 : List Int) (o2 : Bool) (hs : F.close_others x1 l1 = some (o1, o2)) :
    Calls Try.prog 27 #[.int .i64 x1, .slice a1 n1 c1] g0.w (Ret NoM g0 fun v g => ∃ (a_1 : Option Addr) (n_1 : Nat) (c_1 : Nat), v = .tuple #[.slice a_1 n_1 c_1, .bool o2] ∧ OwnS (Kd.int .i64) g r0 3 a_1 n_1 c_1 o1) := by
  refine calls_of (args := [.int .i64 x1, .slice a1 n1 c1]) Try.func27 rfl (0) ?_
  intro t ht htL
  refine ⟨_, rfl, ?_⟩
  refine CP.refr 33 [(0, .int .i64 x1), (1, .slice a1 n1 c1)] (by kernel_rfl) (by kernel_rfl) ?_
  intro ds
  have tot : Step (fun l => NoM l ∨ t ≤ l) g0 g0 := Step.refl _ _
  unfold F.close_others at hs
  refine CP.seqR ?_
  refine WP.alloc (T := 3) (t + 1) [[.int .i64 x1]] [1] (by kernel_rfl) rfl ?_
  intro g1 b1 st1 hB1
  replace hR1 := hR1.mono st1 (fun x => x)
  replace tot := tot.trans st1.pure
  refine WP.alloc (T := 28) (t + 2) [[.slice a1 n1 c1]] [1] (by kernel_rfl) rfl ?_
  intro g2 b2 st2 hB2
  replace hR1 := hR1.mono st2 (fun x => x)
  replace hB1 := hB1.mono st2 (fun x => x)
  replace tot := tot.trans st2.pure
  refine WP.still 2 (by kernel_rfl) ?_
  refine WP.done (by kernel_rfl) ?_
  refine NX.then_n ?_
  refine CP.scope ?_
  refine CP.seqR ?_
  refine WP.still 2 (by kernel_rfl) ?_
  refine WP.done (by kernel_rfl) ?_
  refine NX.then_n ?_
  refine CP.seqR ?_
  refine WP.loadB (v := .slice a1 n1 c1) hB2 (by kernel_rfl) (by kernel_rfl) ?_
  refine WP.len (a := a1) (cp := c1) hR1.len (by kernel_rfl) ?_
  by_cases hc1 : 0 ≤ (l1.length : Int) ∧ (l1.length : Int) ≤ 17592186044416
  case neg => rw [if_neg hc1] at hs; cases hs
  replace hs := of_if_p hs hc1
  refine WP.make (kd := (Kd.int .i64)) (t + 3) (t := 22) (e := 3) (bytes := 8) (kl := .i64) (kc := .i64) (i := (l1.length : Int)) (by kernel_rfl) (by kernel_rfl) (by omega) (by omega) (by omega) (z := 0) (by intro zv hz; cases hz; exact (by exact rfl)) ?_
  intro g3 a2 st3 hR2
  replace hB2 := hB2.mono st3 (fun x => x)
  replace hR1 := hR1.mono st3 (fun x => x)
  replace hB1 := hB1.mono st3 (fun x => x)
  replace tot := tot.trans st3.pure
  refine WP.still 2 (by kernel_rfl) ?_
  refine WP.done (by kernel_rfl) ?_
  refine NX.then_n ?_
  refine CP.seq ?_
  refine CP.label ?_
  refine NX.then_n ?_
  refine CP.seq ?_
  refine CP.seqR ?_
  refine WP.loadB (v := .slice a1 n1 c1) hB2 (by kernel_rfl) (by kernel_rfl) ?_
  refine WP.len (a := a1) (cp := c1) hR1.len (by kernel_rfl) ?_
  refine WP.still 1 (by kernel_rfl) ?_
  refine WP.done (by kernel_rfl) ?_
  refine NX.then_n ?_
  refine CP.refr 33 [(6, .func (.func 40) #[] #[.pointer (some ⟨b1, 0, none⟩), .pointer (some ⟨b2, 0, none⟩)]), (7, .slice a2 ((l1.length : Int).toNat) ((l1.length : Int).toNat)), (8, .bool false), (15, .int .i64 (l1.length : Int)), (16, .int .i64 0)] (by kernel_rfl) (by kernel_rfl) ?_
  clear ds
  intro ds
  refine CP.block ?_
  generalize fuel = k1 at hs
  refine CP.loop (fun k1 tm g => ∃ (l3 : List Int) (a4 : Option Addr) (n3 : Nat) (c3 : Nat) (q2 : Bool) (x3 : Int), Fr 33 [(6, .func (.func 40) #[] #[.pointer (some ⟨b1, 0, none⟩), .pointer (some ⟨b2, 0, none⟩)]), (7, .slice a4 n3 c3), (8, .bool q2), (15, .int .i64 (l1.length : Int)), (16, .int .i64 x3)] tm ∧ Step (fun l => NoM l ∨ t ≤ l) g0 g ∧ Box g (t + 1) b1 3 [[.int .i64 x1]] [1] ∧ Box g (t + 2) b2 28 [[.slice a1 n1 c1]] [1] ∧ RdS Kd.bool g 4 a1 n1 c1 l1 ∧ OwnS (Kd.int .i64) g (t + 3) 3 a4 n3 c3 l3 ∧ F.close_others.l1 x1 l1 k1 l3 q2 x3 = some (o1, o2)) k1 ?_ ?_ ?_
  · exact ⟨(List.replicate (l1.length : Int).toNat 0), a2, (l1.length : Int).toNat, (l1.length : Int).toNat, false, 0, ⟨by kernel_rfl, by kernel_rfl⟩, tot, hB1, hB2, hR1, hR2, hs⟩
  · rintro tm g ⟨l3, a4, n3, c3, q2, x3, hF, tot, hB1, hB2, hR1, hR4, hs⟩
    exact absurd hs (by simp [F.close_others.l1])
  clear tot hs hB1 hB2 hR1 hR2
  rintro k1 tm g ⟨l3, a4, n3, c3, q2, x3, hF, tot, hB1, hB2, hR1, hR4, hs⟩
  clear ds
  obtain ⟨ds, rfl⟩ := hF.open
  clear hF
  unfold F.close_others.l1 at hs
  refine CP.seqR ?_
  refine WP.still 1 (by kernel_rfl) ?_
  refine WP.done (by kernel_rfl) ?_
  refine NX.then_n ?_
  refine CP.seq ?_
  refine CP.cond (b := decide (x3 < (l1.length : Int))) (by kernel_rfl) (fun h5 => ?_) (fun h5 => ?_)
  · replace hs := of_if_t hs h5
    refine CP.skip ?_
    refine NX.then_n ?_
    refine CP.cut (fun tm g => ∃ (l6 : List Int) (a7 : Option Addr) (n6 : Nat) (c6 : Nat) (q5 : Bool), Fr 33 [(6, .func (.func 40) #[] #[.pointer (some ⟨b1, 0, none⟩), .pointer (some ⟨b2, 0, none⟩)]), (7, .slice a7 n6 c6), (8, .bool q5), (15, .int .i64 (l1.length : Int)), (16, .int .i64 x3)] tm ∧ Step (fun l => NoM l ∨ t ≤ l) g0 g ∧ Box g (t + 1) b1 3 [[.int .i64 x1]] [1] ∧ Box g (t + 2) b2 28 [[.slice a1 n1 c1]] [1] ∧ RdS Kd.bool g 4 a1 n1 c1 l1 ∧ OwnS (Kd.int .i64) g (t + 3) 3 a7 n6 c6 l6 ∧ (F.close_others.c1 (F.close_others.l1 x1 l1 k1) x3 l6 q5) = some (o1, o2)) ?_ ?_
    · refine CP.block ?_
      refine CP.seqR ?_
      refine WP.still 2 (by kernel_rfl) ?_
      refine WP.done (by kernel_rfl) ?_
      refine NX.then_n ?_
      refine CP.seqR ?_
      refine WP.still 4 (by kernel_rfl) ?_
      replace hs := Option.bind_eq_some_iff.1 hs
      obtain ⟨x7, hk4, hs⟩ := hs
      have hcal4 := P.close_others_1 g (t + 1) (t + 2) x3 x1 l1 a1 n1 c1 b1 b2 hR1 hB1 hB2 (by omega) (by omega) (by omega) x7 hk4
      refine WP.callC hcal4 (by kernel_rfl) ?_
      rintro _ g10 st10 rfl
      replace hB1 := hB1.mono st10 (fun x => x)
      replace hB2 := hB2.mono st10 (fun x => x)
      replace hR1 := hR1.mono st10 (fun x => x)
      replace hR4 := hR4.mono st10 (fun x => x) (fun x => x)
      replace tot := tot.trans st10.pure
      by_cases hc8 : 0 ≤ x3 ∧ x3 < (l3.length : Int)
      case neg => rw [if_neg hc8] at hs; cases hs
      replace hs := of_if_p hs hc8
      obtain ⟨b9, u7, ha7⟩ := hR4.at hc8
      refine WP.indexA (t := 22) (e := 3) (sz := 1) (cap := c3) (k := .i64) (i := x3) hR4.len ha7 (by kernel_rfl) (by kernel_rfl) hc8 ?_
      refine WP.storeO (ty := 3) (v := .int .i64 x7) hR4 (by omega) (i := x3.toNat) (by omega) ha7 (by kernel_rfl) (x := x7) (by exact rfl) (by kernel_rfl) ?_
      intro g11 st11 hO4
      replace hB1 := hB1.mono st11 (WL.no1 (by omega))
      replace hB2 := hB2.mono st11 (WL.no1 (by omega))
      replace hR1 := hR1.mono st11 (WL.no1 (by omega))
      replace tot := tot.trans (st11.up1 (.inr (by omega)))
      clear hR4
      have hR4 := hO4
      clear hO4
      refine WP.done (by kernel_rfl) ?_
      refine NX.then_n ?_
      refine CP.seq ?_
      refine CP.seqR ?_
      refine WP.still 2 (by kernel_rfl) ?_
      by_cases hc9 : 0 ≤ x3 ∧ x3 < ((setI l3 x3 x7).length : Int)
      case neg => rw [if_neg hc9] at hs; cases hs
      replace hs := of_if_p hs hc9
      obtain ⟨b10, u8, ha8⟩ := hR4.at hc9
      refine WP.indexA (t := 22) (e := 3) (sz := 1) (cap := c3) (k := .i64) (i := x3) hR4.len ha8 (by kernel_rfl) (by kernel_rfl) hc9 ?_
      obtain ⟨cs4, hcR4, hcV4⟩ := hR4.src.view (getI_some hc9) ha8
      replace hcR4 := Kd.o_int hcR4
      refine WP.loadV [[.int .i64 (getI (setI l3 x3 x7) x3)]] [1] hcV4 hcR4 rfl (f := 0) (ty := 3) (agg := false) (size := 1) (rs := [[.int .i64 (getI (setI l3 x3 x7) x3)]]) (v := .int .i64 (getI (setI l3 x3 x7) x3)) (by kernel_rfl) (by kernel_rfl) (by kernel_rfl) (by kernel_rfl) ?_
      refine WP.still 1 (by kernel_rfl) ?_
      refine WP.done (by kernel_rfl) ?_
      refine NX.then_n ?_
      refine CP.refr 33 [(6, .func (.func 40) #[] #[.pointer (some ⟨b1, 0, none⟩), .pointer (some ⟨b2, 0, none⟩)]), (7, .slice a4 n3 c3), (8, .bool q2), (15, .int .i64 (l1.length : Int)), (16, .int .i64 x3), (29, .bool ((getI (setI l3 x3 x7) x3) == 0))] (by kernel_rfl) (by kernel_rfl) ?_
      clear ds
      intro ds
      refine CP.cond (b := ((getI (setI l3 x3 x7) x3) == 0)) (by kernel_rfl) (fun h7 => ?_) (fun h7 => ?_)
      · replace hs := of_if_t hs h7
        refine CP.exit ?_
        refine NX.then_e ?_
        refine NX.block_s ?_
        refine NX.post ?_
        exact ⟨(setI l3 x3 x7), a4, n3, c3, q2, ⟨by kernel_rfl, by kernel_rfl⟩, tot, hB1, hB2, hR1, hR4, hs⟩
      · replace hs := of_if_f hs h7
        refine CP.skip ?_
        refine NX.then_n ?_
        refine CP.region ?_
        refine WP.still 1 (by kernel_rfl) ?_
        refine WP.done (by kernel_rfl) ?_
        refine NX.block_n ?_
        refine NX.post ?_
        exact ⟨(setI l3 x3 x7), a4, n3, c3, true, ⟨by kernel_rfl, by kernel_rfl⟩, tot, hB1, hB2, hR1, hR4, hs⟩
    · clear tot hs hB1 hB2 hR1 hR4
      rintro tm g ⟨l6, a7, n6, c6, q5, hF, tot, hB1, hB2, hR1, hR7, hs⟩
      clear ds
      obtain ⟨ds, rfl⟩ := hF.open
      clear hF
      unfold F.close_others.c1 at hs
      refine CP.region ?_
      refine WP.still 2 (by kernel_rfl) ?_
      refine WP.done (by kernel_rfl) ?_
      refine NX.post ?_
      exact ⟨l6, a7, n6, c6, q5, (IntKind.i64.wrap (x3 + 1)), ⟨by kernel_rfl, by kernel_rfl⟩, tot, hB1, hB2, hR1, hR7, hs⟩
  · replace hs := of_if_f hs h5
    refine CP.exit ?_
    refine NX.then_e ?_
    refine NX.then_e ?_
    refine NX.block_s ?_
    refine NX.then_n ?_
    refine CP.seqR ?_
    refine WP.still 4 (by kernel_rfl) ?_
    refine WP.done (by kernel_rfl) ?_
    refine NX.then_n ?_
    refine CP.ret ?_
    refine NX.scope_r ?_
    obtain ⟨g12, hw1, st12, hnew⟩ := hR4.relab (by omega) r0
    refine NX.regw hw1 ?_
    replace tot := tot.trans (st12.up1 (.inr (by omega)))
    clear hR4
    have hR4 := hnew
    clear hnew
    replace hs := Option.some.inj hs
    obtain ⟨rfl, rfl⟩ := Prod.mk.inj hs
    exact NX.fin (v := .tuple #[.slice a4 n3 c3, .bool q2]) (Res.still (by kernel_rfl)) tot htL ⟨a4, n3, c3, rfl, hR4⟩
def F.coin_weigh.c1 (nx1 : Int → Int → Option (Int × Int)) (l1 : List Int) (x1 : Int) (x2 : Int) (q3 : Bool) : Option (Int × Int) := (if q3 = true then (some (0, 2)) else (nx1 (IntKind.i64.wrap (x1 + (getI l1 x2))) (IntKind.i64.wrap (x2 + 1))))
def F.coin_weigh.l1 (l1 : List Int) : Nat → Int → Int → Option (Int × Int)
  | 0, _, _ => none
  | k + 1, x1, x2 => (if decide (x2 < (l1.length : Int)) = true then (if 0 ≤ x2 ∧ x2 < (l1.length : Int) then (if decide ((getI l1 x2) < 0) = true then (F.coin_weigh.c1 (F.coin_weigh.l1 l1 k) l1 x1 x2 true) else (F.coin_weigh.c1 (F.coin_weigh.l1 l1 k) l1 x1 x2 (decide ((getI l1 x2) > 1024)))) else none) else (if (x1 == 0) = true then (some (0, 1)) else (some (x1, 0))))
def F.coin_weigh (l1 : List Int) : Option (Int × Int) := (F.coin_weigh.l1 l1 fuel 0 0)
theorem P.coin_weigh (g0 : GW) (l1 : List Int) (a1 : Option Addr) (n1 : Nat) (c1 : Nat) (hR1 : RdS (Kd.int .i64) g0 3 a1 n1 c1 l1) (o1 : Int) (o2 : Int) (hs : F.coin_weigh l1 = some (o1, o2)) :
    Calls Try.prog 41 #[.slice a1 n1 c1] g0.w (Ret NoM g0 fun v g => v = .tuple #[.int .i64 o1, .int .i64 o2]) := by
  refine calls_of (args := [.slice a1 n1 c1]) Try.func41 rfl (0) ?_
  intro t ht htL
  refine ⟨_, rfl, ?_⟩
  refine CP.refr 26 [(0, .slice a1 n1 c1)] (by kernel_rfl) (by kernel_rfl) ?_
  intro ds
  have tot : Step (fun l => NoM l ∨ t ≤ l) g0 g0 := Step.refl _ _
  unfold F.coin_weigh at hs
  refine CP.seqR ?_
  refine WP.still 2 (by kernel_rfl) ?_
  refine WP.done (by kernel_rfl) ?_
  refine NX.then_n ?_
  refine CP.seqR ?_
  refine WP.still 1 (by kernel_rfl) ?_
  refine WP.done (by kernel_rfl) ?_
  refine NX.then_n ?_
  refine CP.seq ?_
  refine CP.seqR ?_
  refine WP.still 1 (by kernel_rfl) ?_
  refine WP.len (a := a1) (cp := c1) hR1.len (by kernel_rfl) ?_
  refine WP.still 1 (by kernel_rfl) ?_
  refine WP.done (by kernel_rfl) ?_
  refine NX.then_n ?_
  refine CP.block ?_
  generalize fuel = k1 at hs
  refine CP.loop (fun k1 tm g => ∃ (x1 : Int) (x2 : Int), Fr 26 [(4, .int .i64 x1), (7, .slice a1 n1 c1), (8, .int .i64 (l1.length : Int)), (9, .int .i64 x2)] tm ∧ Step (fun l => NoM l ∨ t ≤ l) g0 g ∧ RdS (Kd.int .i64) g 3 a1 n1 c1 l1 ∧ F.coin_weigh.l1 l1 k1 x1 x2 = some (o1, o2)) k1 ?_ ?_ ?_
  · exact ⟨0, 0, ⟨by kernel_rfl, by kernel_rfl⟩, tot, hR1, hs⟩
  · rintro tm g ⟨x1, x2, hF, tot, hR1, hs⟩
    exact absurd hs (by simp [F.coin_weigh.l1])
  clear tot hs hR1
  rintro k1 tm g ⟨x1, x2, hF, tot, hR1, hs⟩
  clear ds
  obtain ⟨ds, rfl⟩ := hF.open
  clear hF
  unfold F.coin_weigh.l1 at hs
  refine CP.seqR ?_
  refine WP.still 1 (by kernel_rfl) ?_
  refine WP.done (by kernel_rfl) ?_
  refine NX.then_n ?_
  refine CP.seq ?_
  refine CP.cond (b := decide (x2 < (l1.length : Int))) (by kernel_rfl) (fun h9 => ?_) (fun h9 => ?_)
  · replace hs := of_if_t hs h9
    refine CP.skip ?_
    refine NX.then_n ?_
    refine CP.seq ?_
    refine CP.block ?_
    refine CP.seqR ?_
    by_cases hc3 : 0 ≤ x2 ∧ x2 < (l1.length : Int)
    case neg => rw [if_neg hc3] at hs; cases hs
    replace hs := of_if_p hs hc3
    obtain ⟨b3, u3, ha3⟩ := hR1.at hc3
    refine WP.indexA (t := 22) (e := 3) (sz := 1) (cap := c1) (k := .i64) (i := x2) hR1.len ha3 (by kernel_rfl) (by kernel_rfl) hc3 ?_
    obtain ⟨cs3, hcR3, hcV3⟩ := hR1.src.view (getI_some hc3) ha3
    replace hcR3 := Kd.o_int hcR3
    refine WP.loadV [[.int .i64 (getI l1 x2)]] [1] hcV3 hcR3 rfl (f := 0) (ty := 3) (agg := false) (size := 1) (rs := [[.int .i64 (getI l1 x2)]]) (v := .int .i64 (getI l1 x2)) (by kernel_rfl) (by kernel_rfl) (by kernel_rfl) (by kernel_rfl) ?_
    refine WP.still 1 (by kernel_rfl) ?_
    refine WP.done (by kernel_rfl) ?_
    refine NX.then_n ?_
    refine CP.seq ?_
    refine CP.cut (fun tm g => ∃ (q3 : Bool), Fr 26 [(4, .int .i64 x1), (6, .int .i64 (getI l1 x2)), (7, .slice a1 n1 c1), (8, .int .i64 (l1.length : Int)), (9, .int .i64 x2), (18, .bool q3)] tm ∧ Step (fun l => NoM l ∨ t ≤ l) g0 g ∧ RdS (Kd.int .i64) g 3 a1 n1 c1 l1 ∧ (F.coin_weigh.c1 (F.coin_weigh.l1 l1 k1) l1 x1 x2 q3) = some (o1, o2)) ?_ ?_
    · refine CP.region ?_
      refine WP.still 3 (by kernel_rfl) ?_
      refine WP.guard 15 (b := decide ((getI l1 x2) < 0)) (by kernel_rfl) (fun h12 => ?_) (fun h12 => ?_)
      · replace hs := of_if_t hs h12
        refine WP.still 3 (by kernel_rfl) ?_
        refine WP.done (by kernel_rfl) ?_
        refine NX.post ?_
        exact ⟨true, ⟨by kernel_rfl, by kernel_rfl⟩, tot, hR1, hs⟩
      · replace hs := of_if_f hs h12
        refine WP.still 3 (by kernel_rfl) ?_
        refine WP.done (by kernel_rfl) ?_
        refine NX.post ?_
        exact ⟨decide ((getI l1 x2) > 1024), ⟨by kernel_rfl, by kernel_rfl⟩, tot, hR1, hs⟩
    · clear tot hs hR1
      rintro tm g ⟨q3, hF, tot, hR1, hs⟩
      clear ds
      obtain ⟨ds, rfl⟩ := hF.open
      clear hF
      unfold F.coin_weigh.c1 at hs
      refine CP.cond (b := q3) (by kernel_rfl) (fun h11 => ?_) (fun h11 => ?_)
      · replace hs := of_if_t hs h11
        refine CP.seqR ?_
        refine WP.still 2 (by kernel_rfl) ?_
        refine WP.done (by kernel_rfl) ?_
        refine NX.then_n ?_
        refine CP.ret ?_
        refine NX.then_r ?_
        refine NX.block_r ?_
        refine NX.then_r ?_
        refine NX.then_r ?_
        refine NX.block_r ?_
        refine NX.then_r ?_
        replace hs := Option.some.inj hs
        obtain ⟨rfl, rfl⟩ := Prod.mk.inj hs
        exact NX.fin (v := .tuple #[.int .i64 0, .int .i64 2]) (Res.still (by kernel_rfl)) tot htL rfl
      · replace hs := of_if_f hs h11
        refine CP.skip ?_
        refine NX.then_n ?_
        refine CP.region ?_
        refine WP.still 4 (by kernel_rfl) ?_
        refine WP.done (by kernel_rfl) ?_
        refine NX.block_n ?_
        refine NX.then_n ?_
        refine CP.region ?_
        refine WP.still 2 (by kernel_rfl) ?_
        refine WP.done (by kernel_rfl) ?_
        refine NX.post ?_
        exact ⟨(IntKind.i64.wrap (x1 + (getI l1 x2))), (IntKind.i64.wrap (x2 + 1)), ⟨by kernel_rfl, by kernel_rfl⟩, tot, hR1, hs⟩
  · replace hs := of_if_f hs h9
    refine CP.exit ?_
    refine NX.then_e ?_
    refine NX.then_e ?_
    refine NX.block_s ?_
    refine NX.then_n ?_
    refine CP.seq ?_
    refine CP.seqR ?_
    refine WP.still 2 (by kernel_rfl) ?_
    refine WP.done (by kernel_rfl) ?_
    refine NX.then_n ?_
    refine CP.cond (b := (x1 == 0)) (by kernel_rfl) (fun h13 => ?_) (fun h13 => ?_)
    · replace hs := of_if_t hs h13
      refine CP.seqR ?_
      refine WP.still 2 (by kernel_rfl) ?_
      refine WP.done (by kernel_rfl) ?_
      refine NX.then_n ?_
      refine CP.ret ?_
      refine NX.then_r ?_
      replace hs := Option.some.inj hs
      obtain ⟨rfl, rfl⟩ := Prod.mk.inj hs
      exact NX.fin (v := .tuple #[.int .i64 0, .int .i64 1]) (Res.still (by kernel_rfl)) tot htL rfl
    · replace hs := of_if_f hs h13
      refine CP.skip ?_
      refine NX.then_n ?_
      refine CP.seqR ?_
      refine WP.still 3 (by kernel_rfl) ?_
      refine WP.done (by kernel_rfl) ?_
      refine NX.then_n ?_
      refine CP.ret ?_
      replace hs := Option.some.inj hs
      obtain ⟨rfl, rfl⟩ := Prod.mk.inj hs
      exact NX.fin (v := .tuple #[.int .i64 x1, .int .i64 0]) (Res.still (by kernel_rfl)) tot htL rfl
def F.coin_Split.c2 (l18 : List Int) : Option ((List Int) × Int) := (some (l18, 0))
def F.coin_Split.c3 (nx2 : Int → (List Int) → Int → Option ((List Int) × Int)) (x28 : Int) (x32 : Int) (l23 : List Int) : Option ((List Int) × Int) := (nx2 x32 l23 (IntKind.i64.wrap (x28 + 1)))
def F.coin_Split.l2 (l1 : List Int) : Nat → Int → (List Int) → Int → Option ((List Int) × Int)
  | 0, _, _, _ => none
  | k + 1, x27, l20, x28 => (if decide (x28 < (l1.length : Int)) = true then (if 0 ≤ x28 ∧ x28 < (l1.length : Int) then (if (x27 == 0) = true then (F.coin_Split.c2 l20) else (if ((getI l1 x28) == 0) = true then (F.coin_Split.c3 (F.coin_Split.l2 l1 k) x28 x27 l20) else (if 0 ≤ x28 ∧ x28 < (l20.length : Int) then (if 0 ≤ x28 ∧ x28 < (l20.length : Int) then (F.coin_Split.c3 (F.coin_Split.l2 l1 k) x28 (IntKind.i64.wrap (x27 - 1)) (setI l20 x28 (IntKind.i64.wrap ((getI l20 x28) + 1)))) else none) else none))) else none) else (F.coin_Split.c2 l20))
def F.coin_Split.l1 (x1 : Int) (l1 : List Int) (x2 : Int) : Nat → Int → (List Int) → Int → Option ((List Int) × Int)
  | 0, _, _, _ => none
  | k + 1, x10, l7, x11 => (if decide (x11 < (l1.length : Int)) = true then (if 0 ≤ x11 ∧ x11 < (l1.length : Int) then (if x2 ≠ 0 then (if 0 ≤ x11 ∧ x11 < (l7.length : Int) then (if 0 ≤ x11 ∧ x11 < ((setI l7 x11 (IntKind.i64.wrap ((IntKind.i64.wrap (x1 * (getI l1 x11))).tdiv x2))).length : Int) then (F.coin_Split.l1 x1 l1 x2 k (IntKind.i64.wrap (x10 - (getI (setI l7 x11 (IntKind.i64.wrap ((IntKind.i64.wrap (x1 * (getI l1 x11))).tdiv x2))) x11))) (setI l7 x11 (IntKind.i64.wrap ((IntKind.i64.wrap (x1 * (getI l1 x11))).tdiv x2))) (IntKind.i64.wrap (x11 + 1))) else none) else none) else none) else none) else (F.coin_Split.l2 l1 fuel x10 l7 0))
def F.coin_Split.c1 (x1 : Int) (l1 : List Int) (q2 : Bool) : Option ((List Int) × Int) := (if q2 = true then (some ([], 1)) else ((F.coin_weigh l1).bind fun (x2, x3) => (if (x3 != 0) = true then (some ([], x3)) else (if 0 ≤ (l1.length : Int) ∧ (l1.length : Int) ≤ 17592186044416 then (F.coin_Split.l1 x1 l1 x2 fuel x1 (List.replicate (l1.length : Int).toNat 0) 0) else none))))
def F.coin_Split (x1 : Int) (l1 : List Int) : Option ((List Int) × Int) := ((F.coin_Right x1).bind fun q1 => (if (!q1) = true then (some ([], 2)) else (if ((l1.length : Int) == 0) = true then (F.coin_Split.c1 x1 l1 true) else (F.coin_Split.c1 x1 l1 (decide ((l1.length : Int) > 8))))))
theorem P.coin_Split (g0 : GW) (r0 : Nat) (x1 : Int) (l1 : List Int) (a1 : Option Addr) (n1 : Nat) (c1 : Nat) (hR1 : RdS (Kd.int .i64) g0 3 a1 n1 c1 l1) (o1 : List Int) (o2 : Int) (hs : F.coin_Split x1 l1 = some (o1, o2)) :
    Calls Try.prog 28 #[.int .i64 x1, .slice a1 n1 c1] g0.w (Ret NoM g0 fun v g => ∃ (a_1 : Option Addr) (n_1 : Nat) (c_1 : Nat), v = .tuple #[.slice a_1 n_1 c_1, .int .i64 o2] ∧ OwnS (Kd.int .i64) g r0 3 a_1 n_1 c_1 o1) := by
  refine calls_of (args := [.int .i64 x1, .slice a1 n1 c1]) Try.func28 rfl (0) ?_
  intro t ht htL
  refine ⟨_, rfl, ?_⟩
  refine CP.refr 84 [(0, .int .i64 x1), (1, .slice a1 n1 c1)] (by kernel_rfl) (by kernel_rfl) ?_
  intro ds
  have tot : Step (fun l => NoM l ∨ t ≤ l) g0 g0 := Step.refl _ _
  unfold F.coin_Split at hs
  refine CP.seqR ?_
  refine WP.still 2 (by kernel_rfl) ?_
  refine WP.done (by kernel_rfl) ?_
  refine NX.then_n ?_
  refine CP.scope ?_
  refine CP.seq ?_
  refine CP.block ?_
  refine CP.seqR ?_
  refine WP.still 1 (by kernel_rfl) ?_
  replace hs := Option.bind_eq_some_iff.1 hs
  obtain ⟨q1, hk1, hs⟩ := hs
  have hcal1 := P.coin_Right g0 x1 q1 hk1
  refine WP.callC hcal1 (by kernel_rfl) ?_
  rintro _ g1 st1 rfl
  replace hR1 := hR1.mono st1 (fun x => x)
  replace tot := tot.trans st1.pure
  refine WP.still 2 (by kernel_rfl) ?_
  refine WP.done (by kernel_rfl) ?_
  refine NX.then_n ?_
  refine CP.cond (b := (!q1)) (by kernel_rfl) (fun h1 => ?_) (fun h1 => ?_)
  · replace hs := of_if_t hs h1
    refine CP.seqR ?_
    refine WP.still 2 (by kernel_rfl) ?_
    refine WP.done (by kernel_rfl) ?_
    refine NX.then_n ?_
    refine CP.ret ?_
    refine NX.block_r ?_
    refine NX.then_r ?_
    refine NX.scope_r ?_
    replace hs := Option.some.inj hs
    obtain ⟨rfl, rfl⟩ := Prod.mk.inj hs
    exact NX.fin (v := .tuple #[.slice none 0 0, .int .i64 2]) (Res.still (by kernel_rfl)) tot htL ⟨none, 0, 0, rfl, (OwnS.nil _ _ _ _)⟩
  · replace hs := of_if_f hs h1
    refine CP.cut (fun tm g => ∃ (q2 : Bool), Fr 84 [(0, .int .i64 x1), (1, .slice a1 n1 c1), (18, .bool q2)] tm ∧ Step (fun l => NoM l ∨ t ≤ l) g0 g ∧ RdS (Kd.int .i64) g 3 a1 n1 c1 l1 ∧ (F.coin_Split.c1 x1 l1 q2) = some (o1, o2)) ?_ ?_
    · refine CP.region ?_
      refine WP.still 1 (by kernel_rfl) ?_
      refine WP.len (a := a1) (cp := c1) hR1.len (by kernel_rfl) ?_
      refine WP.still 2 (by kernel_rfl) ?_
      refine WP.guard 22 (b := ((l1.length : Int) == 0)) (by kernel_rfl) (fun h37 => ?_) (fun h37 => ?_)
      · replace hs := of_if_t hs h37
        refine WP.still 5 (by kernel_rfl) ?_
        refine WP.done (by kernel_rfl) ?_
        refine NX.post ?_
        exact ⟨true, ⟨by kernel_rfl, by kernel_rfl⟩, tot, hR1, hs⟩
      · replace hs := of_if_f hs h37
        refine WP.still 1 (by kernel_rfl) ?_
        refine WP.len (a := a1) (cp := c1) hR1.len (by kernel_rfl) ?_
        refine WP.still 3 (by kernel_rfl) ?_
        refine WP.done (by kernel_rfl) ?_
        refine NX.post ?_
        exact ⟨decide ((l1.length : Int) > 8), ⟨by kernel_rfl, by kernel_rfl⟩, tot, hR1, hs⟩
    · clear tot hs hR1
      rintro tm g ⟨q2, hF, tot, hR1, hs⟩
      clear ds
      obtain ⟨ds, rfl⟩ := hF.open
      clear hF
      unfold F.coin_Split.c1 at hs
      refine CP.cond (b := q2) (by kernel_rfl) (fun h3 => ?_) (fun h3 => ?_)
      · replace hs := of_if_t hs h3
        refine CP.seqR ?_
        refine WP.still 2 (by kernel_rfl) ?_
        refine WP.done (by kernel_rfl) ?_
        refine NX.then_n ?_
        refine CP.ret ?_
        refine NX.block_r ?_
        refine NX.then_r ?_
        refine NX.scope_r ?_
        replace hs := Option.some.inj hs
        obtain ⟨rfl, rfl⟩ := Prod.mk.inj hs
        exact NX.fin (v := .tuple #[.slice none 0 0, .int .i64 1]) (Res.still (by kernel_rfl)) tot htL ⟨none, 0, 0, rfl, (OwnS.nil _ _ _ _)⟩
      · replace hs := of_if_f hs h3
        refine CP.skip ?_
        refine NX.block_n ?_
        refine NX.then_n ?_
        refine CP.seqR ?_
        refine WP.still 1 (by kernel_rfl) ?_
        replace hs := Option.bind_eq_some_iff.1 hs
        obtain ⟨⟨x2, x3⟩, hk2, hs⟩ := hs
        dsimp only at hs
        have hcal2 := P.coin_weigh g l1 a1 n1 c1 hR1 x2 x3 hk2
        refine WP.callC hcal2 (by kernel_rfl) ?_
        rintro _ g2 st2 rfl
        replace hR1 := hR1.mono st2 (fun x => x)
        replace tot := tot.trans st2.pure
        refine WP.still 5 (by kernel_rfl) ?_
        refine WP.done (by kernel_rfl) ?_
        refine NX.then_n ?_
        refine CP.seq ?_
        refine CP.seqR ?_
        refine WP.still 2 (by kernel_rfl) ?_
        refine WP.done (by kernel_rfl) ?_
        refine NX.then_n ?_
        refine CP.cond (b := (x3 != 0)) (by kernel_rfl) (fun h4 => ?_) (fun h4 => ?_)
        · replace hs := of_if_t hs h4
          refine CP.seqR ?_
          refine WP.still 3 (by kernel_rfl) ?_
          refine WP.done (by kernel_rfl) ?_
          refine NX.then_n ?_
          refine CP.ret ?_
          refine NX.then_r ?_
          refine NX.scope_r ?_
          replace hs := Option.some.inj hs
          obtain ⟨rfl, rfl⟩ := Prod.mk.inj hs
          exact NX.fin (v := .tuple #[.slice none 0 0, .int .i64 x3]) (Res.still (by kernel_rfl)) tot htL ⟨none, 0, 0, rfl, (OwnS.nil _ _ _ _)⟩
        · replace hs := of_if_f hs h4
          refine CP.skip ?_
          refine NX.then_n ?_
          refine CP.seqR ?_
          refine WP.still 2 (by kernel_rfl) ?_
          refine WP.done (by kernel_rfl) ?_
          refine NX.then_n ?_
          refine CP.seqR ?_
          refine WP.still 1 (by kernel_rfl) ?_
          refine WP.len (a := a1) (cp := c1) hR1.len (by kernel_rfl) ?_
          by_cases hc1 : 0 ≤ (l1.length : Int) ∧ (l1.length : Int) ≤ 17592186044416
          case neg => rw [if_neg hc1] at hs; cases hs
          replace hs := of_if_p hs hc1
          refine WP.make (kd := (Kd.int .i64)) (t + 1) (t := 22) (e := 3) (bytes := 8) (kl := .i64) (kc := .i64) (i := (l1.length : Int)) (by kernel_rfl) (by kernel_rfl) (by omega) (by omega) (by omega) (z := 0) (by intro zv hz; cases hz; exact (by exact rfl)) ?_
          intro g3 a2 st3 hR2
          replace hR1 := hR1.mono st3 (fun x => x)
          replace tot := tot.trans st3.pure
          refine WP.still 1 (by kernel_rfl) ?_
          refine WP.done (by kernel_rfl) ?_
          refine NX.then_n ?_
          refine CP.refr 84 [(0, .int .i64 x1), (1, .slice a1 n1 c1), (6, .int .i64 x2), (8, .int .i64 x1), (9, .slice a2 ((l1.length : Int).toNat) ((l1.length : Int).toNat))] (by kernel_rfl) (by kernel_rfl) ?_
          clear ds
          intro ds
          refine CP.seq ?_
          refine CP.seqR ?_
          refine WP.still 1 (by kernel_rfl) ?_
          refine WP.len (a := a1) (cp := c1) hR1.len (by kernel_rfl) ?_
          refine WP.still 1 (by kernel_rfl) ?_
          refine WP.done (by kernel_rfl) ?_
          refine NX.then_n ?_
          refine CP.block ?_
          generalize fuel = k1 at hs
          refine CP.loop (fun k1 tm g => ∃ (x10 : Int) (l7 : List Int) (a8 : Option Addr) (n7 : Nat) (c7 : Nat) (x11 : Int), Fr 84 [(0, .int .i64 x1), (1, .slice a1 n1 c1), (6, .int .i64 x2), (8, .int .i64 x10), (9, .slice a8 n7 c7), (39, .slice a1 n1 c1), (40, .int .i64 (l1.length : Int)), (41, .int .i64 x11)] tm ∧ Step (fun l => NoM l ∨ t ≤ l) g0 g ∧ RdS (Kd.int .i64) g 3 a1 n1 c1 l1 ∧ OwnS (Kd.int .i64) g (t + 1) 3 a8 n7 c7 l7 ∧ F.coin_Split.l1 x1 l1 x2 k1 x10 l7 x11 = some (o1, o2)) k1 ?_ ?_ ?_
          · exact ⟨x1, (List.replicate (l1.length : Int).toNat 0), a2, (l1.length : Int).toNat, (l1.length : Int).toNat, 0, ⟨by kernel_rfl, by kernel_rfl⟩, tot, hR1, hR2, hs⟩
          · rintro tm g ⟨x10, l7, a8, n7, c7, x11, hF, tot, hR1, hR8, hs⟩
            exact absurd hs (by simp [F.coin_Split.l1])
          clear tot hs hR1 hR2
          rintro k1 tm g ⟨x10, l7, a8, n7, c7, x11, hF, tot, hR1, hR8, hs⟩
          clear ds
          obtain ⟨ds, rfl⟩ := hF.open
          clear hF
          unfold F.coin_Split.l1 at hs
          refine CP.seqR ?_
          refine WP.still 1 (by kernel_rfl) ?_
          refine WP.done (by kernel_rfl) ?_
          refine NX.then_n ?_
          refine CP.seq ?_
          refine CP.cond (b := decide (x11 < (l1.length : Int))) (by kernel_rfl) (fun h19 => ?_) (fun h19 => ?_)
          · replace hs := of_if_t hs h19
            refine CP.skip ?_
            refine NX.then_n ?_
            refine CP.seq ?_
            refine CP.block ?_
            refine CP.seqR ?_
            refine WP.still 1 (by kernel_rfl) ?_
            by_cases hc22 : 0 ≤ x11 ∧ x11 < (l1.length : Int)
            case neg => rw [if_neg hc22] at hs; cases hs
            replace hs := of_if_p hs hc22
            obtain ⟨b19, u19, ha19⟩ := hR1.at hc22
            refine WP.indexA (t := 22) (e := 3) (sz := 1) (cap := c1) (k := .i64) (i := x11) hR1.len ha19 (by kernel_rfl) (by kernel_rfl) hc22 ?_
            obtain ⟨cs13, hcR13, hcV13⟩ := hR1.src.view (getI_some hc22) ha19
            replace hcR13 := Kd.o_int hcR13
            refine WP.loadV [[.int .i64 (getI l1 x11)]] [1] hcV13 hcR13 rfl (f := 0) (ty := 3) (agg := false) (size := 1) (rs := [[.int .i64 (getI l1 x11)]]) (v := .int .i64 (getI l1 x11)) (by kernel_rfl) (by kernel_rfl) (by kernel_rfl) (by kernel_rfl) ?_
            refine WP.still 2 (by kernel_rfl) ?_
            refine WP.done (by kernel_rfl) ?_
            refine NX.then_n ?_
            refine CP.seqR ?_
            refine WP.still 6 (by kernel_rfl) ?_
            by_cases hc23 : x2 ≠ 0
            case neg => rw [if_neg hc23] at hs; cases hs
            replace hs := of_if_p hs hc23
            refine WP.quo (k := .i64) (x := (IntKind.i64.wrap (x1 * (getI l1 x11)))) (y := x2) (by kernel_rfl) hc23 ?_
            by_cases hc24 : 0 ≤ x11 ∧ x11 < (l7.length : Int)
            case neg => rw [if_neg hc24] at hs; cases hs
            replace hs := of_if_p hs hc24
            obtain ⟨b20, u20, ha20⟩ := hR8.at hc24
            refine WP.indexA (t := 22) (e := 3) (sz := 1) (cap := c7) (k := .i64) (i := x11) hR8.len ha20 (by kernel_rfl) (by kernel_rfl) hc24 ?_
            refine WP.storeO (ty := 3) (v := .int .i64 (IntKind.i64.wrap ((IntKind.i64.wrap (x1 * (getI l1 x11))).tdiv x2))) hR8 (by omega) (i := x11.toNat) (by omega) ha20 (by kernel_rfl) (x := (IntKind.i64.wrap ((IntKind.i64.wrap (x1 * (getI l1 x11))).tdiv x2))) (by exact rfl) (by kernel_rfl) ?_
            intro g10 st10 hO7
            replace hR1 := hR1.mono st10 (WL.no1 (by omega))
            replace tot := tot.trans (st10.up1 (.inr (by omega)))
            clear hR8
            have hR8 := hO7
            clear hO7
            refine WP.done (by kernel_rfl) ?_
            refine NX.then_n ?_
            refine CP.refr 84 [(0, .int .i64 x1), (1, .slice a1 n1 c1), (6, .int .i64 x2), (8, .int .i64 x10), (9, .slice a8 n7 c7), (10, .int .i64 x11), (39, .slice a1 n1 c1), (40, .int .i64 (l1.length : Int)), (41, .int .i64 x11)] (by kernel_rfl) (by kernel_rfl) ?_
            clear ds
            intro ds
            refine CP.region ?_
            refine WP.still 3 (by kernel_rfl) ?_
            by_cases hc25 : 0 ≤ x11 ∧ x11 < ((setI l7 x11 (IntKind.i64.wrap ((IntKind.i64.wrap (x1 * (getI l1 x11))).tdiv x2))).length : Int)
            case neg => rw [if_neg hc25] at hs; cases hs
            replace hs := of_if_p hs hc25
            obtain ⟨b21, u21, ha21⟩ := hR8.at hc25
            refine WP.indexA (t := 22) (e := 3) (sz := 1) (cap := c7) (k := .i64) (i := x11) hR8.len ha21 (by kernel_rfl) (by kernel_rfl) hc25 ?_
            obtain ⟨cs14, hcR14, hcV14⟩ := hR8.src.view (getI_some hc25) ha21
            replace hcR14 := Kd.o_int hcR14
            refine WP.loadV [[.int .i64 (getI (setI l7 x11 (IntKind.i64.wrap ((IntKind.i64.wrap (x1 * (getI l1 x11))).tdiv x2))) x11)]] [1] hcV14 hcR14 rfl (f := 0) (ty := 3) (agg := false) (size := 1) (rs := [[.int .i64 (getI (setI l7 x11 (IntKind.i64.wrap ((IntKind.i64.wrap (x1 * (getI l1 x11))).tdiv x2))) x11)]]) (v := .int .i64 (getI (setI l7 x11 (IntKind.i64.wrap ((IntKind.i64.wrap (x1 * (getI l1 x11))).tdiv x2))) x11)) (by kernel_rfl) (by kernel_rfl) (by kernel_rfl) (by kernel_rfl) ?_
            refine WP.still 2 (by kernel_rfl) ?_
            refine WP.done (by kernel_rfl) ?_
            refine NX.block_n ?_
            refine NX.then_n ?_
            refine CP.region ?_
            refine WP.still 2 (by kernel_rfl) ?_
            refine WP.done (by kernel_rfl) ?_
            refine NX.post ?_
            exact ⟨(IntKind.i64.wrap (x10 - (getI (setI l7 x11 (IntKind.i64.wrap ((IntKind.i64.wrap (x1 * (getI l1 x11))).tdiv x2))) x11))), (setI l7 x11 (IntKind.i64.wrap ((IntKind.i64.wrap (x1 * (getI l1 x11))).tdiv x2))), a8, n7, c7, (IntKind.i64.wrap (x11 + 1)), ⟨by kernel_rfl, by kernel_rfl⟩, tot, hR1, hR8, hs⟩
          · replace hs := of_if_f hs h19
            refine CP.exit ?_
            refine NX.then_e ?_
            refine NX.then_e ?_
            refine NX.block_s ?_
            refine NX.then_n ?_
            refine CP.seq ?_
            refine CP.label ?_
            refine NX.then_n ?_
            refine CP.cut (fun tm g => ∃ (l18 : List Int) (a19 : Option Addr) (n18 : Nat) (c18 : Nat), Fr 84 [(9, .slice a19 n18 c18)] tm ∧ Step (fun l => NoM l ∨ t ≤ l) g0 g ∧ OwnS (Kd.int .i64) g (t + 1) 3 a19 n18 c18 l18 ∧ (F.coin_Split.c2 l18) = some (o1, o2)) ?_ ?_
            · refine CP.seqR ?_
              refine WP.still 1 (by kernel_rfl) ?_
              refine WP.len (a := a1) (cp := c1) hR1.len (by kernel_rfl) ?_
              refine WP.still 1 (by kernel_rfl) ?_
              refine WP.done (by kernel_rfl) ?_
              refine NX.then_n ?_
              refine CP.block ?_
              generalize fuel = k2 at hs
              refine CP.loop (fun k2 tm g => ∃ (x27 : Int) (l20 : List Int) (a21 : Option Addr) (n20 : Nat) (c20 : Nat) (x28 : Int), Fr 84 [(8, .int .i64 x27), (9, .slice a21 n20 c20), (61, .slice a1 n1 c1), (62, .int .i64 (l1.length : Int)), (63, .int .i64 x28)] tm ∧ Step (fun l => NoM l ∨ t ≤ l) g0 g ∧ OwnS (Kd.int .i64) g (t + 1) 3 a21 n20 c20 l20 ∧ RdS (Kd.int .i64) g 3 a1 n1 c1 l1 ∧ F.coin_Split.l2 l1 k2 x27 l20 x28 = some (o1, o2)) k2 ?_ ?_ ?_
              · exact ⟨x10, l7, a8, n7, c7, 0, ⟨by kernel_rfl, by kernel_rfl⟩, tot, hR8, hR1, hs⟩
              · rintro tm g ⟨x27, l20, a21, n20, c20, x28, hF, tot, hR21, hR1, hs⟩
                exact absurd hs (by simp [F.coin_Split.l2])
              clear tot hs hR8 hR1
              rintro k2 tm g ⟨x27, l20, a21, n20, c20, x28, hF, tot, hR21, hR1, hs⟩
              clear ds
              obtain ⟨ds, rfl⟩ := hF.open
              clear hF
              unfold F.coin_Split.l2 at hs
              refine CP.seqR ?_
              refine WP.still 1 (by kernel_rfl) ?_
              refine WP.done (by kernel_rfl) ?_
              refine NX.then_n ?_
              refine CP.seq ?_
              refine CP.cond (b := decide (x28 < (l1.length : Int))) (by kernel_rfl) (fun h32 => ?_) (fun h32 => ?_)
              · replace hs := of_if_t hs h32
                refine CP.skip ?_
                refine NX.then_n ?_
                refine CP.cut (fun tm g => ∃ (x32 : Int) (l23 : List Int) (a24 : Option Addr) (n23 : Nat) (c23 : Nat), Fr 84 [(8, .int .i64 x32), (9, .slice a24 n23 c23), (61, .slice a1 n1 c1), (62, .int .i64 (l1.length : Int)), (63, .int .i64 x28)] tm ∧ Step (fun l => NoM l ∨ t ≤ l) g0 g ∧ OwnS (Kd.int .i64) g (t + 1) 3 a24 n23 c23 l23 ∧ RdS (Kd.int .i64) g 3 a1 n1 c1 l1 ∧ (F.coin_Split.c3 (F.coin_Split.l2 l1 k2) x28 x32 l23) = some (o1, o2)) ?_ ?_
                · refine CP.block ?_
                  refine CP.seqR ?_
                  refine WP.still 1 (by kernel_rfl) ?_
                  by_cases hc41 : 0 ≤ x28 ∧ x28 < (l1.length : Int)
                  case neg => rw [if_neg hc41] at hs; cases hs
                  replace hs := of_if_p hs hc41
                  obtain ⟨b37, u37, ha37⟩ := hR1.at hc41
                  refine WP.indexA (t := 22) (e := 3) (sz := 1) (cap := c1) (k := .i64) (i := x28) hR1.len ha37 (by kernel_rfl) (by kernel_rfl) hc41 ?_
                  obtain ⟨cs25, hcR25, hcV25⟩ := hR1.src.view (getI_some hc41) ha37
                  replace hcR25 := Kd.o_int hcR25
                  refine WP.loadV [[.int .i64 (getI l1 x28)]] [1] hcV25 hcR25 rfl (f := 0) (ty := 3) (agg := false) (size := 1) (rs := [[.int .i64 (getI l1 x28)]]) (v := .int .i64 (getI l1 x28)) (by kernel_rfl) (by kernel_rfl) (by kernel_rfl) (by kernel_rfl) ?_
                  refine WP.still 2 (by kernel_rfl) ?_
                  refine WP.done (by kernel_rfl) ?_
                  refine NX.then_n ?_
                  refine CP.seq ?_
                  refine CP.block ?_
                  refine CP.seqR ?_
                  refine WP.still 3 (by kernel_rfl) ?_
                  refine WP.done (by kernel_rfl) ?_
                  refine NX.then_n ?_
                  refine CP.cond (b := (x27 == 0)) (by kernel_rfl) (fun h35 => ?_) (fun h35 => ?_)
                  · replace hs := of_if_t hs h35
                    refine CP.exit ?_
                    refine NX.block_o (by rfl) ?_
                    refine NX.then_e ?_
                    refine NX.block_o (by rfl) ?_
                    refine NX.then_e ?_
                    refine NX.then_e ?_
                    refine NX.block_s ?_
                    refine NX.post ?_
                    exact ⟨l20, a21, n20, c20, ⟨by kernel_rfl, by kernel_rfl⟩, tot, hR21, hs⟩
                  · replace hs := of_if_f hs h35
                    refine CP.seqR ?_
                    refine WP.still 3 (by kernel_rfl) ?_
                    refine WP.done (by kernel_rfl) ?_
                    refine NX.then_n ?_
                    refine CP.cond (b := ((getI l1 x28) == 0)) (by kernel_rfl) (fun h36 => ?_) (fun h36 => ?_)
                    · replace hs := of_if_t hs h36
                      refine CP.exit ?_
                      refine NX.block_o (by rfl) ?_
                      refine NX.then_e ?_
                      refine NX.block_s ?_
                      refine NX.post ?_
                      exact ⟨x27, l20, a21, n20, c20, ⟨by kernel_rfl, by kernel_rfl⟩, tot, hR21, hR1, hs⟩
                    · replace hs := of_if_f hs h36
                      refine CP.skip ?_
                      refine NX.block_n ?_
                      refine NX.then_n ?_
                      refine CP.seqR ?_
                      refine WP.still 2 (by kernel_rfl) ?_
                      by_cases hc42 : 0 ≤ x28 ∧ x28 < (l20.length : Int)
                      case neg => rw [if_neg hc42] at hs; cases hs
                      replace hs := of_if_p hs hc42
                      obtain ⟨b38, u38, ha38⟩ := hR21.at hc42
                      refine WP.indexA (t := 22) (e := 3) (sz := 1) (cap := c20) (k := .i64) (i := x28) hR21.len ha38 (by kernel_rfl) (by kernel_rfl) hc42 ?_
                      obtain ⟨cs26, hcR26, hcV26⟩ := hR21.src.view (getI_some hc42) ha38
                      replace hcR26 := Kd.o_int hcR26
                      refine WP.loadV [[.int .i64 (getI l20 x28)]] [1] hcV26 hcR26 rfl (f := 0) (ty := 3) (agg := false) (size := 1) (rs := [[.int .i64 (getI l20 x28)]]) (v := .int .i64 (getI l20 x28)) (by kernel_rfl) (by kernel_rfl) (by kernel_rfl) (by kernel_rfl) ?_
                      refine WP.still 1 (by kernel_rfl) ?_
                      by_cases hc43 : 0 ≤ x28 ∧ x28 < (l20.length : Int)
                      case neg => rw [if_neg hc43] at hs; cases hs
                      replace hs := of_if_p hs hc43
                      obtain ⟨b39, u39, ha39⟩ := hR21.at hc43
                      refine WP.indexA (t := 22) (e := 3) (sz := 1) (cap := c20) (k := .i64) (i := x28) hR21.len ha39 (by kernel_rfl) (by kernel_rfl) hc43 ?_
                      refine WP.storeO (ty := 3) (v := .int .i64 (IntKind.i64.wrap ((getI l20 x28) + 1))) hR21 (by omega) (i := x28.toNat) (by omega) ha39 (by kernel_rfl) (x := (IntKind.i64.wrap ((getI l20 x28) + 1))) (by exact rfl) (by kernel_rfl) ?_
                      intro g17 st17 hO13
                      replace hR1 := hR1.mono st17 (WL.no1 (by omega))
                      replace tot := tot.trans (st17.up1 (.inr (by omega)))
                      clear hR21
                      have hR21 := hO13
                      clear hO13
                      refine WP.done (by kernel_rfl) ?_
                      refine NX.then_n ?_
                      refine CP.refr 84 [(8, .int .i64 x27), (9, .slice a21 n20 c20), (61, .slice a1 n1 c1), (62, .int .i64 (l1.length : Int)), (63, .int .i64 x28)] (by kernel_rfl) (by kernel_rfl) ?_
                      clear ds
                      intro ds
                      refine CP.region ?_
                      refine WP.still 3 (by kernel_rfl) ?_
                      refine WP.done (by kernel_rfl) ?_
                      refine NX.block_n ?_
                      refine NX.post ?_
                      exact ⟨(IntKind.i64.wrap (x27 - 1)), (setI l20 x28 (IntKind.i64.wrap ((getI l20 x28) + 1))), a21, n20, c20, ⟨by kernel_rfl, by kernel_rfl⟩, tot, hR21, hR1, hs⟩
                · clear tot hs hR21 hR1
                  rintro tm g ⟨x32, l23, a24, n23, c23, hF, tot, hR24, hR1, hs⟩
                  clear ds
                  obtain ⟨ds, rfl⟩ := hF.open
                  clear hF
                  unfold F.coin_Split.c3 at hs
                  refine CP.region ?_
                  refine WP.still 2 (by kernel_rfl) ?_
                  refine WP.done (by kernel_rfl) ?_
                  refine NX.post ?_
                  exact ⟨x32, l23, a24, n23, c23, (IntKind.i64.wrap (x28 + 1)), ⟨by kernel_rfl, by kernel_rfl⟩, tot, hR24, hR1, hs⟩
              · replace hs := of_if_f hs h32
                refine CP.exit ?_
                refine NX.then_e ?_
                refine NX.then_e ?_
                refine NX.block_s ?_
                refine NX.post ?_
                exact ⟨l20, a21, n20, c20, ⟨by kernel_rfl, by kernel_rfl⟩, tot, hR21, hs⟩
            · clear tot hs hR1 hR8
              rintro tm g ⟨l18, a19, n18, c18, hF, tot, hR19, hs⟩
              clear ds
              obtain ⟨ds, rfl⟩ := hF.open
              clear hF
              unfold F.coin_Split.c2 at hs
              refine CP.seqR ?_
              refine WP.still 3 (by kernel_rfl) ?_
              refine WP.done (by kernel_rfl) ?_
              refine NX.then_n ?_
              refine CP.ret ?_
              refine NX.scope_r ?_
              obtain ⟨g13, hw1, st13, hnew⟩ := hR19.relab (by omega) r0
              refine NX.regw hw1 ?_
              replace tot := tot.trans (st13.up1 (.inr (by omega)))
              clear hR19
              have hR19 := hnew
              clear hnew
              replace hs := Option.some.inj hs
              obtain ⟨rfl, rfl⟩ := Prod.mk.inj hs
              exact NX.fin (v := .tuple #[.slice a19 n18 c18, .int .i64 0]) (Res.still (by kernel_rfl)) tot htL ⟨a19, n18, c18, rfl, hR19⟩
def F.close_Forfeit.l1 (l5 : List Int) : Nat → (List Int) → Int → Option ((List Int) × Int)
  | 0, _, _ => none
  | k + 1, l6, x6 => (if decide (x6 < (l5.length : Int)) = true then (if 0 ≤ x6 ∧ x6 < (l5.length : Int) then (if 0 ≤ x6 ∧ x6 < (l6.length : Int) then (if 0 ≤ x6 ∧ x6 < (l6.length : Int) then (F.close_Forfeit.l1 l5 k (setI l6 x6 (IntKind.i64.wrap ((getI l6 x6) + (getI l5 x6)))) (IntKind.i64.wrap (x6 + 1))) else none) else none) else none) else (some (l6, 0)))
def F.close_Forfeit.c1 (l1 : List Int) (x1 : Int) (x2 : Int) (l2 : List Bool) (q2 : Bool) : Option ((List Int) × Int) := (if q2 = true then (some ([], 28)) else ((F.coin_Right x2).bind fun q3 => (if (!q3) = true then (some ([], 2)) else ((F.coin_Sum l1).bind fun (x3, x4) => (if (x4 != 0) = true then (some ([], x4)) else ((F.slices_Clone_int_int l1).bind fun l3 => ((F.close_others x1 l2).bind fun (l4, q4) => (if (!q4) = true then (some (l3, 0)) else (if 0 ≤ x1 ∧ x1 < (l1.length : Int) then ((F.coin_Split (imin x2 (getI l1 x1)) l4).bind fun (l5, x5) => (if (x5 != 0) = true then (some ([], x5)) else (if 0 ≤ x1 ∧ x1 < (l3.length : Int) then (if 0 ≤ x1 ∧ x1 < (l3.length : Int) then (F.close_Forfeit.l1 l5 fuel (setI l3 x1 (IntKind.i64.wrap ((getI l3 x1) - (imin x2 (getI l1 x1))))) 0) else none) else none))) else none)))))))))
def F.close_Forfeit (l1 : List Int) (x1 : Int) (x2 : Int) (l2 : List Bool) : Option ((List Int) × Int) := ((F.close_seated (l1.length : Int)).bind fun q1 => (if (!q1) = true then (some ([], 1)) else (if ((l2.length : Int) != (l1.length : Int)) = true then (some ([], 3)) else (if decide (x1 < 0) = true then (F.close_Forfeit.c1 l1 x1 x2 l2 true) else (F.close_Forfeit.c1 l1 x1 x2 l2 (decide (x1 ≥ (l1.length : Int))))))))
theorem P.close_Forfeit (g0 : GW) (r0 : Nat) (l1 : List Int) (x1 : Int) (x2 : Int) (l2 : List Bool) (a1 : Option Addr) (n1 : Nat) (c1 : Nat) (a2 : Option Addr) (n2 : Nat) (c2 : Nat) (hR1 : RdS (Kd.int .i64) g0 3 a1 n1 c1 l1) (hR2 : RdS Kd.bool g0 4 a2 n2 c2 l2) (o1 : List Int) (o2 : Int) (hs : F.close_Forfeit l1 x1 x2 l2 = some (o1, o2)) :
    Calls Try.prog 12 #[.slice a1 n1 c1, .int .i64 x1, .int .i64 x2, .slice a2 n2 c2] g0.w (Ret NoM g0 fun v g => ∃ (a_1 : Option Addr) (n_1 : Nat) (c_1 : Nat), v = .tuple #[.slice a_1 n_1 c_1, .int .i64 o2] ∧ OwnS (Kd.int .i64) g r0 3 a_1 n_1 c_1 o1) := by
  refine calls_of (args := [.slice a1 n1 c1, .int .i64 x1, .int .i64 x2, .slice a2 n2 c2]) Try.func12 rfl (0) ?_
  intro t ht htL
  refine ⟨_, rfl, ?_⟩
  refine CP.refr 101 [(0, .slice a1 n1 c1), (1, .int .i64 x1), (2, .int .i64 x2), (3, .slice a2 n2 c2)] (by kernel_rfl) (by kernel_rfl) ?_
  intro ds
  have tot : Step (fun l => NoM l ∨ t ≤ l) g0 g0 := Step.refl _ _
  unfold F.close_Forfeit at hs
  refine CP.seqR ?_
  refine WP.still 2 (by kernel_rfl) ?_
  refine WP.done (by kernel_rfl) ?_
  refine NX.then_n ?_
  refine CP.seq ?_
  refine CP.block ?_
  refine CP.seqR ?_
  refine WP.still 1 (by kernel_rfl) ?_
  refine WP.len (a := a1) (cp := c1) hR1.len (by kernel_rfl) ?_
  replace hs := Option.bind_eq_some_iff.1 hs
  obtain ⟨q1, hk1, hs⟩ := hs
  have hcal1 := P.close_seated g0 (l1.length : Int) q1 hk1
  refine WP.callC hcal1 (by kernel_rfl) ?_
  rintro _ g1 st1 rfl
  replace hR1 := hR1.mono st1 (fun x => x)
  replace hR2 := hR2.mono st1 (fun x => x)
  replace tot := tot.trans st1.pure
  refine WP.still 2 (by kernel_rfl) ?_
  refine WP.done (by kernel_rfl) ?_
  refine NX.then_n ?_
  refine CP.cond (b := (!q1)) (by kernel_rfl) (fun h1 => ?_) (fun h1 => ?_)
  · replace hs := of_if_t hs h1
    refine CP.seqR ?_
    refine WP.still 2 (by kernel_rfl) ?_
    refine WP.done (by kernel_rfl) ?_
    refine NX.then_n ?_
    refine CP.ret ?_
    refine NX.block_r ?_
    refine NX.then_r ?_
    replace hs := Option.some.inj hs
    obtain ⟨rfl, rfl⟩ := Prod.mk.inj hs
    exact NX.fin (v := .tuple #[.slice none 0 0, .int .i64 1]) (Res.still (by kernel_rfl)) tot htL ⟨none, 0, 0, rfl, (OwnS.nil _ _ _ _)⟩
  · replace hs := of_if_f hs h1
    refine CP.seqR ?_
    refine WP.still 1 (by kernel_rfl) ?_
    refine WP.len (a := a2) (cp := c2) hR2.len (by kernel_rfl) ?_
    refine WP.still 1 (by kernel_rfl) ?_
    refine WP.len (a := a1) (cp := c1) hR1.len (by kernel_rfl) ?_
    refine WP.still 2 (by kernel_rfl) ?_
    refine WP.done (by kernel_rfl) ?_
    refine NX.then_n ?_
    refine CP.refr 101 [(0, .slice a1 n1 c1), (1, .int .i64 x1), (2, .int .i64 x2), (3, .slice a2 n2 c2), (25, .bool ((l2.length : Int) != (l1.length : Int)))] (by kernel_rfl) (by kernel_rfl) ?_
    clear ds
    intro ds
    refine CP.cond (b := ((l2.length : Int) != (l1.length : Int))) (by kernel_rfl) (fun h2 => ?_) (fun h2 => ?_)
    · replace hs := of_if_t hs h2
      refine CP.seqR ?_
      refine WP.still 2 (by kernel_rfl) ?_
      refine WP.done (by kernel_rfl) ?_
      refine NX.then_n ?_
      refine CP.ret ?_
      refine NX.block_r ?_
      refine NX.then_r ?_
      replace hs := Option.some.inj hs
      obtain ⟨rfl, rfl⟩ := Prod.mk.inj hs
      exact NX.fin (v := .tuple #[.slice none 0 0, .int .i64 3]) (Res.still (by kernel_rfl)) tot htL ⟨none, 0, 0, rfl, (OwnS.nil _ _ _ _)⟩
    · replace hs := of_if_f hs h2
      refine CP.cut (fun tm g => ∃ (q2 : Bool), Fr 101 [(0, .slice a1 n1 c1), (1, .int .i64 x1), (2, .int .i64 x2), (3, .slice a2 n2 c2), (31, .bool q2)] tm ∧ Step (fun l => NoM l ∨ t ≤ l) g0 g ∧ RdS (Kd.int .i64) g 3 a1 n1 c1 l1 ∧ RdS Kd.bool g 4 a2 n2 c2 l2 ∧ (F.close_Forfeit.c1 l1 x1 x2 l2 q2) = some (o1, o2)) ?_ ?_
      · refine CP.region ?_
        refine WP.still 3 (by kernel_rfl) ?_
        refine WP.guard 34 (b := decide (x1 < 0)) (by kernel_rfl) (fun h12 => ?_) (fun h12 => ?_)
        · replace hs := of_if_t hs h12
          refine WP.still 6 (by kernel_rfl) ?_
          refine WP.done (by kernel_rfl) ?_
          refine NX.post ?_
          exact ⟨true, ⟨by kernel_rfl, by kernel_rfl⟩, tot, hR1, hR2, hs⟩
        · replace hs := of_if_f hs h12
          refine WP.still 2 (by kernel_rfl) ?_
          refine WP.len (a := a1) (cp := c1) hR1.len (by kernel_rfl) ?_
          refine WP.still 3 (by kernel_rfl) ?_
          refine WP.done (by kernel_rfl) ?_
          refine NX.post ?_
          exact ⟨decide (x1 ≥ (l1.length : Int)), ⟨by kernel_rfl, by kernel_rfl⟩, tot, hR1, hR2, hs⟩
      · clear tot hs hR1 hR2
        rintro tm g ⟨q2, hF, tot, hR1, hR2, hs⟩
        clear ds
        obtain ⟨ds, rfl⟩ := hF.open
        clear hF
        unfold F.close_Forfeit.c1 at hs
        refine CP.cond (b := q2) (by kernel_rfl) (fun h4 => ?_) (fun h4 => ?_)
        · replace hs := of_if_t hs h4
          refine CP.seqR ?_
          refine WP.still 2 (by kernel_rfl) ?_
          refine WP.done (by kernel_rfl) ?_
          refine NX.then_n ?_
          refine CP.ret ?_
          refine NX.block_r ?_
          refine NX.then_r ?_
          replace hs := Option.some.inj hs
          obtain ⟨rfl, rfl⟩ := Prod.mk.inj hs
          exact NX.fin (v := .tuple #[.slice none 0 0, .int .i64 28]) (Res.still (by kernel_rfl)) tot htL ⟨none, 0, 0, rfl, (OwnS.nil _ _ _ _)⟩
        · replace hs := of_if_f hs h4
          refine CP.seqR ?_
          refine WP.still 1 (by kernel_rfl) ?_
          replace hs := Option.bind_eq_some_iff.1 hs
          obtain ⟨q3, hk2, hs⟩ := hs
          have hcal2 := P.coin_Right g x2 q3 hk2
          refine WP.callC hcal2 (by kernel_rfl) ?_
          rintro _ g2 st2 rfl
          replace hR1 := hR1.mono st2 (fun x => x)
          replace hR2 := hR2.mono st2 (fun x => x)
          replace tot := tot.trans st2.pure
          refine WP.still 2 (by kernel_rfl) ?_
          refine WP.done (by kernel_rfl) ?_
          refine NX.then_n ?_
          refine CP.cond (b := (!q3)) (by kernel_rfl) (fun h5 => ?_) (fun h5 => ?_)
          · replace hs := of_if_t hs h5
            refine CP.seqR ?_
            refine WP.still 2 (by kernel_rfl) ?_
            refine WP.done (by kernel_rfl) ?_
            refine NX.then_n ?_
            refine CP.ret ?_
            refine NX.block_r ?_
            refine NX.then_r ?_
            replace hs := Option.some.inj hs
            obtain ⟨rfl, rfl⟩ := Prod.mk.inj hs
            exact NX.fin (v := .tuple #[.slice none 0 0, .int .i64 2]) (Res.still (by kernel_rfl)) tot htL ⟨none, 0, 0, rfl, (OwnS.nil _ _ _ _)⟩
          · replace hs := of_if_f hs h5
            refine CP.skip ?_
            refine NX.block_n ?_
            refine NX.then_n ?_
            refine CP.seq ?_
            refine CP.seqR ?_
            refine WP.still 1 (by kernel_rfl) ?_
            replace hs := Option.bind_eq_some_iff.1 hs
            obtain ⟨⟨x3, x4⟩, hk3, hs⟩ := hs
            dsimp only at hs
            have hcal3 := P.coin_Sum g2 l1 a1 n1 c1 hR1 x3 x4 hk3
            refine WP.callC hcal3 (by kernel_rfl) ?_
            rintro _ g3 st3 rfl
            replace hR1 := hR1.mono st3 (fun x => x)
            replace hR2 := hR2.mono st3 (fun x => x)
            replace tot := tot.trans st3.pure
            refine WP.still 5 (by kernel_rfl) ?_
            refine WP.done (by kernel_rfl) ?_
            refine NX.then_n ?_
            refine CP.seqR ?_
            refine WP.still 2 (by kernel_rfl) ?_
            refine WP.done (by kernel_rfl) ?_
            refine NX.then_n ?_
            refine CP.refr 101 [(0, .slice a1 n1 c1), (1, .int .i64 x1), (2, .int .i64 x2), (3, .slice a2 n2 c2), (11, .int .i64 x4), (50, .bool (x4 != 0))] (by kernel_rfl) (by kernel_rfl) ?_
            clear ds
            intro ds
            refine CP.cond (b := (x4 != 0)) (by kernel_rfl) (fun h6 => ?_) (fun h6 => ?_)
            · replace hs := of_if_t hs h6
              refine CP.seqR ?_
              refine WP.still 3 (by kernel_rfl) ?_
              refine WP.done (by kernel_rfl) ?_
              refine NX.then_n ?_
              refine CP.ret ?_
              refine NX.then_r ?_
              replace hs := Option.some.inj hs
              obtain ⟨rfl, rfl⟩ := Prod.mk.inj hs
              exact NX.fin (v := .tuple #[.slice none 0 0, .int .i64 x4]) (Res.still (by kernel_rfl)) tot htL ⟨none, 0, 0, rfl, (OwnS.nil _ _ _ _)⟩
            · replace hs := of_if_f hs h6
              refine CP.skip ?_
              refine NX.then_n ?_
              refine CP.seqR ?_
              refine WP.still 1 (by kernel_rfl) ?_
              replace hs := Option.bind_eq_some_iff.1 hs
              obtain ⟨l3, hk4, hs⟩ := hs
              have hcal4 := P.slices_Clone_int_int g3 (t + 1) l1 a1 n1 c1 hR1 l3 hk4
              refine WP.callC hcal4 (by kernel_rfl) ?_
              rintro _ g4 st4 ⟨a3, n3, c3, rfl, hR3⟩
              replace hR1 := hR1.mono st4 (fun x => x)
              replace hR2 := hR2.mono st4 (fun x => x)
              replace tot := tot.trans st4.pure
              refine WP.still 1 (by kernel_rfl) ?_
              refine WP.done (by kernel_rfl) ?_
              refine NX.then_n ?_
              refine CP.seqR ?_
              refine WP.still 2 (by kernel_rfl) ?_
              replace hs := Option.bind_eq_some_iff.1 hs
              obtain ⟨⟨l4, q4⟩, hk5, hs⟩ := hs
              dsimp only at hs
              have hcal5 := P.close_others g4 (t + 2) x1 l2 a2 n2 c2 hR2 l4 q4 hk5
              refine WP.callC hcal5 (by kernel_rfl) ?_
              rintro _ g5 st5 ⟨a4, n4, c4, rfl, hR4⟩
              replace hR1 := hR1.mono st5 (fun x => x)
              replace hR2 := hR2.mono st5 (fun x => x)
              replace hR3 := hR3.mono st5 (fun x => x) (fun x => x)
              replace tot := tot.trans st5.pure
              refine WP.still 5 (by kernel_rfl) ?_
              refine WP.done (by kernel_rfl) ?_
              refine NX.then_n ?_
              refine CP.seq ?_
              refine CP.seqR ?_
              refine WP.still 2 (by kernel_rfl) ?_
              refine WP.done (by kernel_rfl) ?_
              refine NX.then_n ?_
              refine CP.refr 101 [(0, .slice a1 n1 c1), (1, .int .i64 x1), (2, .int .i64 x2), (12, .slice a3 n3 c3), (13, .slice a4 n4 c4), (61, .bool (!q4))] (by kernel_rfl) (by kernel_rfl) ?_
              clear ds
              intro ds
              refine CP.cond (b := (!q4)) (by kernel_rfl) (fun h7 => ?_) (fun h7 => ?_)
              · replace hs := of_if_t hs h7
                refine CP.seqR ?_
                refine WP.still 3 (by kernel_rfl) ?_
                refine WP.done (by kernel_rfl) ?_
                refine NX.then_n ?_
                refine CP.ret ?_
                refine NX.then_r ?_
                obtain ⟨g6, hw1, st6, hnew⟩ := hR3.relab (by omega) r0
                refine NX.regw hw1 ?_
                replace tot := tot.trans (st6.up1 (.inr (by omega)))
                clear hR3
                have hR3 := hnew
                clear hnew
                replace hs := Option.some.inj hs
                obtain ⟨rfl, rfl⟩ := Prod.mk.inj hs
                exact NX.fin (v := .tuple #[.slice a3 n3 c3, .int .i64 0]) (Res.still (by kernel_rfl)) tot htL ⟨a3, n3, c3, rfl, hR3⟩
              · replace hs := of_if_f hs h7
                refine CP.skip ?_
                refine NX.then_n ?_
                refine CP.seqR ?_
                refine WP.still 3 (by kernel_rfl) ?_
                by_cases hc1 : 0 ≤ x1 ∧ x1 < (l1.length : Int)
                case neg => rw [if_neg hc1] at hs; cases hs
                replace hs := of_if_p hs hc1
                obtain ⟨b1, u1, ha1⟩ := hR1.at hc1
                refine WP.indexA (t := 22) (e := 3) (sz := 1) (cap := c1) (k := .i64) (i := x1) hR1.len ha1 (by kernel_rfl) (by kernel_rfl) hc1 ?_
                obtain ⟨cs1, hcR1, hcV1⟩ := hR1.src.view (getI_some hc1) ha1
                replace hcR1 := Kd.o_int hcR1
                refine WP.loadV [[.int .i64 (getI l1 x1)]] [1] hcV1 hcR1 rfl (f := 0) (ty := 3) (agg := false) (size := 1) (rs := [[.int .i64 (getI l1 x1)]]) (v := .int .i64 (getI l1 x1)) (by kernel_rfl) (by kernel_rfl) (by kernel_rfl) (by kernel_rfl) ?_
                refine WP.still 2 (by kernel_rfl) ?_
                refine WP.done (by kernel_rfl) ?_
                refine NX.then_n ?_
                refine CP.seqR ?_
                refine WP.still 2 (by kernel_rfl) ?_
                replace hs := Option.bind_eq_some_iff.1 hs
                obtain ⟨⟨l5, x5⟩, hk6, hs⟩ := hs
                dsimp only at hs
                obtain ⟨g8, hw2, st8, hnew⟩ := hR4.freeze (by omega)
                refine WP.regw hw2 ?_
                replace hR3 := hR3.mono st8 (WL.no1 (by omega)) (WL.no1 (by omega))
                replace tot := tot.trans (st8.up1 (.inr (by omega)))
                clear hR4
                have hR4 := hnew
                clear hnew
                have hcal6 := P.coin_Split g8 (t + 3) (imin x2 (getI l1 x1)) l4 a4 n4 c4 hR4 l5 x5 hk6
                refine WP.callC hcal6 (by kernel_rfl) ?_
                rintro _ g7 st7 ⟨a5, n5, c5, rfl, hR5⟩
                replace hR3 := hR3.mono st7 (fun x => x) (fun x => x)
                replace hR4 := hR4.mono st7 (fun x => x)
                replace tot := tot.trans st7.pure
                refine WP.still 5 (by kernel_rfl) ?_
                refine WP.done (by kernel_rfl) ?_
                refine NX.then_n ?_
                refine CP.refr 101 [(1, .int .i64 x1), (12, .slice a3 n3 c3), (15, .int .i64 (imin x2 (getI l1 x1))), (16, .slice a5 n5 c5), (17, .int .i64 x5)] (by kernel_rfl) (by kernel_rfl) ?_
                clear ds
                intro ds
                refine CP.seq ?_
                refine CP.seqR ?_
                refine WP.still 2 (by kernel_rfl) ?_
                refine WP.done (by kernel_rfl) ?_
                refine NX.then_n ?_
                refine CP.cond (b := (x5 != 0)) (by kernel_rfl) (fun h8 => ?_) (fun h8 => ?_)
                · replace hs := of_if_t hs h8
                  refine CP.seqR ?_
                  refine WP.still 3 (by kernel_rfl) ?_
                  refine WP.done (by kernel_rfl) ?_
                  refine NX.then_n ?_
                  refine CP.ret ?_
                  refine NX.then_r ?_
                  replace hs := Option.some.inj hs
                  obtain ⟨rfl, rfl⟩ := Prod.mk.inj hs
                  exact NX.fin (v := .tuple #[.slice none 0 0, .int .i64 x5]) (Res.still (by kernel_rfl)) tot htL ⟨none, 0, 0, rfl, (OwnS.nil _ _ _ _)⟩
                · replace hs := of_if_f hs h8
                  refine CP.skip ?_
                  refine NX.then_n ?_
                  refine CP.seqR ?_
                  refine WP.still 2 (by kernel_rfl) ?_
                  by_cases hc2 : 0 ≤ x1 ∧ x1 < (l3.length : Int)
                  case neg => rw [if_neg hc2] at hs; cases hs
                  replace hs := of_if_p hs hc2
                  obtain ⟨b2, u2, ha2⟩ := hR3.at hc2
                  refine WP.indexA (t := 22) (e := 3) (sz := 1) (cap := c3) (k := .i64) (i := x1) hR3.len ha2 (by kernel_rfl) (by kernel_rfl) hc2 ?_
                  obtain ⟨cs2, hcR2, hcV2⟩ := hR3.src.view (getI_some hc2) ha2
                  replace hcR2 := Kd.o_int hcR2
                  refine WP.loadV [[.int .i64 (getI l3 x1)]] [1] hcV2 hcR2 rfl (f := 0) (ty := 3) (agg := false) (size := 1) (rs := [[.int .i64 (getI l3 x1)]]) (v := .int .i64 (getI l3 x1)) (by kernel_rfl) (by kernel_rfl) (by kernel_rfl) (by kernel_rfl) ?_
                  refine WP.still 2 (by kernel_rfl) ?_
                  by_cases hc3 : 0 ≤ x1 ∧ x1 < (l3.length : Int)
                  case neg => rw [if_neg hc3] at hs; cases hs
                  replace hs := of_if_p hs hc3
                  obtain ⟨b3, u3, ha3⟩ := hR3.at hc3
                  refine WP.indexA (t := 22) (e := 3) (sz := 1) (cap := c3) (k := .i64) (i := x1) hR3.len ha3 (by kernel_rfl) (by kernel_rfl) hc3 ?_
                  refine WP.storeO (ty := 3) (v := .int .i64 (IntKind.i64.wrap ((getI l3 x1) - (imin x2 (getI l1 x1))))) hR3 (by omega) (i := x1.toNat) (by omega) ha3 (by kernel_rfl) (x := (IntKind.i64.wrap ((getI l3 x1) - (imin x2 (getI l1 x1))))) (by exact rfl) (by kernel_rfl) ?_
                  intro g9 st9 hO1
                  replace hR5 := hR5.mono st9 (WL.no1 (by omega)) (WL.no1 (by omega))
                  replace tot := tot.trans (st9.up1 (.inr (by omega)))
                  clear hR3
                  have hR3 := hO1
                  clear hO1
                  refine WP.done (by kernel_rfl) ?_
                  refine NX.then_n ?_
                  refine CP.seq ?_
                  refine CP.seqR ?_
                  refine WP.still 1 (by kernel_rfl) ?_
                  refine WP.len (a := a5) (cp := c5) hR5.len (by kernel_rfl) ?_
                  refine WP.still 1 (by kernel_rfl) ?_
                  refine WP.done (by kernel_rfl) ?_
                  refine NX.then_n ?_
                  refine CP.refr 101 [(12, .slice a3 n3 c3), (85, .slice a5 n5 c5), (86, .int .i64 (l5.length : Int)), (87, .int .i64 0)] (by kernel_rfl) (by kernel_rfl) ?_
                  clear ds
                  intro ds
                  refine CP.block ?_
                  generalize fuel = k1 at hs
                  refine CP.loop (fun k1 tm g => ∃ (l6 : List Int) (a6 : Option Addr) (n6 : Nat) (c6 : Nat) (x6 : Int), Fr 101 [(12, .slice a6 n6 c6), (85, .slice a5 n5 c5), (86, .int .i64 (l5.length : Int)), (87, .int .i64 x6)] tm ∧ Step (fun l => NoM l ∨ t ≤ l) g0 g ∧ OwnS (Kd.int .i64) g (t + 1) 3 a6 n6 c6 l6 ∧ OwnS (Kd.int .i64) g (t + 3) 3 a5 n5 c5 l5 ∧ F.close_Forfeit.l1 l5 k1 l6 x6 = some (o1, o2)) k1 ?_ ?_ ?_
                  · exact ⟨(setI l3 x1 (IntKind.i64.wrap ((getI l3 x1) - (imin x2 (getI l1 x1))))), a3, n3, c3, 0, ⟨by kernel_rfl, by kernel_rfl⟩, tot, hR3, hR5, hs⟩
                  · rintro tm g ⟨l6, a6, n6, c6, x6, hF, tot, hR6, hR5, hs⟩
                    exact absurd hs (by simp [F.close_Forfeit.l1])
                  clear tot hs hR3 hR5
                  rintro k1 tm g ⟨l6, a6, n6, c6, x6, hF, tot, hR6, hR5, hs⟩
                  clear ds
                  obtain ⟨ds, rfl⟩ := hF.open
                  clear hF
                  unfold F.close_Forfeit.l1 at hs
                  refine CP.seqR ?_
                  refine WP.still 1 (by kernel_rfl) ?_
                  refine WP.done (by kernel_rfl) ?_
                  refine NX.then_n ?_
                  refine CP.seq ?_
                  refine CP.cond (b := decide (x6 < (l5.length : Int))) (by kernel_rfl) (fun h11 => ?_) (fun h11 => ?_)
                  · replace hs := of_if_t hs h11
                    refine CP.skip ?_
                    refine NX.then_n ?_
                    refine CP.seq ?_
                    refine CP.block ?_
                    refine CP.seqR ?_
                    refine WP.still 1 (by kernel_rfl) ?_
                    by_cases hc10 : 0 ≤ x6 ∧ x6 < (l5.length : Int)
                    case neg => rw [if_neg hc10] at hs; cases hs
                    replace hs := of_if_p hs hc10
                    obtain ⟨b10, u10, ha10⟩ := hR5.at hc10
                    refine WP.indexA (t := 22) (e := 3) (sz := 1) (cap := c5) (k := .i64) (i := x6) hR5.len ha10 (by kernel_rfl) (by kernel_rfl) hc10 ?_
                    obtain ⟨cs7, hcR7, hcV7⟩ := hR5.src.view (getI_some hc10) ha10
                    replace hcR7 := Kd.o_int hcR7
                    refine WP.loadV [[.int .i64 (getI l5 x6)]] [1] hcV7 hcR7 rfl (f := 0) (ty := 3) (agg := false) (size := 1) (rs := [[.int .i64 (getI l5 x6)]]) (v := .int .i64 (getI l5 x6)) (by kernel_rfl) (by kernel_rfl) (by kernel_rfl) (by kernel_rfl) ?_
                    refine WP.still 2 (by kernel_rfl) ?_
                    refine WP.done (by kernel_rfl) ?_
                    refine NX.then_n ?_
                    refine CP.region ?_
                    refine WP.still 2 (by kernel_rfl) ?_
                    by_cases hc11 : 0 ≤ x6 ∧ x6 < (l6.length : Int)
                    case neg => rw [if_neg hc11] at hs; cases hs
                    replace hs := of_if_p hs hc11
                    obtain ⟨b11, u11, ha11⟩ := hR6.at hc11
                    refine WP.indexA (t := 22) (e := 3) (sz := 1) (cap := c6) (k := .i64) (i := x6) hR6.len ha11 (by kernel_rfl) (by kernel_rfl) hc11 ?_
                    obtain ⟨cs8, hcR8, hcV8⟩ := hR6.src.view (getI_some hc11) ha11
                    replace hcR8 := Kd.o_int hcR8
                    refine WP.loadV [[.int .i64 (getI l6 x6)]] [1] hcV8 hcR8 rfl (f := 0) (ty := 3) (agg := false) (size := 1) (rs := [[.int .i64 (getI l6 x6)]]) (v := .int .i64 (getI l6 x6)) (by kernel_rfl) (by kernel_rfl) (by kernel_rfl) (by kernel_rfl) ?_
                    refine WP.still 2 (by kernel_rfl) ?_
                    by_cases hc12 : 0 ≤ x6 ∧ x6 < (l6.length : Int)
                    case neg => rw [if_neg hc12] at hs; cases hs
                    replace hs := of_if_p hs hc12
                    obtain ⟨b12, u12, ha12⟩ := hR6.at hc12
                    refine WP.indexA (t := 22) (e := 3) (sz := 1) (cap := c6) (k := .i64) (i := x6) hR6.len ha12 (by kernel_rfl) (by kernel_rfl) hc12 ?_
                    refine WP.storeO (ty := 3) (v := .int .i64 (IntKind.i64.wrap ((getI l6 x6) + (getI l5 x6)))) hR6 (by omega) (i := x6.toNat) (by omega) ha12 (by kernel_rfl) (x := (IntKind.i64.wrap ((getI l6 x6) + (getI l5 x6)))) (by exact rfl) (by kernel_rfl) ?_
                    intro g12 st12 hO4
                    replace hR5 := hR5.mono st12 (WL.no1 (by omega)) (WL.no1 (by omega))
                    replace tot := tot.trans (st12.up1 (.inr (by omega)))
                    clear hR6
                    have hR6 := hO4
                    clear hO4
                    refine WP.done (by kernel_rfl) ?_
                    refine NX.block_n ?_
                    refine NX.then_n ?_
                    refine CP.refr 101 [(12, .slice a6 n6 c6), (85, .slice a5 n5 c5), (86, .int .i64 (l5.length : Int)), (87, .int .i64 x6)] (by kernel_rfl) (by kernel_rfl) ?_
                    clear ds
                    intro ds
                    refine CP.region ?_
                    refine WP.still 2 (by kernel_rfl) ?_
                    refine WP.done (by kernel_rfl) ?_
                    refine NX.post ?_
                    exact ⟨(setI l6 x6 (IntKind.i64.wrap ((getI l6 x6) + (getI l5 x6)))), a6, n6, c6, (IntKind.i64.wrap (x6 + 1)), ⟨by kernel_rfl, by kernel_rfl⟩, tot, hR6, hR5, hs⟩
                  · replace hs := of_if_f hs h11
                    refine CP.exit ?_
                    refine NX.then_e ?_
                    refine NX.then_e ?_
                    refine NX.block_s ?_
                    refine NX.then_n ?_
                    refine CP.seqR ?_
                    refine WP.still 3 (by kernel_rfl) ?_
                    refine WP.done (by kernel_rfl) ?_
                    refine NX.then_n ?_
                    refine CP.ret ?_
                    obtain ⟨g13, hw3, st13, hnew⟩ := hR6.relab (by omega) r0
                    refine NX.regw hw3 ?_
                    replace tot := tot.trans (st13.up1 (.inr (by omega)))
                    clear hR6
                    have hR6 := hnew
                    clear hnew
                    replace hs := Option.some.inj hs
                    obtain ⟨rfl, rfl⟩ := Prod.mk.inj hs
                    exact NX.fin (v := .tuple #[.slice a6 n6 c6, .int .i64 0]) (Res.still (by kernel_rfl)) tot htL ⟨a6, n6, c6, rfl, hR6⟩
def F.close_Adds_1 (x1 : Int) : Option (Bool) := ((F.coin_Right x1).bind fun q1 => (some (!q1)))
theorem P.close_Adds_1 (g0 : GW) (x1 : Int) (o1 : Bool) (hs : F.close_Adds_1 x1 = some o1) :
    Calls Try.prog 23 #[.int .i64 x1] g0.w (Ret NoM g0 fun v g => v = .bool o1) := by
  refine calls_of (args := [.int .i64 x1]) Try.func23 rfl (0) ?_
  intro t ht htL
  refine ⟨_, rfl, ?_⟩
  refine CP.refr 6 [(0, .int .i64 x1)] (by kernel_rfl) (by kernel_rfl) ?_
  intro ds
  have tot : Step (fun l => NoM l ∨ t ≤ l) g0 g0 := Step.refl _ _
  unfold F.close_Adds_1 at hs
  refine CP.seqR ?_
  refine WP.still 1 (by kernel_rfl) ?_
  refine WP.done (by kernel_rfl) ?_
  refine NX.then_n ?_
  refine CP.seqR ?_
  refine WP.still 1 (by kernel_rfl) ?_
  replace hs := Option.bind_eq_some_iff.1 hs
  obtain ⟨q1, hk1, hs⟩ := hs
  have hcal1 := P.coin_Right g0 x1 q1 hk1
  refine WP.callC hcal1 (by kernel_rfl) ?_
  rintro _ g1 st1 rfl
  replace tot := tot.trans st1.pure
  refine WP.still 2 (by kernel_rfl) ?_
  refine WP.done (by kernel_rfl) ?_
  refine NX.then_n ?_
  refine CP.ret ?_
  replace hs := Option.some.inj hs
  obtain rfl := hs
  exact NX.fin (v := .bool (!q1)) (Res.still (by kernel_rfl)) tot htL rfl
def F.slices_IndexFunc_int_int.l1 (l1 : List Int) : Nat → Int → Option (Int)
  | 0, _ => none
  | k + 1, x1 => (if decide (x1 < (l1.length : Int)) = true then (if 0 ≤ x1 ∧ x1 < (l1.length : Int) then ((F.close_Adds_1 (getI l1 x1)).bind fun q3 => (if q3 = true then (some x1) else (F.slices_IndexFunc_int_int.l1 l1 k (IntKind.i64.wrap (x1 + 1))))) else none) else (some (-1)))
def F.slices_IndexFunc_int_int (l1 : List Int) : Option (Int) := (F.slices_IndexFunc_int_int.l1 l1 fuel 0)
theorem P.slices_IndexFunc_int_int (g0 : GW) (l1 : List Int) (a1 : Option Addr) (n1 : Nat) (c1 : Nat) (hR1 : RdS (Kd.int .i64) g0 3 a1 n1 c1 l1) (o1 : Int) (hs : F.slices_IndexFunc_int_int l1 = some o1) :
    Calls Try.prog 38 #[.slice a1 n1 c1, .func (.func 23) #[] #[]] g0.w (Ret NoM g0 fun v g => v = .int .i64 o1) := by
  refine calls_of (args := [.slice a1 n1 c1, .func (.func 23) #[] #[]]) Try.func38 rfl (0) ?_
  intro t ht htL
  refine ⟨_, rfl, ?_⟩
  refine CP.refr 19 [(0, .slice a1 n1 c1), (1, .func (.func 23) #[] #[])] (by kernel_rfl) (by kernel_rfl) ?_
  intro ds
  have tot : Step (fun l => NoM l ∨ t ≤ l) g0 g0 := Step.refl _ _
  unfold F.slices_IndexFunc_int_int at hs
  refine CP.seqR ?_
  refine WP.still 1 (by kernel_rfl) ?_
  refine WP.done (by kernel_rfl) ?_
  refine NX.then_n ?_
  refine CP.seq ?_
  refine CP.seqR ?_
  refine WP.still 1 (by kernel_rfl) ?_
  refine WP.len (a := a1) (cp := c1) hR1.len (by kernel_rfl) ?_
  refine WP.still 1 (by kernel_rfl) ?_
  refine WP.done (by kernel_rfl) ?_
  refine NX.then_n ?_
  refine CP.block ?_
  generalize fuel = k1 at hs
  refine CP.loop (fun k1 tm g => ∃ (x1 : Int), Fr 19 [(0, .slice a1 n1 c1), (1, .func (.func 23) #[] #[]), (7, .int .i64 (l1.length : Int)), (8, .int .i64 x1)] tm ∧ Step (fun l => NoM l ∨ t ≤ l) g0 g ∧ RdS (Kd.int .i64) g 3 a1 n1 c1 l1 ∧ F.slices_IndexFunc_int_int.l1 l1 k1 x1 = some o1) k1 ?_ ?_ ?_
  · exact ⟨0, ⟨by kernel_rfl, by kernel_rfl⟩, tot, hR1, hs⟩
  · rintro tm g ⟨x1, hF, tot, hR1, hs⟩
    exact absurd hs (by simp [F.slices_IndexFunc_int_int.l1])
  clear tot hs hR1
  rintro k1 tm g ⟨x1, hF, tot, hR1, hs⟩
  clear ds
  obtain ⟨ds, rfl⟩ := hF.open
  clear hF
  unfold F.slices_IndexFunc_int_int.l1 at hs
  refine CP.seqR ?_
  refine WP.still 1 (by kernel_rfl) ?_
  refine WP.done (by kernel_rfl) ?_
  refine NX.then_n ?_
  refine CP.seq ?_
  refine CP.cond (b := decide (x1 < (l1.length : Int))) (by kernel_rfl) (fun h5 => ?_) (fun h5 => ?_)
  · replace hs := of_if_t hs h5
    refine CP.skip ?_
    refine NX.then_n ?_
    refine CP.seq ?_
    refine CP.block ?_
    refine CP.seqR ?_
    refine WP.still 2 (by kernel_rfl) ?_
    refine WP.done (by kernel_rfl) ?_
    refine NX.then_n ?_
    refine CP.seqR ?_
    refine WP.still 3 (by kernel_rfl) ?_
    by_cases hc3 : 0 ≤ x1 ∧ x1 < (l1.length : Int)
    case neg => rw [if_neg hc3] at hs; cases hs
    replace hs := of_if_p hs hc3
    obtain ⟨b3, u3, ha3⟩ := hR1.at hc3
    refine WP.indexA (t := 22) (e := 3) (sz := 1) (cap := c1) (k := .i64) (i := x1) hR1.len ha3 (by kernel_rfl) (by kernel_rfl) hc3 ?_
    obtain ⟨cs3, hcR3, hcV3⟩ := hR1.src.view (getI_some hc3) ha3
    replace hcR3 := Kd.o_int hcR3
    refine WP.loadV [[.int .i64 (getI l1 x1)]] [1] hcV3 hcR3 rfl (f := 0) (ty := 3) (agg := false) (size := 1) (rs := [[.int .i64 (getI l1 x1)]]) (v := .int .i64 (getI l1 x1)) (by kernel_rfl) (by kernel_rfl) (by kernel_rfl) (by kernel_rfl) ?_
    replace hs := Option.bind_eq_some_iff.1 hs
    obtain ⟨q3, hk3, hs⟩ := hs
    have hcal3 := P.close_Adds_1 g (getI l1 x1) q3 hk3
    refine WP.callC hcal3 (by kernel_rfl) ?_
    rintro _ g3 st3 rfl
    replace hR1 := hR1.mono st3 (fun x => x)
    replace tot := tot.trans st3.pure
    refine WP.done (by kernel_rfl) ?_
    refine NX.then_n ?_
    refine CP.cond (b := q3) (by kernel_rfl) (fun h6 => ?_) (fun h6 => ?_)
    · replace hs := of_if_t hs h6
      refine CP.seqR ?_
      refine WP.still 2 (by kernel_rfl) ?_
      refine WP.done (by kernel_rfl) ?_
      refine NX.then_n ?_
      refine CP.ret ?_
      refine NX.block_r ?_
      refine NX.then_r ?_
      refine NX.then_r ?_
      refine NX.block_r ?_
      refine NX.then_r ?_
      replace hs := Option.some.inj hs
      obtain rfl := hs
      exact NX.fin (v := .int .i64 x1) (Res.still (by kernel_rfl)) tot htL rfl
    · replace hs := of_if_f hs h6
      refine CP.skip ?_
      refine NX.block_n ?_
      refine NX.then_n ?_
      refine CP.region ?_
      refine WP.still 2 (by kernel_rfl) ?_
      refine WP.done (by kernel_rfl) ?_
      refine NX.post ?_
      exact ⟨(IntKind.i64.wrap (x1 + 1)), ⟨by kernel_rfl, by kernel_rfl⟩, tot, hR1, hs⟩
  · replace hs := of_if_f hs h5
    refine CP.exit ?_
    refine NX.then_e ?_
    refine NX.then_e ?_
    refine NX.block_s ?_
    refine NX.then_n ?_
    refine CP.seqR ?_
    refine WP.still 1 (by kernel_rfl) ?_
    refine WP.done (by kernel_rfl) ?_
    refine NX.then_n ?_
    refine CP.ret ?_
    replace hs := Option.some.inj hs
    obtain rfl := hs
    exact NX.fin (v := .int .i64 (-1)) (Res.still (by kernel_rfl)) tot htL rfl
def F.slices_ContainsFunc_int_int (l1 : List Int) : Option (Bool) := ((F.slices_IndexFunc_int_int l1).bind fun x1 => (some (decide (x1 ≥ 0))))
theorem P.slices_ContainsFunc_int_int (g0 : GW) (l1 : List Int) (a1 : Option Addr) (n1 : Nat) (c1 : Nat) (hR1 : RdS (Kd.int .i64) g0 3 a1 n1 c1 l1) (o1 : Bool) (hs : F.slices_ContainsFunc_int_int l1 = some o1) :
    Calls Try.prog 22 #[.slice a1 n1 c1, .func (.func 23) #[] #[]] g0.w (Ret NoM g0 fun v g => v = .bool o1) := by
  refine calls_of (args := [.slice a1 n1 c1, .func (.func 23) #[] #[]]) Try.func22 rfl (0) ?_
  intro t ht htL
  refine ⟨_, rfl, ?_⟩
  refine CP.refr 9 [(0, .slice a1 n1 c1), (1, .func (.func 23) #[] #[])] (by kernel_rfl) (by kernel_rfl) ?_
  intro ds
  have tot : Step (fun l => NoM l ∨ t ≤ l) g0 g0 := Step.refl _ _
  unfold F.slices_ContainsFunc_int_int at hs
  refine CP.seqR ?_
  refine WP.still 1 (by kernel_rfl) ?_
  refine WP.done (by kernel_rfl) ?_
  refine NX.then_n ?_
  refine CP.seqR ?_
  refine WP.still 2 (by kernel_rfl) ?_
  replace hs := Option.bind_eq_some_iff.1 hs
  obtain ⟨x1, hk1, hs⟩ := hs
  have hcal1 := P.slices_IndexFunc_int_int g0 l1 a1 n1 c1 hR1 x1 hk1
  refine WP.callC hcal1 (by kernel_rfl) ?_
  rintro _ g1 st1 rfl
  replace hR1 := hR1.mono st1 (fun x => x)
  replace tot := tot.trans st1.pure
  refine WP.still 2 (by kernel_rfl) ?_
  refine WP.done (by kernel_rfl) ?_
  refine NX.then_n ?_
  refine CP.ret ?_
  replace hs := Option.some.inj hs
  obtain rfl := hs
  exact NX.fin (v := .bool (decide (x1 ≥ 0))) (Res.still (by kernel_rfl)) tot htL rfl
def F.close_Adds.c1 (q4 : Bool) : Option (Int) := (if q4 = true then (some 22) else (some 0))
def F.close_Adds (x1 : Int) (x2 : Int) (l1 : List Int) : Option (Int) := ((F.close_seated x2).bind fun q1 => (if (!q1) = true then (some 1) else ((F.coin_Right x1).bind fun q2 => (if (!q2) = true then (some 2) else (if ((l1.length : Int) != x2) = true then (some 3) else ((F.slices_ContainsFunc_int_int l1).bind fun q3 => (if q3 = true then (some 2) else ((F.coin_Sum l1).bind fun (x3, x4) => (if (x4 != 0) = true then (F.close_Adds.c1 true) else (F.close_Adds.c1 (x3 != x1)))))))))))
theorem P.close_Adds (g0 : GW) (x1 : Int) (x2 : Int) (l1 : List Int) (a1 : Option Addr) (n1 : Nat) (c1 : Nat) (hR1 : RdS (Kd.int .i64) g0 3 a1 n1 c1 l1) (o1 : Int) (hs : F.close_Adds x1 x2 l1 = some o1) :
    Calls Try.prog 10 #[.int .i64 x1, .int .i64 x2, .slice a1 n1 c1] g0.w (Ret NoM g0 fun v g => v = .int .i64 o1) := by
  refine calls_of (args := [.int .i64 x1, .int .i64 x2, .slice a1 n1 c1]) Try.func10 rfl (0) ?_
  intro t ht htL
  refine ⟨_, rfl, ?_⟩
  refine CP.refr 37 [(0, .int .i64 x1), (1, .int .i64 x2), (2, .slice a1 n1 c1)] (by kernel_rfl) (by kernel_rfl) ?_
  intro ds
  have tot : Step (fun l => NoM l ∨ t ≤ l) g0 g0 := Step.refl _ _
  unfold F.close_Adds at hs
  refine CP.seqR ?_
  refine WP.still 1 (by kernel_rfl) ?_
  refine WP.done (by kernel_rfl) ?_
  refine NX.then_n ?_
  refine CP.seq ?_
  refine CP.block ?_
  refine CP.seqR ?_
  refine WP.still 1 (by kernel_rfl) ?_
  replace hs := Option.bind_eq_some_iff.1 hs
  obtain ⟨q1, hk1, hs⟩ := hs
  have hcal1 := P.close_seated g0 x2 q1 hk1
  refine WP.callC hcal1 (by kernel_rfl) ?_
  rintro _ g1 st1 rfl
  replace hR1 := hR1.mono st1 (fun x => x)
  replace tot := tot.trans st1.pure
  refine WP.still 2 (by kernel_rfl) ?_
  refine WP.done (by kernel_rfl) ?_
  refine NX.then_n ?_
  refine CP.cond (b := (!q1)) (by kernel_rfl) (fun h1 => ?_) (fun h1 => ?_)
  · replace hs := of_if_t hs h1
    refine CP.seqR ?_
    refine WP.still 1 (by kernel_rfl) ?_
    refine WP.done (by kernel_rfl) ?_
    refine NX.then_n ?_
    refine CP.ret ?_
    refine NX.block_r ?_
    refine NX.then_r ?_
    replace hs := Option.some.inj hs
    obtain rfl := hs
    exact NX.fin (v := .int .i64 1) (Res.still (by kernel_rfl)) tot htL rfl
  · replace hs := of_if_f hs h1
    refine CP.seqR ?_
    refine WP.still 1 (by kernel_rfl) ?_
    replace hs := Option.bind_eq_some_iff.1 hs
    obtain ⟨q2, hk2, hs⟩ := hs
    have hcal2 := P.coin_Right g1 x1 q2 hk2
    refine WP.callC hcal2 (by kernel_rfl) ?_
    rintro _ g2 st2 rfl
    replace hR1 := hR1.mono st2 (fun x => x)
    replace tot := tot.trans st2.pure
    refine WP.still 2 (by kernel_rfl) ?_
    refine WP.done (by kernel_rfl) ?_
    refine NX.then_n ?_
    refine CP.cond (b := (!q2)) (by kernel_rfl) (fun h2 => ?_) (fun h2 => ?_)
    · replace hs := of_if_t hs h2
      refine CP.seqR ?_
      refine WP.still 1 (by kernel_rfl) ?_
      refine WP.done (by kernel_rfl) ?_
      refine NX.then_n ?_
      refine CP.ret ?_
      refine NX.block_r ?_
      refine NX.then_r ?_
      replace hs := Option.some.inj hs
      obtain rfl := hs
      exact NX.fin (v := .int .i64 2) (Res.still (by kernel_rfl)) tot htL rfl
    · replace hs := of_if_f hs h2
      refine CP.seqR ?_
      refine WP.still 1 (by kernel_rfl) ?_
      refine WP.len (a := a1) (cp := c1) hR1.len (by kernel_rfl) ?_
      refine WP.still 3 (by kernel_rfl) ?_
      refine WP.done (by kernel_rfl) ?_
      refine NX.then_n ?_
      refine CP.refr 37 [(0, .int .i64 x1), (2, .slice a1 n1 c1), (17, .bool ((l1.length : Int) != x2))] (by kernel_rfl) (by kernel_rfl) ?_
      clear ds
      intro ds
      refine CP.cond (b := ((l1.length : Int) != x2)) (by kernel_rfl) (fun h3 => ?_) (fun h3 => ?_)
      · replace hs := of_if_t hs h3
        refine CP.seqR ?_
        refine WP.still 1 (by kernel_rfl) ?_
        refine WP.done (by kernel_rfl) ?_
        refine NX.then_n ?_
        refine CP.ret ?_
        refine NX.block_r ?_
        refine NX.then_r ?_
        replace hs := Option.some.inj hs
        obtain rfl := hs
        exact NX.fin (v := .int .i64 3) (Res.still (by kernel_rfl)) tot htL rfl
      · replace hs := of_if_f hs h3
        refine CP.seqR ?_
        refine WP.still 1 (by kernel_rfl) ?_
        replace hs := Option.bind_eq_some_iff.1 hs
        obtain ⟨q3, hk3, hs⟩ := hs
        have hcal3 := P.slices_ContainsFunc_int_int g2 l1 a1 n1 c1 hR1 q3 hk3
        refine WP.callC hcal3 (by kernel_rfl) ?_
        rintro _ g3 st3 rfl
        replace hR1 := hR1.mono st3 (fun x => x)
        replace tot := tot.trans st3.pure
        refine WP.still 1 (by kernel_rfl) ?_
        refine WP.done (by kernel_rfl) ?_
        refine NX.then_n ?_
        refine CP.cond (b := q3) (by kernel_rfl) (fun h4 => ?_) (fun h4 => ?_)
        · replace hs := of_if_t hs h4
          refine CP.seqR ?_
          refine WP.still 1 (by kernel_rfl) ?_
          refine WP.done (by kernel_rfl) ?_
          refine NX.then_n ?_
          refine CP.ret ?_
          refine NX.block_r ?_
          refine NX.then_r ?_
          replace hs := Option.some.inj hs
          obtain rfl := hs
          exact NX.fin (v := .int .i64 2) (Res.still (by kernel_rfl)) tot htL rfl
        · replace hs := of_if_f hs h4
          refine CP.skip ?_
          refine NX.block_n ?_
          refine NX.then_n ?_
          refine CP.seq ?_
          refine CP.seqR ?_
          refine WP.still 1 (by kernel_rfl) ?_
          replace hs := Option.bind_eq_some_iff.1 hs
          obtain ⟨⟨x3, x4⟩, hk4, hs⟩ := hs
          dsimp only at hs
          have hcal4 := P.coin_Sum g3 l1 a1 n1 c1 hR1 x3 x4 hk4
          refine WP.callC hcal4 (by kernel_rfl) ?_
          rintro _ g4 st4 rfl
          replace hR1 := hR1.mono st4 (fun x => x)
          replace tot := tot.trans st4.pure
          refine WP.still 5 (by kernel_rfl) ?_
          refine WP.done (by kernel_rfl) ?_
          refine NX.then_n ?_
          refine CP.cut (fun tm g => ∃ (q4 : Bool), Fr 37 [(36, .bool q4)] tm ∧ Step (fun l => NoM l ∨ t ≤ l) g0 g ∧ (F.close_Adds.c1 q4) = some o1) ?_ ?_
          · refine CP.region ?_
            refine WP.still 3 (by kernel_rfl) ?_
            refine WP.guard 32 (b := (x4 != 0)) (by kernel_rfl) (fun h7 => ?_) (fun h7 => ?_)
            · replace hs := of_if_t hs h7
              refine WP.still 4 (by kernel_rfl) ?_
              refine WP.done (by kernel_rfl) ?_
              refine NX.post ?_
              exact ⟨true, ⟨by kernel_rfl, by kernel_rfl⟩, tot, hs⟩
            · replace hs := of_if_f hs h7
              refine WP.still 4 (by kernel_rfl) ?_
              refine WP.done (by kernel_rfl) ?_
              refine NX.post ?_
              exact ⟨(x3 != x1), ⟨by kernel_rfl, by kernel_rfl⟩, tot, hs⟩
          · clear tot hs
            rintro tm g ⟨q4, hF, tot, hs⟩
            clear ds
            obtain ⟨ds, rfl⟩ := hF.open
            clear hF
            unfold F.close_Adds.c1 at hs
            refine CP.cond (b := q4) (by kernel_rfl) (fun h6 => ?_) (fun h6 => ?_)
            · replace hs := of_if_t hs h6
              refine CP.seqR ?_
              refine WP.still 1 (by kernel_rfl) ?_
              refine WP.done (by kernel_rfl) ?_
              refine NX.then_n ?_
              refine CP.ret ?_
              refine NX.then_r ?_
              replace hs := Option.some.inj hs
              obtain rfl := hs
              exact NX.fin (v := .int .i64 22) (Res.still (by kernel_rfl)) tot htL rfl
            · replace hs := of_if_f hs h6
              refine CP.skip ?_
              refine NX.then_n ?_
              refine CP.seqR ?_
              refine WP.still 1 (by kernel_rfl) ?_
              refine WP.done (by kernel_rfl) ?_
              refine NX.then_n ?_
              refine CP.ret ?_
              replace hs := Option.some.inj hs
              obtain rfl := hs
              exact NX.fin (v := .int .i64 0) (Res.still (by kernel_rfl)) tot htL rfl
def F.baizeref03_Alike.l1 (l1 : List Int) (l2 : List Int) : Nat → Int → Option (Bool)
  | 0, _ => none
  | k + 1, x1 => (if decide (x1 < (l1.length : Int)) = true then (if 0 ≤ x1 ∧ x1 < (l1.length : Int) then (if 0 ≤ x1 ∧ x1 < (l2.length : Int) then (if ((getI l1 x1) != (getI l2 x1)) = true then (some false) else (F.baizeref03_Alike.l1 l1 l2 k (IntKind.i64.wrap (x1 + 1)))) else none) else none) else (some true))
def F.baizeref03_Alike (l1 : List Int) (l2 : List Int) : Option (Bool) := (if ((l1.length : Int) != (l2.length : Int)) = true then (some false) else (F.baizeref03_Alike.l1 l1 l2 fuel 0))
theorem P.baizeref03_Alike (g0 : GW) (l1 : List Int) (l2 : List Int) (a1 : Option Addr) (n1 : Nat) (c1 : Nat) (a2 : Option Addr) (n2 : Nat) (c2 : Nat) (hR1 : RdS (Kd.int .i64) g0 3 a1 n1 c1 l1) (hR2 : RdS (Kd.int .i64) g0 3 a2 n2 c2 l2) (o1 : Bool) (hs : F.baizeref03_Alike l1 l2 = some o1) :
    Calls Try.prog 14 #[.slice a1 n1 c1, .slice a2 n2 c2] g0.w (Ret NoM g0 fun v g => v = .bool o1) := by
  refine calls_of (args := [.slice a1 n1 c1, .slice a2 n2 c2]) Try.func14 rfl (0) ?_
  intro t ht htL
  refine ⟨_, rfl, ?_⟩
  refine CP.refr 26 [(0, .slice a1 n1 c1), (1, .slice a2 n2 c2)] (by kernel_rfl) (by kernel_rfl) ?_
  intro ds
  have tot : Step (fun l => NoM l ∨ t ≤ l) g0 g0 := Step.refl _ _
  unfold F.baizeref03_Alike at hs
  refine CP.seqR ?_
  refine WP.still 1 (by kernel_rfl) ?_
  refine WP.done (by kernel_rfl) ?_
  refine NX.then_n ?_
  refine CP.seq ?_
  refine CP.seqR ?_
  refine WP.still 1 (by kernel_rfl) ?_
  refine WP.len (a := a1) (cp := c1) hR1.len (by kernel_rfl) ?_
  refine WP.still 1 (by kernel_rfl) ?_
  refine WP.len (a := a2) (cp := c2) hR2.len (by kernel_rfl) ?_
  refine WP.still 1 (by kernel_rfl) ?_
  refine WP.done (by kernel_rfl) ?_
  refine NX.then_n ?_
  refine CP.cond (b := ((l1.length : Int) != (l2.length : Int))) (by kernel_rfl) (fun h1 => ?_) (fun h1 => ?_)
  · replace hs := of_if_t hs h1
    refine CP.seqR ?_
    refine WP.still 1 (by kernel_rfl) ?_
    refine WP.done (by kernel_rfl) ?_
    refine NX.then_n ?_
    refine CP.ret ?_
    refine NX.then_r ?_
    replace hs := Option.some.inj hs
    obtain rfl := hs
    exact NX.fin (v := .bool false) (Res.still (by kernel_rfl)) tot htL rfl
  · replace hs := of_if_f hs h1
    refine CP.skip ?_
    refine NX.then_n ?_
    refine CP.seq ?_
    refine CP.seqR ?_
    refine WP.still 1 (by kernel_rfl) ?_
    refine WP.done (by kernel_rfl) ?_
    refine NX.then_n ?_
    refine CP.block ?_
    generalize fuel = k1 at hs
    refine CP.loop (fun k1 tm g => ∃ (x1 : Int), Fr 26 [(0, .slice a1 n1 c1), (1, .slice a2 n2 c2), (5, .int .i64 x1)] tm ∧ Step (fun l => NoM l ∨ t ≤ l) g0 g ∧ RdS (Kd.int .i64) g 3 a1 n1 c1 l1 ∧ RdS (Kd.int .i64) g 3 a2 n2 c2 l2 ∧ F.baizeref03_Alike.l1 l1 l2 k1 x1 = some o1) k1 ?_ ?_ ?_
    · exact ⟨0, ⟨by kernel_rfl, by kernel_rfl⟩, tot, hR1, hR2, hs⟩
    · rintro tm g ⟨x1, hF, tot, hR1, hR2, hs⟩
      exact absurd hs (by simp [F.baizeref03_Alike.l1])
    clear tot hs hR1 hR2
    rintro k1 tm g ⟨x1, hF, tot, hR1, hR2, hs⟩
    clear ds
    obtain ⟨ds, rfl⟩ := hF.open
    clear hF
    unfold F.baizeref03_Alike.l1 at hs
    refine CP.seq ?_
    refine CP.seqR ?_
    refine WP.still 2 (by kernel_rfl) ?_
    refine WP.len (a := a1) (cp := c1) hR1.len (by kernel_rfl) ?_
    refine WP.still 1 (by kernel_rfl) ?_
    refine WP.done (by kernel_rfl) ?_
    refine NX.then_n ?_
    refine CP.cond (b := decide (x1 < (l1.length : Int))) (by kernel_rfl) (fun h6 => ?_) (fun h6 => ?_)
    · replace hs := of_if_t hs h6
      refine CP.skip ?_
      refine NX.then_n ?_
      refine CP.seq ?_
      refine CP.block ?_
      refine CP.seq ?_
      by_cases hc5 : 0 ≤ x1 ∧ x1 < (l1.length : Int)
      case neg => rw [if_neg hc5] at hs; cases hs
      replace hs := of_if_p hs hc5
      by_cases hc6 : 0 ≤ x1 ∧ x1 < (l2.length : Int)
      case neg => rw [if_neg hc6] at hs; cases hs
      replace hs := of_if_p hs hc6
      obtain ⟨b5, u5, ha5⟩ := hR1.at hc5
      obtain ⟨b6, u6, ha6⟩ := hR2.at hc6
      refine CP.drawL (by kernel_rfl) [2, 3, 6, 7] [[], [], [0, 1], [0, 1, 2], [], [], [4, 5], [4, 5, 6], [0, 1, 2, 3, 4, 5, 6, 7]] [⟨none, [], [], fun l g => RdS (Kd.int .i64) g 3 a1 n1 c1 l1⟩, ⟨none, [], [], fun l g => RdS (Kd.int .i64) g 3 a2 n2 c2 l2⟩, ⟨some 0, [], [0], fun l g => l.getD 0 undef = .pointer (some ⟨b5, u5 + x1.toNat * 1, none⟩)⟩, ⟨some 1, [], [1], fun l g => l.getD 0 undef = .int .i64 (getI l1 x1)⟩, ⟨some 2, [], [2], fun l g => l.getD 0 undef = .pointer (some ⟨b6, u6 + x1.toNat * 1, none⟩)⟩, ⟨some 3, [], [3], fun l g => l.getD 0 undef = .int .i64 (getI l2 x1)⟩] [[], [], [], []] [] [0, 1, 4, 5] [8] (by kernel_rfl) (by simp) (by simp) ⟨fun _ _ _ _ st h0 hl hj hR1 => (RdS.mono (e := 3) hR1 st h0), fun _ _ _ _ st h0 hl hj hR2 => (RdS.mono (e := 3) hR2 st h0), fun _ _ _ _ st h0 hl hj e => e, fun _ _ _ _ st h0 hl hj e => e, fun _ _ _ _ st h0 hl hj e => e, fun _ _ _ _ st h0 hl hj e => e, trivial⟩ ⟨hR1, hR2, trivial, trivial, trivial, trivial, trivial⟩ (by kernel_rfl) (fun vs => by kernel_rfl) ?_ ?_ ?_
      · intro j hj
        have hq : j = 0 := by have h : j < 1 := hj; omega
        rcases hq with rfl
        · intro vs g1 st1 hl hf
          replace hl : vs.length = 4 := hl
          obtain ⟨v0, vs0, rfl, hl0⟩ := len_succ hl
          obtain ⟨v1, vs1, rfl, hl1⟩ := len_succ hl0
          obtain ⟨v2, vs2, rfl, hl2⟩ := len_succ hl1
          obtain ⟨v3, vs3, rfl, hl3⟩ := len_succ hl2
          obtain rfl := len_zero hl3
          have e := (show v1 = .int .i64 (getI l1 x1) from hf _ (List.mem_of_getElem? (i := 3) rfl) (by kernel_rfl))
          subst e
          have e := (show v3 = .int .i64 (getI l2 x1) from hf _ (List.mem_of_getElem? (i := 5) rfl) (by kernel_rfl))
          subst e
          show Option.isSome _ = true
          kernel_rfl
      · intro j hj
        have hq : j = 0 ∨ j = 1 ∨ j = 2 ∨ j = 3 := by have h : j < 4 := hj; omega
        rcases hq with rfl | rfl | rfl | rfl
        · intro vs g1 st1 hl hf
          replace hl : vs.length = 4 := hl
          obtain ⟨v0, vs0, rfl, hl0⟩ := len_succ hl
          obtain ⟨v1, vs1, rfl, hl1⟩ := len_succ hl0
          obtain ⟨v2, vs2, rfl, hl2⟩ := len_succ hl1
          obtain ⟨v3, vs3, rfl, hl3⟩ := len_succ hl2
          obtain rfl := len_zero hl3
          have hR1 := (show RdS (Kd.int .i64) g1 3 a1 n1 c1 l1 from hf _ (List.mem_of_getElem? (i := 0) rfl) (by kernel_rfl))
          refine WP.indexA (t := 22) (e := 3) (sz := 1) (cap := c1) (k := .i64) (i := x1) hR1.len ha5 (by kernel_rfl) (by kernel_rfl) hc5 ?_
          refine WP.done (by kernel_rfl) (Shown.ok (v := .pointer (some ⟨b5, u5 + x1.toNat * 1, none⟩)) (by kernel_rfl) (Step.refl _ _) ?_)
          exact ⟨trivial, trivial, rfl, trivial, trivial, trivial, trivial⟩
        · intro vs g1 st1 hl hf
          replace hl : vs.length = 4 := hl
          obtain ⟨v0, vs0, rfl, hl0⟩ := len_succ hl
          obtain ⟨v1, vs1, rfl, hl1⟩ := len_succ hl0
          obtain ⟨v2, vs2, rfl, hl2⟩ := len_succ hl1
          obtain ⟨v3, vs3, rfl, hl3⟩ := len_succ hl2
          obtain rfl := len_zero hl3
          have hR1 := (show RdS (Kd.int .i64) g1 3 a1 n1 c1 l1 from hf _ (List.mem_of_getElem? (i := 0) rfl) (by kernel_rfl))
          have e := (show v0 = .pointer (some ⟨b5, u5 + x1.toNat * 1, none⟩) from hf _ (List.mem_of_getElem? (i := 2) rfl) (by kernel_rfl))
          subst e
          obtain ⟨cs5, hcR5, hcV5⟩ := hR1.src.view (getI_some hc5) ha5
          replace hcR5 := Kd.o_int hcR5
          refine WP.loadV [[.int .i64 (getI l1 x1)]] [1] hcV5 hcR5 rfl (f := 0) (ty := 3) (agg := false) (size := 1) (rs := [[.int .i64 (getI l1 x1)]]) (v := .int .i64 (getI l1 x1)) (by kernel_rfl) (by kernel_rfl) (by kernel_rfl) (by kernel_rfl) ?_
          refine WP.done (by kernel_rfl) (Shown.ok (v := .int .i64 (getI l1 x1)) (by kernel_rfl) (Step.refl _ _) ?_)
          exact ⟨trivial, trivial, trivial, rfl, trivial, trivial, trivial⟩
        · intro vs g1 st1 hl hf
          replace hl : vs.length = 4 := hl
          obtain ⟨v0, vs0, rfl, hl0⟩ := len_succ hl
          obtain ⟨v1, vs1, rfl, hl1⟩ := len_succ hl0
          obtain ⟨v2, vs2, rfl, hl2⟩ := len_succ hl1
          obtain ⟨v3, vs3, rfl, hl3⟩ := len_succ hl2
          obtain rfl := len_zero hl3
          have hR2 := (show RdS (Kd.int .i64) g1 3 a2 n2 c2 l2 from hf _ (List.mem_of_getElem? (i := 1) rfl) (by kernel_rfl))
          refine WP.indexA (t := 22) (e := 3) (sz := 1) (cap := c2) (k := .i64) (i := x1) hR2.len ha6 (by kernel_rfl) (by kernel_rfl) hc6 ?_
          refine WP.done (by kernel_rfl) (Shown.ok (v := .pointer (some ⟨b6, u6 + x1.toNat * 1, none⟩)) (by kernel_rfl) (Step.refl _ _) ?_)
          exact ⟨trivial, trivial, trivial, trivial, rfl, trivial, trivial⟩
        · intro vs g1 st1 hl hf
          replace hl : vs.length = 4 := hl
          obtain ⟨v0, vs0, rfl, hl0⟩ := len_succ hl
          obtain ⟨v1, vs1, rfl, hl1⟩ := len_succ hl0
          obtain ⟨v2, vs2, rfl, hl2⟩ := len_succ hl1
          obtain ⟨v3, vs3, rfl, hl3⟩ := len_succ hl2
          obtain rfl := len_zero hl3
          have hR2 := (show RdS (Kd.int .i64) g1 3 a2 n2 c2 l2 from hf _ (List.mem_of_getElem? (i := 1) rfl) (by kernel_rfl))
          have e := (show v2 = .pointer (some ⟨b6, u6 + x1.toNat * 1, none⟩) from hf _ (List.mem_of_getElem? (i := 4) rfl) (by kernel_rfl))
          subst e
          obtain ⟨cs6, hcR6, hcV6⟩ := hR2.src.view (getI_some hc6) ha6
          replace hcR6 := Kd.o_int hcR6
          refine WP.loadV [[.int .i64 (getI l2 x1)]] [1] hcV6 hcR6 rfl (f := 0) (ty := 3) (agg := false) (size := 1) (rs := [[.int .i64 (getI l2 x1)]]) (v := .int .i64 (getI l2 x1)) (by kernel_rfl) (by kernel_rfl) (by kernel_rfl) (by kernel_rfl) ?_
          refine WP.done (by kernel_rfl) (Shown.ok (v := .int .i64 (getI l2 x1)) (by kernel_rfl) (Step.refl _ _) ?_)
          exact ⟨trivial, trivial, trivial, trivial, trivial, rfl, trivial⟩
      · intro vs g1 st1 hl hf
        replace hl : vs.length = 4 := hl
        obtain ⟨v0, vs0, rfl, hl0⟩ := len_succ hl
        obtain ⟨v1, vs1, rfl, hl1⟩ := len_succ hl0
        obtain ⟨v2, vs2, rfl, hl2⟩ := len_succ hl1
        obtain ⟨v3, vs3, rfl, hl3⟩ := len_succ hl2
        obtain rfl := len_zero hl3
        have e := (show v1 = .int .i64 (getI l1 x1) from hf _ (List.mem_of_getElem? (i := 3) rfl) (by kernel_rfl))
        subst e
        have e := (show v3 = .int .i64 (getI l2 x1) from hf _ (List.mem_of_getElem? (i := 5) rfl) (by kernel_rfl))
        subst e
        replace hR1 := hR1.mono st1.toNo (fun x => x)
        replace hR2 := hR2.mono st1.toNo (fun x => x)
        replace tot := tot.trans st1.toNo.pure
        refine NX.then_n ?_
        refine CP.refr 26 [(0, .slice a1 n1 c1), (1, .slice a2 n2 c2), (5, .int .i64 x1), (25, .bool ((getI l1 x1) != (getI l2 x1)))] (by kernel_rfl) (by kernel_rfl) ?_
        clear ds
        intro ds
        refine CP.cond (b := ((getI l1 x1) != (getI l2 x1))) (by kernel_rfl) (fun h7 => ?_) (fun h7 => ?_)
        · replace hs := of_if_t hs h7
          refine CP.seqR ?_
          refine WP.still 1 (by kernel_rfl) ?_
          refine WP.done (by kernel_rfl) ?_
          refine NX.then_n ?_
          refine CP.ret ?_
          refine NX.block_r ?_
          refine NX.then_r ?_
          refine NX.then_r ?_
          refine NX.block_r ?_
          refine NX.then_r ?_
          replace hs := Option.some.inj hs
          obtain rfl := hs
          exact NX.fin (v := .bool false) (Res.still (by kernel_rfl)) tot htL rfl
        · replace hs := of_if_f hs h7
          refine CP.skip ?_
          refine NX.block_n ?_
          refine NX.then_n ?_
          refine CP.region ?_
          refine WP.still 3 (by kernel_rfl) ?_
          refine WP.done (by kernel_rfl) ?_
          refine NX.post ?_
          exact ⟨(IntKind.i64.wrap (x1 + 1)), ⟨by kernel_rfl, by kernel_rfl⟩, tot, hR1, hR2, hs⟩
    · replace hs := of_if_f hs h6
      refine CP.exit ?_
      refine NX.then_e ?_
      refine NX.then_e ?_
      refine NX.block_s ?_
      refine NX.then_n ?_
      refine CP.seqR ?_
      refine WP.still 1 (by kernel_rfl) ?_
      refine WP.done (by kernel_rfl) ?_
      refine NX.then_n ?_
      refine CP.ret ?_
      replace hs := Option.some.inj hs
      obtain rfl := hs
      exact NX.fin (v := .bool true) (Res.still (by kernel_rfl)) tot htL rfl
def F.baizelaw35_told.c1 (q3 : Bool) : Option (Bool) := (some q3)
def F.baizelaw35_told : Option (Bool) := ((F.close_Forfeit ([10, 0, 5]) 0 4 ([false, false, false])).bind fun (l1, x1) => ((F.close_Forfeit ([10, 0, 5]) 0 4 ([false, true, false])).bind fun (l2, x2) => ((F.close_Adds 10 2 ([4, 6])).bind fun x5 => (if (x5 == 0) = true then ((F.close_Adds 10 2 ([4, 5])).bind fun x6 => (if (x6 == 22) = true then (if (x1 == 0) = true then (if (x2 == 0) = true then ((F.baizeref03_Alike l1 ([6, 2, 7])).bind fun q4 => (if q4 = true then ((F.baizeref03_Alike l2 ([6, 0, 9])).bind fun q5 => (F.baizelaw35_told.c1 q5)) else (F.baizelaw35_told.c1 false))) else (F.baizelaw35_told.c1 false)) else (F.baizelaw35_told.c1 false)) else (F.baizelaw35_told.c1 false))) else (F.baizelaw35_told.c1 false)))))
theorem P.baizelaw35_told (g0 : GW) (o1 : Bool) (hs : F.baizelaw35_told = some o1) :
    Calls Try.prog 9 #[] g0.w (Ret NoM g0 fun v g => v = .bool o1) := by
  refine calls_of (args := []) Try.func9 rfl (0) ?_
  intro t ht htL
  refine ⟨_, rfl, ?_⟩
  refine CP.refr 43 [] (by kernel_rfl) (by kernel_rfl) ?_
  intro ds
  have tot : Step (fun l => NoM l ∨ t ≤ l) g0 g0 := Step.refl _ _
  unfold F.baizelaw35_told at hs
  refine CP.seqR ?_
  refine WP.still 1 (by kernel_rfl) ?_
  refine WP.done (by kernel_rfl) ?_
  refine NX.then_n ?_
  refine CP.seqR ?_
  refine WP.mkSl (kd := (Kd.int .i64)) (t := 22) (e := 3) (bytes := 8) (t + 1) [.int .i64 10, .int .i64 0, .int .i64 5] [10, 0, 5] (by kernel_rfl) (by kernel_rfl) (Nat.le_of_ble_eq_true rfl) (Nat.le_of_ble_eq_true rfl) (all_cons rfl (all_cons rfl (all_cons rfl all_nil))) (⟨_, _, rfl, (by exact rfl), ⟨_, _, rfl, (by exact rfl), ⟨_, _, rfl, (by exact rfl), rfl⟩⟩⟩) rfl ?_
  intro g1 a1 st1 hR1
  replace tot := tot.trans st1.pure
  refine WP.mkSl (kd := Kd.bool) (t := 28) (e := 4) (bytes := 1) (t + 2) [.bool false, .bool false, .bool false] [false, false, false] (by kernel_rfl) (by kernel_rfl) (Nat.le_of_ble_eq_true rfl) (Nat.le_of_ble_eq_true rfl) (all_cons rfl (all_cons rfl (all_cons rfl all_nil))) (⟨_, _, rfl, (by exact rfl), ⟨_, _, rfl, (by exact rfl), ⟨_, _, rfl, (by exact rfl), rfl⟩⟩⟩) rfl ?_
  intro g2 a2 st2 hR2
  replace hR1 := hR1.mono st2 (fun x => x) (fun x => x)
  replace tot := tot.trans st2.pure
  replace hs := Option.bind_eq_some_iff.1 hs
  obtain ⟨⟨l1, x1⟩, hk1, hs⟩ := hs
  dsimp only at hs
  obtain ⟨g4, hw1, st4, hnew⟩ := hR1.freeze (by omega)
  refine WP.regw hw1 ?_
  replace hR2 := hR2.mono st4 (WL.no1 (by omega)) (WL.no1 (by omega))
  replace tot := tot.trans (st4.up1 (.inr (by omega)))
  clear hR1
  have hR1 := hnew
  clear hnew
  obtain ⟨g5, hw2, st5, hnew⟩ := hR2.freeze (by omega)
  refine WP.regw hw2 ?_
  replace hR1 := hR1.mono st5 (WL.no1 (by omega))
  replace tot := tot.trans (st5.up1 (.inr (by omega)))
  clear hR2
  have hR2 := hnew
  clear hnew
  have hcal1 := P.close_Forfeit g5 (t + 3) ([10, 0, 5]) 0 4 ([false, false, false]) a1 3 3 a2 3 3 hR1 hR2 l1 x1 hk1
  refine WP.callC hcal1 (by kernel_rfl) ?_
  rintro _ g3 st3 ⟨a3, n1, c1, rfl, hR3⟩
  replace hR1 := hR1.mono st3 (fun x => x)
  replace hR2 := hR2.mono st3 (fun x => x)
  replace tot := tot.trans st3.pure
  refine WP.still 5 (by kernel_rfl) ?_
  refine WP.done (by kernel_rfl) ?_
  refine NX.then_n ?_
  refine CP.seqR ?_
  refine WP.mkSl (kd := (Kd.int .i64)) (t := 22) (e := 3) (bytes := 8) (t + 4) [.int .i64 10, .int .i64 0, .int .i64 5] [10, 0, 5] (by kernel_rfl) (by kernel_rfl) (Nat.le_of_ble_eq_true rfl) (Nat.le_of_ble_eq_true rfl) (all_cons rfl (all_cons rfl (all_cons rfl all_nil))) (⟨_, _, rfl, (by exact rfl), ⟨_, _, rfl, (by exact rfl), ⟨_, _, rfl, (by exact rfl), rfl⟩⟩⟩) rfl ?_
  intro g6 a4 st6 hR4
  replace hR3 := hR3.mono st6 (fun x => x) (fun x => x)
  replace tot := tot.trans st6.pure
  refine WP.mkSl (kd := Kd.bool) (t := 28) (e := 4) (bytes := 1) (t + 5) [.bool false, .bool true, .bool false] [false, true, false] (by kernel_rfl) (by kernel_rfl) (Nat.le_of_ble_eq_true rfl) (Nat.le_of_ble_eq_true rfl) (all_cons rfl (all_cons rfl (all_cons rfl all_nil))) (⟨_, _, rfl, (by exact rfl), ⟨_, _, rfl, (by exact rfl), ⟨_, _, rfl, (by exact rfl), rfl⟩⟩⟩) rfl ?_
  intro g7 a5 st7 hR5
  replace hR3 := hR3.mono st7 (fun x => x) (fun x => x)
  replace hR4 := hR4.mono st7 (fun x => x) (fun x => x)
  replace tot := tot.trans st7.pure
  replace hs := Option.bind_eq_some_iff.1 hs
  obtain ⟨⟨l2, x2⟩, hk2, hs⟩ := hs
  dsimp only at hs
  obtain ⟨g9, hw3, st9, hnew⟩ := hR4.freeze (by omega)
  refine WP.regw hw3 ?_
  replace hR3 := hR3.mono st9 (WL.no1 (by omega)) (WL.no1 (by omega))
  replace hR5 := hR5.mono st9 (WL.no1 (by omega)) (WL.no1 (by omega))
  replace tot := tot.trans (st9.up1 (.inr (by omega)))
  clear hR4
  have hR4 := hnew
  clear hnew
  obtain ⟨g10, hw4, st10, hnew⟩ := hR5.freeze (by omega)
  refine WP.regw hw4 ?_
  replace hR3 := hR3.mono st10 (WL.no1 (by omega)) (WL.no1 (by omega))
  replace hR4 := hR4.mono st10 (WL.no1 (by omega))
  replace tot := tot.trans (st10.up1 (.inr (by omega)))
  clear hR5
  have hR5 := hnew
  clear hnew
  have hcal2 := P.close_Forfeit g10 (t + 6) ([10, 0, 5]) 0 4 ([false, true, false]) a4 3 3 a5 3 3 hR4 hR5 l2 x2 hk2
  refine WP.callC hcal2 (by kernel_rfl) ?_
  rintro _ g8 st8 ⟨a6, n2, c2, rfl, hR6⟩
  replace hR3 := hR3.mono st8 (fun x => x) (fun x => x)
  replace hR4 := hR4.mono st8 (fun x => x)
  replace hR5 := hR5.mono st8 (fun x => x)
  replace tot := tot.trans st8.pure
  refine WP.still 5 (by kernel_rfl) ?_
  refine WP.done (by kernel_rfl) ?_
  refine NX.then_n ?_
  refine CP.refr 43 [(1, .slice a3 n1 c1), (2, .int .i64 x1), (3, .slice a6 n2 c2), (4, .int .i64 x2)] (by kernel_rfl) (by kernel_rfl) ?_
  clear ds
  intro ds
  refine CP.cut (fun tm g => ∃ (q3 : Bool), Fr 43 [(0, .bool q3)] tm ∧ Step (fun l => NoM l ∨ t ≤ l) g0 g ∧ (F.baizelaw35_told.c1 q3) = some o1) ?_ ?_
  · refine CP.region ?_
    refine WP.mkSl (kd := (Kd.int .i64)) (t := 22) (e := 3) (bytes := 8) (t + 11) [.int .i64 4, .int .i64 6] [4, 6] (by kernel_rfl) (by kernel_rfl) (Nat.le_of_ble_eq_true rfl) (Nat.le_of_ble_eq_true rfl) (all_cons rfl (all_cons rfl all_nil)) (⟨_, _, rfl, (by exact rfl), ⟨_, _, rfl, (by exact rfl), rfl⟩⟩) rfl ?_
    intro g25 a11 st25 hR11
    replace hR3 := hR3.mono st25 (fun x => x) (fun x => x)
    replace hR6 := hR6.mono st25 (fun x => x) (fun x => x)
    replace tot := tot.trans st25.pure
    replace hs := Option.bind_eq_some_iff.1 hs
    obtain ⟨x5, hk7, hs⟩ := hs
    obtain ⟨g27, hw11, st27, hnew⟩ := hR11.freeze (by omega)
    refine WP.regw hw11 ?_
    replace hR3 := hR3.mono st27 (WL.no1 (by omega)) (WL.no1 (by omega))
    replace hR6 := hR6.mono st27 (WL.no1 (by omega)) (WL.no1 (by omega))
    replace tot := tot.trans (st27.up1 (.inr (by omega)))
    clear hR11
    have hR11 := hnew
    clear hnew
    have hcal7 := P.close_Adds g27 10 2 ([4, 6]) a11 2 2 hR11 x5 hk7
    refine WP.callC hcal7 (by kernel_rfl) ?_
    rintro _ g26 st26 rfl
    replace hR3 := hR3.mono st26 (fun x => x) (fun x => x)
    replace hR6 := hR6.mono st26 (fun x => x) (fun x => x)
    replace hR11 := hR11.mono st26 (fun x => x)
    replace tot := tot.trans st26.pure
    refine WP.still 2 (by kernel_rfl) ?_
    refine WP.guard 20 (b := (x5 == 0)) (by kernel_rfl) (fun h6 => ?_) (fun h6 => ?_)
    · replace hs := of_if_t hs h6
      refine WP.mkSl (kd := (Kd.int .i64)) (t := 22) (e := 3) (bytes := 8) (t + 12) [.int .i64 4, .int .i64 5] [4, 5] (by kernel_rfl) (by kernel_rfl) (Nat.le_of_ble_eq_true rfl) (Nat.le_of_ble_eq_true rfl) (all_cons rfl (all_cons rfl all_nil)) (⟨_, _, rfl, (by exact rfl), ⟨_, _, rfl, (by exact rfl), rfl⟩⟩) rfl ?_
      intro g28 a12 st28 hR12
      replace hR3 := hR3.mono st28 (fun x => x) (fun x => x)
      replace hR6 := hR6.mono st28 (fun x => x) (fun x => x)
      replace hR11 := hR11.mono st28 (fun x => x)
      replace tot := tot.trans st28.pure
      replace hs := Option.bind_eq_some_iff.1 hs
      obtain ⟨x6, hk8, hs⟩ := hs
      obtain ⟨g30, hw12, st30, hnew⟩ := hR12.freeze (by omega)
      refine WP.regw hw12 ?_
      replace hR3 := hR3.mono st30 (WL.no1 (by omega)) (WL.no1 (by omega))
      replace hR6 := hR6.mono st30 (WL.no1 (by omega)) (WL.no1 (by omega))
      replace hR11 := hR11.mono st30 (WL.no1 (by omega))
      replace tot := tot.trans (st30.up1 (.inr (by omega)))
      clear hR12
      have hR12 := hnew
      clear hnew
      have hcal8 := P.close_Adds g30 10 2 ([4, 5]) a12 2 2 hR12 x6 hk8
      refine WP.callC hcal8 (by kernel_rfl) ?_
      rintro _ g29 st29 rfl
      replace hR3 := hR3.mono st29 (fun x => x) (fun x => x)
      replace hR6 := hR6.mono st29 (fun x => x) (fun x => x)
      replace hR11 := hR11.mono st29 (fun x => x)
      replace hR12 := hR12.mono st29 (fun x => x)
      replace tot := tot.trans st29.pure
      refine WP.still 3 (by kernel_rfl) ?_
      refine WP.guard 25 (b := (x6 == 22)) (by kernel_rfl) (fun h7 => ?_) (fun h7 => ?_)
      · replace hs := of_if_t hs h7
        refine WP.still 4 (by kernel_rfl) ?_
        refine WP.guard 29 (b := (x1 == 0)) (by kernel_rfl) (fun h8 => ?_) (fun h8 => ?_)
        · replace hs := of_if_t hs h8
          refine WP.still 4 (by kernel_rfl) ?_
          refine WP.guard 33 (b := (x2 == 0)) (by kernel_rfl) (fun h9 => ?_) (fun h9 => ?_)
          · replace hs := of_if_t hs h9
            refine WP.still 1 (by kernel_rfl) ?_
            refine WP.mkSl (kd := (Kd.int .i64)) (t := 22) (e := 3) (bytes := 8) (t + 13) [.int .i64 6, .int .i64 2, .int .i64 7] [6, 2, 7] (by kernel_rfl) (by kernel_rfl) (Nat.le_of_ble_eq_true rfl) (Nat.le_of_ble_eq_true rfl) (all_cons rfl (all_cons rfl (all_cons rfl all_nil))) (⟨_, _, rfl, (by exact rfl), ⟨_, _, rfl, (by exact rfl), ⟨_, _, rfl, (by exact rfl), rfl⟩⟩⟩) rfl ?_
            intro g31 a13 st31 hR13
            replace hR3 := hR3.mono st31 (fun x => x) (fun x => x)
            replace hR6 := hR6.mono st31 (fun x => x) (fun x => x)
            replace hR11 := hR11.mono st31 (fun x => x)
            replace hR12 := hR12.mono st31 (fun x => x)
            replace tot := tot.trans st31.pure
            replace hs := Option.bind_eq_some_iff.1 hs
            obtain ⟨q4, hk9, hs⟩ := hs
            obtain ⟨g33, hw13, st33, hnew⟩ := hR3.freeze (by omega)
            refine WP.regw hw13 ?_
            replace hR6 := hR6.mono st33 (WL.no1 (by omega)) (WL.no1 (by omega))
            replace hR11 := hR11.mono st33 (WL.no1 (by omega))
            replace hR12 := hR12.mono st33 (WL.no1 (by omega))
            replace hR13 := hR13.mono st33 (WL.no1 (by omega)) (WL.no1 (by omega))
            replace tot := tot.trans (st33.up1 (.inr (by omega)))
            clear hR3
            have hR3 := hnew
            clear hnew
            obtain ⟨g34, hw14, st34, hnew⟩ := hR13.freeze (by omega)
            refine WP.regw hw14 ?_
            replace hR3 := hR3.mono st34 (WL.no1 (by omega))
            replace hR6 := hR6.mono st34 (WL.no1 (by omega)) (WL.no1 (by omega))
            replace hR11 := hR11.mono st34 (WL.no1 (by omega))
            replace hR12 := hR12.mono st34 (WL.no1 (by omega))
            replace tot := tot.trans (st34.up1 (.inr (by omega)))
            clear hR13
            have hR13 := hnew
            clear hnew
            have hcal9 := P.baizeref03_Alike g34 l1 ([6, 2, 7]) a3 n1 c1 a13 3 3 hR3 hR13 q4 hk9
            refine WP.callC hcal9 (by kernel_rfl) ?_
            rintro _ g32 st32 rfl
            replace hR3 := hR3.mono st32 (fun x => x)
            replace hR6 := hR6.mono st32 (fun x => x) (fun x => x)
            replace hR11 := hR11.mono st32 (fun x => x)
            replace hR12 := hR12.mono st32 (fun x => x)
            replace hR13 := hR13.mono st32 (fun x => x)
            replace tot := tot.trans st32.pure
            refine WP.still 2 (by kernel_rfl) ?_
            refine WP.guard 38 (b := q4) (by kernel_rfl) (fun h10 => ?_) (fun h10 => ?_)
            · replace hs := of_if_t hs h10
              refine WP.still 1 (by kernel_rfl) ?_
              refine WP.mkSl (kd := (Kd.int .i64)) (t := 22) (e := 3) (bytes := 8) (t + 14) [.int .i64 6, .int .i64 0, .int .i64 9] [6, 0, 9] (by kernel_rfl) (by kernel_rfl) (Nat.le_of_ble_eq_true rfl) (Nat.le_of_ble_eq_true rfl) (all_cons rfl (all_cons rfl (all_cons rfl all_nil))) (⟨_, _, rfl, (by exact rfl), ⟨_, _, rfl, (by exact rfl), ⟨_, _, rfl, (by exact rfl), rfl⟩⟩⟩) rfl ?_
              intro g35 a14 st35 hR14
              replace hR3 := hR3.mono st35 (fun x => x)
              replace hR6 := hR6.mono st35 (fun x => x) (fun x => x)
              replace hR11 := hR11.mono st35 (fun x => x)
              replace hR12 := hR12.mono st35 (fun x => x)
              replace hR13 := hR13.mono st35 (fun x => x)
              replace tot := tot.trans st35.pure
              replace hs := Option.bind_eq_some_iff.1 hs
              obtain ⟨q5, hk10, hs⟩ := hs
              obtain ⟨g37, hw15, st37, hnew⟩ := hR6.freeze (by omega)
              refine WP.regw hw15 ?_
              replace hR3 := hR3.mono st37 (WL.no1 (by omega))
              replace hR11 := hR11.mono st37 (WL.no1 (by omega))
              replace hR12 := hR12.mono st37 (WL.no1 (by omega))
              replace hR13 := hR13.mono st37 (WL.no1 (by omega))
              replace hR14 := hR14.mono st37 (WL.no1 (by omega)) (WL.no1 (by omega))
              replace tot := tot.trans (st37.up1 (.inr (by omega)))
              clear hR6
              have hR6 := hnew
              clear hnew
              obtain ⟨g38, hw16, st38, hnew⟩ := hR14.freeze (by omega)
              refine WP.regw hw16 ?_
              replace hR3 := hR3.mono st38 (WL.no1 (by omega))
              replace hR6 := hR6.mono st38 (WL.no1 (by omega))
              replace hR11 := hR11.mono st38 (WL.no1 (by omega))
              replace hR12 := hR12.mono st38 (WL.no1 (by omega))
              replace hR13 := hR13.mono st38 (WL.no1 (by omega))
              replace tot := tot.trans (st38.up1 (.inr (by omega)))
              clear hR14
              have hR14 := hnew
              clear hnew
              have hcal10 := P.baizeref03_Alike g38 l2 ([6, 0, 9]) a6 n2 c2 a14 3 3 hR6 hR14 q5 hk10
              refine WP.callC hcal10 (by kernel_rfl) ?_
              rintro _ g36 st36 rfl
              replace hR3 := hR3.mono st36 (fun x => x)
              replace hR6 := hR6.mono st36 (fun x => x)
              replace hR11 := hR11.mono st36 (fun x => x)
              replace hR12 := hR12.mono st36 (fun x => x)
              replace hR13 := hR13.mono st36 (fun x => x)
              replace hR14 := hR14.mono st36 (fun x => x)
              replace tot := tot.trans st36.pure
              refine WP.still 2 (by kernel_rfl) ?_
              refine WP.done (by kernel_rfl) ?_
              refine NX.post ?_
              exact ⟨q5, ⟨by kernel_rfl, by kernel_rfl⟩, tot, hs⟩
            · replace hs := of_if_f hs h10
              refine WP.still 5 (by kernel_rfl) ?_
              refine WP.done (by kernel_rfl) ?_
              refine NX.post ?_
              exact ⟨false, ⟨by kernel_rfl, by kernel_rfl⟩, tot, hs⟩
          · replace hs := of_if_f hs h9
            refine WP.still 10 (by kernel_rfl) ?_
            refine WP.done (by kernel_rfl) ?_
            refine NX.post ?_
            exact ⟨false, ⟨by kernel_rfl, by kernel_rfl⟩, tot, hs⟩
        · replace hs := of_if_f hs h8
          refine WP.still 14 (by kernel_rfl) ?_
          refine WP.done (by kernel_rfl) ?_
          refine NX.post ?_
          exact ⟨false, ⟨by kernel_rfl, by kernel_rfl⟩, tot, hs⟩
      · replace hs := of_if_f hs h7
        refine WP.still 18 (by kernel_rfl) ?_
        refine WP.done (by kernel_rfl) ?_
        refine NX.post ?_
        exact ⟨false, ⟨by kernel_rfl, by kernel_rfl⟩, tot, hs⟩
    · replace hs := of_if_f hs h6
      refine WP.still 23 (by kernel_rfl) ?_
      refine WP.done (by kernel_rfl) ?_
      refine NX.post ?_
      exact ⟨false, ⟨by kernel_rfl, by kernel_rfl⟩, tot, hs⟩
  · clear tot hs hR3 hR6
    rintro tm g ⟨q3, hF, tot, hs⟩
    clear ds
    obtain ⟨ds, rfl⟩ := hF.open
    clear hF
    unfold F.baizelaw35_told.c1 at hs
    refine CP.ret ?_
    replace hs := Option.some.inj hs
    obtain rfl := hs
    exact NX.fin (v := .bool q3) (Res.still (by kernel_rfl)) tot htL rfl
def F.baizeref03_Right.c1 (q1 : Bool) : Option (Bool) := (some q1)
def F.baizeref03_Right (x1 : Int) : Option (Bool) := (if decide (x1 ≥ 0) = true then (F.baizeref03_Right.c1 (decide (x1 ≤ 1125899906842624))) else (F.baizeref03_Right.c1 false))
theorem P.baizeref03_Right (g0 : GW) (x1 : Int) (o1 : Bool) (hs : F.baizeref03_Right x1 = some o1) :
    Calls Try.prog 25 #[.int .i64 x1] g0.w (Ret NoM g0 fun v g => v = .bool o1) := by
  refine calls_of (args := [.int .i64 x1]) Try.func25 rfl (0) ?_
  intro t ht htL
  refine ⟨_, rfl, ?_⟩
  refine CP.refr 9 [(0, .int .i64 x1)] (by kernel_rfl) (by kernel_rfl) ?_
  intro ds
  have tot : Step (fun l => NoM l ∨ t ≤ l) g0 g0 := Step.refl _ _
  unfold F.baizeref03_Right at hs
  refine CP.seqR ?_
  refine WP.still 1 (by kernel_rfl) ?_
  refine WP.done (by kernel_rfl) ?_
  refine NX.then_n ?_
  refine CP.cut (fun tm g => ∃ (q1 : Bool), Fr 9 [(2, .bool q1)] tm ∧ Step (fun l => NoM l ∨ t ≤ l) g0 g ∧ (F.baizeref03_Right.c1 q1) = some o1) ?_ ?_
  · refine CP.region ?_
    refine WP.still 3 (by kernel_rfl) ?_
    refine WP.guard 5 (b := decide (x1 ≥ 0)) (by kernel_rfl) (fun h2 => ?_) (fun h2 => ?_)
    · replace hs := of_if_t hs h2
      refine WP.still 4 (by kernel_rfl) ?_
      refine WP.done (by kernel_rfl) ?_
      refine NX.post ?_
      exact ⟨decide (x1 ≤ 1125899906842624), ⟨by kernel_rfl, by kernel_rfl⟩, tot, hs⟩
    · replace hs := of_if_f hs h2
      refine WP.still 4 (by kernel_rfl) ?_
      refine WP.done (by kernel_rfl) ?_
      refine NX.post ?_
      exact ⟨false, ⟨by kernel_rfl, by kernel_rfl⟩, tot, hs⟩
  · clear tot hs
    rintro tm g ⟨q1, hF, tot, hs⟩
    clear ds
    obtain ⟨ds, rfl⟩ := hF.open
    clear hF
    unfold F.baizeref03_Right.c1 at hs
    refine CP.ret ?_
    replace hs := Option.some.inj hs
    obtain rfl := hs
    exact NX.fin (v := .bool q1) (Res.still (by kernel_rfl)) tot htL rfl
def F.baizeref03_Add.c1 (x1 : Int) (x2 : Int) (q4 : Bool) : Option (Int × Int) := (if q4 = true then (some (0, 2)) else (some ((IntKind.i64.wrap (x1 + x2)), 0)))
def F.baizeref03_Add (x1 : Int) (x2 : Int) : Option (Int × Int) := ((F.baizeref03_Right x1).bind fun q5 => (if (!q5) = true then (F.baizeref03_Add.c1 x1 x2 true) else ((F.baizeref03_Right x2).bind fun q6 => (if (!q6) = true then (F.baizeref03_Add.c1 x1 x2 true) else ((F.baizeref03_Right (IntKind.i64.wrap (x1 + x2))).bind fun q7 => (F.baizeref03_Add.c1 x1 x2 (!q7)))))))
theorem P.baizeref03_Add (g0 : GW) (x1 : Int) (x2 : Int) (o1 : Int) (o2 : Int) (hs : F.baizeref03_Add x1 x2 = some (o1, o2)) :
    Calls Try.prog 30 #[.int .i64 x1, .int .i64 x2] g0.w (Ret NoM g0 fun v g => v = .tuple #[.int .i64 o1, .int .i64 o2]) := by
  refine calls_of (args := [.int .i64 x1, .int .i64 x2]) Try.func30 rfl (0) ?_
  intro t ht htL
  refine ⟨_, rfl, ?_⟩
  refine CP.refr 24 [(0, .int .i64 x1), (1, .int .i64 x2)] (by kernel_rfl) (by kernel_rfl) ?_
  intro ds
  have tot : Step (fun l => NoM l ∨ t ≤ l) g0 g0 := Step.refl _ _
  unfold F.baizeref03_Add at hs
  refine CP.seqR ?_
  refine WP.still 2 (by kernel_rfl) ?_
  refine WP.done (by kernel_rfl) ?_
  refine NX.then_n ?_
  refine CP.seq ?_
  refine CP.cut (fun tm g => ∃ (q4 : Bool), Fr 24 [(0, .int .i64 x1), (1, .int .i64 x2), (20, .bool q4)] tm ∧ Step (fun l => NoM l ∨ t ≤ l) g0 g ∧ (F.baizeref03_Add.c1 x1 x2 q4) = some (o1, o2)) ?_ ?_
  · refine CP.region ?_
    refine WP.still 1 (by kernel_rfl) ?_
    replace hs := Option.bind_eq_some_iff.1 hs
    obtain ⟨q5, hk4, hs⟩ := hs
    have hcal4 := P.baizeref03_Right g0 x1 q5 hk4
    refine WP.callC hcal4 (by kernel_rfl) ?_
    rintro _ g4 st4 rfl
    replace tot := tot.trans st4.pure
    refine WP.still 2 (by kernel_rfl) ?_
    refine WP.guard 9 (b := (!q5)) (by kernel_rfl) (fun h4 => ?_) (fun h4 => ?_)
    · replace hs := of_if_t hs h4
      refine WP.still 11 (by kernel_rfl) ?_
      refine WP.done (by kernel_rfl) ?_
      refine NX.post ?_
      exact ⟨true, ⟨by kernel_rfl, by kernel_rfl⟩, tot, hs⟩
    · replace hs := of_if_f hs h4
      refine WP.still 1 (by kernel_rfl) ?_
      replace hs := Option.bind_eq_some_iff.1 hs
      obtain ⟨q6, hk5, hs⟩ := hs
      have hcal5 := P.baizeref03_Right g4 x2 q6 hk5
      refine WP.callC hcal5 (by kernel_rfl) ?_
      rintro _ g5 st5 rfl
      replace tot := tot.trans st5.pure
      refine WP.still 3 (by kernel_rfl) ?_
      refine WP.guard 14 (b := (!q6)) (by kernel_rfl) (fun h5 => ?_) (fun h5 => ?_)
      · replace hs := of_if_t hs h5
        refine WP.still 6 (by kernel_rfl) ?_
        refine WP.done (by kernel_rfl) ?_
        refine NX.post ?_
        exact ⟨true, ⟨by kernel_rfl, by kernel_rfl⟩, tot, hs⟩
      · replace hs := of_if_f hs h5
        refine WP.still 3 (by kernel_rfl) ?_
        replace hs := Option.bind_eq_some_iff.1 hs
        obtain ⟨q7, hk6, hs⟩ := hs
        have hcal6 := P.baizeref03_Right g5 (IntKind.i64.wrap (x1 + x2)) q7 hk6
        refine WP.callC hcal6 (by kernel_rfl) ?_
        rintro _ g6 st6 rfl
        replace tot := tot.trans st6.pure
        refine WP.still 2 (by kernel_rfl) ?_
        refine WP.done (by kernel_rfl) ?_
        refine NX.post ?_
        exact ⟨(!q7), ⟨by kernel_rfl, by kernel_rfl⟩, tot, hs⟩
  · clear tot hs
    rintro tm g ⟨q4, hF, tot, hs⟩
    clear ds
    obtain ⟨ds, rfl⟩ := hF.open
    clear hF
    unfold F.baizeref03_Add.c1 at hs
    refine CP.cond (b := q4) (by kernel_rfl) (fun h3 => ?_) (fun h3 => ?_)
    · replace hs := of_if_t hs h3
      refine CP.seqR ?_
      refine WP.still 2 (by kernel_rfl) ?_
      refine WP.done (by kernel_rfl) ?_
      refine NX.then_n ?_
      refine CP.ret ?_
      refine NX.then_r ?_
      replace hs := Option.some.inj hs
      obtain ⟨rfl, rfl⟩ := Prod.mk.inj hs
      exact NX.fin (v := .tuple #[.int .i64 0, .int .i64 2]) (Res.still (by kernel_rfl)) tot htL rfl
    · replace hs := of_if_f hs h3
      refine CP.skip ?_
      refine NX.then_n ?_
      refine CP.seqR ?_
      refine WP.still 5 (by kernel_rfl) ?_
      refine WP.done (by kernel_rfl) ?_
      refine NX.then_n ?_
      refine CP.ret ?_
      replace hs := Option.some.inj hs
      obtain ⟨rfl, rfl⟩ := Prod.mk.inj hs
      exact NX.fin (v := .tuple #[.int .i64 (IntKind.i64.wrap (x1 + x2)), .int .i64 0]) (Res.still (by kernel_rfl)) tot htL rfl
def F.baizeref03_Sum.l1 (l1 : List Int) : Nat → Int → Int → Option (Int × Int)
  | 0, _, _ => none
  | k + 1, x3, x4 => (if decide (x4 < (l1.length : Int)) = true then (if 0 ≤ x4 ∧ x4 < (l1.length : Int) then ((F.baizeref03_Add x3 (getI l1 x4)).bind fun (x9, x10) => (if (x10 != 0) = true then (some (0, x10)) else (F.baizeref03_Sum.l1 l1 k x9 (IntKind.i64.wrap (x4 + 1))))) else none) else (some (x3, 0)))
def F.baizeref03_Sum (l1 : List Int) : Option (Int × Int) := (F.baizeref03_Sum.l1 l1 fuel 0 0)
theorem P.baizeref03_Sum (g0 : GW) (l1 : List Int) (a1 : Option Addr) (n1 : Nat) (c1 : Nat) (hR1 : RdS (Kd.int .i64) g0 3 a1 n1 c1 l1) (o1 : Int) (o2 : Int) (hs : F.baizeref03_Sum l1 = some (o1, o2)) :
    Calls Try.prog 15 #[.slice a1 n1 c1] g0.w (Ret NoM g0 fun v g => v = .tuple #[.int .i64 o1, .int .i64 o2]) := by
  refine calls_of (args := [.slice a1 n1 c1]) Try.func15 rfl (0) ?_
  intro t ht htL
  refine ⟨_, rfl, ?_⟩
  refine CP.refr 28 [(0, .slice a1 n1 c1)] (by kernel_rfl) (by kernel_rfl) ?_
  intro ds
  have tot : Step (fun l => NoM l ∨ t ≤ l) g0 g0 := Step.refl _ _
  unfold F.baizeref03_Sum at hs
  refine CP.seqR ?_
  refine WP.still 2 (by kernel_rfl) ?_
  refine WP.done (by kernel_rfl) ?_
  refine NX.then_n ?_
  refine CP.seqR ?_
  refine WP.still 1 (by kernel_rfl) ?_
  refine WP.done (by kernel_rfl) ?_
  refine NX.then_n ?_
  refine CP.seq ?_
  refine CP.seqR ?_
  refine WP.still 1 (by kernel_rfl) ?_
  refine WP.done (by kernel_rfl) ?_
  refine NX.then_n ?_
  refine CP.block ?_
  generalize fuel = k1 at hs
  refine CP.loop (fun k1 tm g => ∃ (x3 : Int) (x4 : Int), Fr 28 [(0, .slice a1 n1 c1), (4, .int .i64 x3), (5, .int .i64 x4)] tm ∧ Step (fun l => NoM l ∨ t ≤ l) g0 g ∧ RdS (Kd.int .i64) g 3 a1 n1 c1 l1 ∧ F.baizeref03_Sum.l1 l1 k1 x3 x4 = some (o1, o2)) k1 ?_ ?_ ?_
  · exact ⟨0, 0, ⟨by kernel_rfl, by kernel_rfl⟩, tot, hR1, hs⟩
  · rintro tm g ⟨x3, x4, hF, tot, hR1, hs⟩
    exact absurd hs (by simp [F.baizeref03_Sum.l1])
  clear tot hs hR1
  rintro k1 tm g ⟨x3, x4, hF, tot, hR1, hs⟩
  clear ds
  obtain ⟨ds, rfl⟩ := hF.open
  clear hF
  unfold F.baizeref03_Sum.l1 at hs
  refine CP.seq ?_
  refine CP.seqR ?_
  refine WP.still 2 (by kernel_rfl) ?_
  refine WP.len (a := a1) (cp := c1) hR1.len (by kernel_rfl) ?_
  refine WP.still 1 (by kernel_rfl) ?_
  refine WP.done (by kernel_rfl) ?_
  refine NX.then_n ?_
  refine CP.cond (b := decide (x4 < (l1.length : Int))) (by kernel_rfl) (fun h5 => ?_) (fun h5 => ?_)
  · replace hs := of_if_t hs h5
    refine CP.skip ?_
    refine NX.then_n ?_
    refine CP.seq ?_
    refine CP.block ?_
    refine CP.seqR ?_
    refine WP.still 3 (by kernel_rfl) ?_
    by_cases hc3 : 0 ≤ x4 ∧ x4 < (l1.length : Int)
    case neg => rw [if_neg hc3] at hs; cases hs
    replace hs := of_if_p hs hc3
    obtain ⟨b3, u3, ha3⟩ := hR1.at hc3
    refine WP.indexA (t := 22) (e := 3) (sz := 1) (cap := c1) (k := .i64) (i := x4) hR1.len ha3 (by kernel_rfl) (by kernel_rfl) hc3 ?_
    obtain ⟨cs3, hcR3, hcV3⟩ := hR1.src.view (getI_some hc3) ha3
    replace hcR3 := Kd.o_int hcR3
    refine WP.loadV [[.int .i64 (getI l1 x4)]] [1] hcV3 hcR3 rfl (f := 0) (ty := 3) (agg := false) (size := 1) (rs := [[.int .i64 (getI l1 x4)]]) (v := .int .i64 (getI l1 x4)) (by kernel_rfl) (by kernel_rfl) (by kernel_rfl) (by kernel_rfl) ?_
    replace hs := Option.bind_eq_some_iff.1 hs
    obtain ⟨⟨x9, x10⟩, hk3, hs⟩ := hs
    dsimp only at hs
    have hcal3 := P.baizeref03_Add g x3 (getI l1 x4) x9 x10 hk3
    refine WP.callC hcal3 (by kernel_rfl) ?_
    rintro _ g3 st3 rfl
    replace hR1 := hR1.mono st3 (fun x => x)
    replace tot := tot.trans st3.pure
    refine WP.still 5 (by kernel_rfl) ?_
    refine WP.done (by kernel_rfl) ?_
    refine NX.then_n ?_
    refine CP.refr 28 [(0, .slice a1 n1 c1), (5, .int .i64 x4), (6, .int .i64 x9), (7, .int .i64 x10)] (by kernel_rfl) (by kernel_rfl) ?_
    clear ds
    intro ds
    refine CP.seq ?_
    refine CP.seqR ?_
    refine WP.still 2 (by kernel_rfl) ?_
    refine WP.done (by kernel_rfl) ?_
    refine NX.then_n ?_
    refine CP.cond (b := (x10 != 0)) (by kernel_rfl) (fun h6 => ?_) (fun h6 => ?_)
    · replace hs := of_if_t hs h6
      refine CP.seqR ?_
      refine WP.still 3 (by kernel_rfl) ?_
      refine WP.done (by kernel_rfl) ?_
      refine NX.then_n ?_
      refine CP.ret ?_
      refine NX.then_r ?_
      refine NX.block_r ?_
      refine NX.then_r ?_
      refine NX.then_r ?_
      refine NX.block_r ?_
      refine NX.then_r ?_
      replace hs := Option.some.inj hs
      obtain ⟨rfl, rfl⟩ := Prod.mk.inj hs
      exact NX.fin (v := .tuple #[.int .i64 0, .int .i64 x10]) (Res.still (by kernel_rfl)) tot htL rfl
    · replace hs := of_if_f hs h6
      refine CP.skip ?_
      refine NX.then_n ?_
      refine CP.region ?_
      refine WP.still 2 (by kernel_rfl) ?_
      refine WP.done (by kernel_rfl) ?_
      refine NX.block_n ?_
      refine NX.then_n ?_
      refine CP.region ?_
      refine WP.still 3 (by kernel_rfl) ?_
      refine WP.done (by kernel_rfl) ?_
      refine NX.post ?_
      exact ⟨x9, (IntKind.i64.wrap (x4 + 1)), ⟨by kernel_rfl, by kernel_rfl⟩, tot, hR1, hs⟩
  · replace hs := of_if_f hs h5
    refine CP.exit ?_
    refine NX.then_e ?_
    refine NX.then_e ?_
    refine NX.block_s ?_
    refine NX.then_n ?_
    refine CP.seqR ?_
    refine WP.still 3 (by kernel_rfl) ?_
    refine WP.done (by kernel_rfl) ?_
    refine NX.then_n ?_
    refine CP.ret ?_
    replace hs := Option.some.inj hs
    obtain ⟨rfl, rfl⟩ := Prod.mk.inj hs
    exact NX.fin (v := .tuple #[.int .i64 x3, .int .i64 0]) (Res.still (by kernel_rfl)) tot htL rfl
def F.baizeref35_Adds.c2 (q8 : Bool) : Option (Int) := (if q8 = true then (some 22) else (some 0))
def F.baizeref35_Adds.l1 (x1 : Int) (l1 : List Int) : Nat → Int → Option (Int)
  | 0, _ => none
  | k + 1, x5 => (if decide (x5 < (l1.length : Int)) = true then (if 0 ≤ x5 ∧ x5 < (l1.length : Int) then ((F.baizeref03_Right (getI l1 x5)).bind fun q7 => (if (!q7) = true then (some 2) else (F.baizeref35_Adds.l1 x1 l1 k (IntKind.i64.wrap (x5 + 1))))) else none) else ((F.baizeref03_Sum l1).bind fun (x9, x10) => (if (x10 != 0) = true then (F.baizeref35_Adds.c2 true) else (F.baizeref35_Adds.c2 (x9 != x1)))))
def F.baizeref35_Adds.c1 (x1 : Int) (x2 : Int) (l1 : List Int) (q1 : Bool) : Option (Int) := (if q1 = true then (some 1) else ((F.baizeref03_Right x1).bind fun q2 => (if (!q2) = true then (some 2) else (if ((l1.length : Int) != x2) = true then (some 3) else (F.baizeref35_Adds.l1 x1 l1 fuel 0)))))
def F.baizeref35_Adds (x1 : Int) (x2 : Int) (l1 : List Int) : Option (Int) := (if decide (x2 < 2) = true then (F.baizeref35_Adds.c1 x1 x2 l1 true) else (F.baizeref35_Adds.c1 x1 x2 l1 (decide (x2 > 8))))
theorem P.baizeref35_Adds (g0 : GW) (x1 : Int) (x2 : Int) (l1 : List Int) (a1 : Option Addr) (n1 : Nat) (c1 : Nat) (hR1 : RdS (Kd.int .i64) g0 3 a1 n1 c1 l1) (o1 : Int) (hs : F.baizeref35_Adds x1 x2 l1 = some o1) :
    Calls Try.prog 11 #[.int .i64 x1, .int .i64 x2, .slice a1 n1 c1] g0.w (Ret NoM g0 fun v g => v = .int .i64 o1) := by
  refine calls_of (args := [.int .i64 x1, .int .i64 x2, .slice a1 n1 c1]) Try.func11 rfl (0) ?_
  intro t ht htL
  refine ⟨_, rfl, ?_⟩
  refine CP.refr 47 [(0, .int .i64 x1), (1, .int .i64 x2), (2, .slice a1 n1 c1)] (by kernel_rfl) (by kernel_rfl) ?_
  intro ds
  have tot : Step (fun l => NoM l ∨ t ≤ l) g0 g0 := Step.refl _ _
  unfold F.baizeref35_Adds at hs
  refine CP.seqR ?_
  refine WP.still 1 (by kernel_rfl) ?_
  refine WP.done (by kernel_rfl) ?_
  refine NX.then_n ?_
  refine CP.seq ?_
  refine CP.cut (fun tm g => ∃ (q1 : Bool), Fr 47 [(0, .int .i64 x1), (1, .int .i64 x2), (2, .slice a1 n1 c1), (15, .bool q1)] tm ∧ Step (fun l => NoM l ∨ t ≤ l) g0 g ∧ RdS (Kd.int .i64) g 3 a1 n1 c1 l1 ∧ (F.baizeref35_Adds.c1 x1 x2 l1 q1) = some o1) ?_ ?_
  · refine CP.region ?_
    refine WP.still 3 (by kernel_rfl) ?_
    refine WP.guard 12 (b := decide (x2 < 2)) (by kernel_rfl) (fun h18 => ?_) (fun h18 => ?_)
    · replace hs := of_if_t hs h18
      refine WP.still 3 (by kernel_rfl) ?_
      refine WP.done (by kernel_rfl) ?_
      refine NX.post ?_
      exact ⟨true, ⟨by kernel_rfl, by kernel_rfl⟩, tot, hR1, hs⟩
    · replace hs := of_if_f hs h18
      refine WP.still 3 (by kernel_rfl) ?_
      refine WP.done (by kernel_rfl) ?_
      refine NX.post ?_
      exact ⟨decide (x2 > 8), ⟨by kernel_rfl, by kernel_rfl⟩, tot, hR1, hs⟩
  · clear tot hs hR1
    rintro tm g ⟨q1, hF, tot, hR1, hs⟩
    clear ds
    obtain ⟨ds, rfl⟩ := hF.open
    clear hF
    unfold F.baizeref35_Adds.c1 at hs
    refine CP.cond (b := q1) (by kernel_rfl) (fun h2 => ?_) (fun h2 => ?_)
    · replace hs := of_if_t hs h2
      refine CP.seqR ?_
      refine WP.still 1 (by kernel_rfl) ?_
      refine WP.done (by kernel_rfl) ?_
      refine NX.then_n ?_
      refine CP.ret ?_
      refine NX.then_r ?_
      replace hs := Option.some.inj hs
      obtain rfl := hs
      exact NX.fin (v := .int .i64 1) (Res.still (by kernel_rfl)) tot htL rfl
    · replace hs := of_if_f hs h2
      refine CP.skip ?_
      refine NX.then_n ?_
      refine CP.seq ?_
      refine CP.seqR ?_
      refine WP.still 1 (by kernel_rfl) ?_
      replace hs := Option.bind_eq_some_iff.1 hs
      obtain ⟨q2, hk1, hs⟩ := hs
      have hcal1 := P.baizeref03_Right g x1 q2 hk1
      refine WP.callC hcal1 (by kernel_rfl) ?_
      rintro _ g1 st1 rfl
      replace hR1 := hR1.mono st1 (fun x => x)
      replace tot := tot.trans st1.pure
      refine WP.still 1 (by kernel_rfl) ?_
      refine WP.done (by kernel_rfl) ?_
      refine NX.then_n ?_
      refine CP.cond (b := (!q2)) (by kernel_rfl) (fun h3 => ?_) (fun h3 => ?_)
      · replace hs := of_if_t hs h3
        refine CP.seqR ?_
        refine WP.still 1 (by kernel_rfl) ?_
        refine WP.done (by kernel_rfl) ?_
        refine NX.then_n ?_
        refine CP.ret ?_
        refine NX.then_r ?_
        replace hs := Option.some.inj hs
        obtain rfl := hs
        exact NX.fin (v := .int .i64 2) (Res.still (by kernel_rfl)) tot htL rfl
      · replace hs := of_if_f hs h3
        refine CP.skip ?_
        refine NX.then_n ?_
        refine CP.seq ?_
        refine CP.seqR ?_
        refine WP.still 1 (by kernel_rfl) ?_
        refine WP.len (a := a1) (cp := c1) hR1.len (by kernel_rfl) ?_
        refine WP.still 2 (by kernel_rfl) ?_
        refine WP.done (by kernel_rfl) ?_
        refine NX.then_n ?_
        refine CP.cond (b := ((l1.length : Int) != x2)) (by kernel_rfl) (fun h4 => ?_) (fun h4 => ?_)
        · replace hs := of_if_t hs h4
          refine CP.seqR ?_
          refine WP.still 1 (by kernel_rfl) ?_
          refine WP.done (by kernel_rfl) ?_
          refine NX.then_n ?_
          refine CP.ret ?_
          refine NX.then_r ?_
          replace hs := Option.some.inj hs
          obtain rfl := hs
          exact NX.fin (v := .int .i64 3) (Res.still (by kernel_rfl)) tot htL rfl
        · replace hs := of_if_f hs h4
          refine CP.skip ?_
          refine NX.then_n ?_
          refine CP.seq ?_
          refine CP.seqR ?_
          refine WP.still 1 (by kernel_rfl) ?_
          refine WP.done (by kernel_rfl) ?_
          refine NX.then_n ?_
          refine CP.block ?_
          generalize fuel = k1 at hs
          refine CP.loop (fun k1 tm g => ∃ (x5 : Int), Fr 47 [(0, .int .i64 x1), (2, .slice a1 n1 c1), (7, .int .i64 x5)] tm ∧ Step (fun l => NoM l ∨ t ≤ l) g0 g ∧ RdS (Kd.int .i64) g 3 a1 n1 c1 l1 ∧ F.baizeref35_Adds.l1 x1 l1 k1 x5 = some o1) k1 ?_ ?_ ?_
          · exact ⟨0, ⟨by kernel_rfl, by kernel_rfl⟩, tot, hR1, hs⟩
          · rintro tm g ⟨x5, hF, tot, hR1, hs⟩
            exact absurd hs (by simp [F.baizeref35_Adds.l1])
          clear tot hs hR1
          rintro k1 tm g ⟨x5, hF, tot, hR1, hs⟩
          clear ds
          obtain ⟨ds, rfl⟩ := hF.open
          clear hF
          unfold F.baizeref35_Adds.l1 at hs
          refine CP.seq ?_
          refine CP.seqR ?_
          refine WP.still 2 (by kernel_rfl) ?_
          refine WP.len (a := a1) (cp := c1) hR1.len (by kernel_rfl) ?_
          refine WP.still 1 (by kernel_rfl) ?_
          refine WP.done (by kernel_rfl) ?_
          refine NX.then_n ?_
          refine CP.cond (b := decide (x5 < (l1.length : Int))) (by kernel_rfl) (fun h13 => ?_) (fun h13 => ?_)
          · replace hs := of_if_t hs h13
            refine CP.skip ?_
            refine NX.then_n ?_
            refine CP.seq ?_
            refine CP.block ?_
            refine CP.seqR ?_
            refine WP.still 2 (by kernel_rfl) ?_
            by_cases hc3 : 0 ≤ x5 ∧ x5 < (l1.length : Int)
            case neg => rw [if_neg hc3] at hs; cases hs
            replace hs := of_if_p hs hc3
            obtain ⟨b3, u3, ha3⟩ := hR1.at hc3
            refine WP.indexA (t := 22) (e := 3) (sz := 1) (cap := c1) (k := .i64) (i := x5) hR1.len ha3 (by kernel_rfl) (by kernel_rfl) hc3 ?_
            obtain ⟨cs3, hcR3, hcV3⟩ := hR1.src.view (getI_some hc3) ha3
            replace hcR3 := Kd.o_int hcR3
            refine WP.loadV [[.int .i64 (getI l1 x5)]] [1] hcV3 hcR3 rfl (f := 0) (ty := 3) (agg := false) (size := 1) (rs := [[.int .i64 (getI l1 x5)]]) (v := .int .i64 (getI l1 x5)) (by kernel_rfl) (by kernel_rfl) (by kernel_rfl) (by kernel_rfl) ?_
            replace hs := Option.bind_eq_some_iff.1 hs
            obtain ⟨q7, hk6, hs⟩ := hs
            have hcal6 := P.baizeref03_Right g (getI l1 x5) q7 hk6
            refine WP.callC hcal6 (by kernel_rfl) ?_
            rintro _ g6 st6 rfl
            replace hR1 := hR1.mono st6 (fun x => x)
            replace tot := tot.trans st6.pure
            refine WP.still 1 (by kernel_rfl) ?_
            refine WP.done (by kernel_rfl) ?_
            refine NX.then_n ?_
            refine CP.cond (b := (!q7)) (by kernel_rfl) (fun h14 => ?_) (fun h14 => ?_)
            · replace hs := of_if_t hs h14
              refine CP.seqR ?_
              refine WP.still 1 (by kernel_rfl) ?_
              refine WP.done (by kernel_rfl) ?_
              refine NX.then_n ?_
              refine CP.ret ?_
              refine NX.block_r ?_
              refine NX.then_r ?_
              refine NX.then_r ?_
              refine NX.block_r ?_
              refine NX.then_r ?_
              replace hs := Option.some.inj hs
              obtain rfl := hs
              exact NX.fin (v := .int .i64 2) (Res.still (by kernel_rfl)) tot htL rfl
            · replace hs := of_if_f hs h14
              refine CP.skip ?_
              refine NX.block_n ?_
              refine NX.then_n ?_
              refine CP.region ?_
              refine WP.still 3 (by kernel_rfl) ?_
              refine WP.done (by kernel_rfl) ?_
              refine NX.post ?_
              exact ⟨(IntKind.i64.wrap (x5 + 1)), ⟨by kernel_rfl, by kernel_rfl⟩, tot, hR1, hs⟩
          · replace hs := of_if_f hs h13
            refine CP.exit ?_
            refine NX.then_e ?_
            refine NX.then_e ?_
            refine NX.block_s ?_
            refine NX.then_n ?_
            refine CP.seqR ?_
            refine WP.still 1 (by kernel_rfl) ?_
            replace hs := Option.bind_eq_some_iff.1 hs
            obtain ⟨⟨x9, x10⟩, hk7, hs⟩ := hs
            dsimp only at hs
            have hcal7 := P.baizeref03_Sum g l1 a1 n1 c1 hR1 x9 x10 hk7
            refine WP.callC hcal7 (by kernel_rfl) ?_
            rintro _ g7 st7 rfl
            replace hR1 := hR1.mono st7 (fun x => x)
            replace tot := tot.trans st7.pure
            refine WP.still 5 (by kernel_rfl) ?_
            refine WP.done (by kernel_rfl) ?_
            refine NX.then_n ?_
            refine CP.seq ?_
            refine CP.cut (fun tm g => ∃ (q8 : Bool), Fr 47 [(46, .bool q8)] tm ∧ Step (fun l => NoM l ∨ t ≤ l) g0 g ∧ (F.baizeref35_Adds.c2 q8) = some o1) ?_ ?_
            · refine CP.region ?_
              refine WP.still 3 (by kernel_rfl) ?_
              refine WP.guard 42 (b := (x10 != 0)) (by kernel_rfl) (fun h17 => ?_) (fun h17 => ?_)
              · replace hs := of_if_t hs h17
                refine WP.still 4 (by kernel_rfl) ?_
                refine WP.done (by kernel_rfl) ?_
                refine NX.post ?_
                exact ⟨true, ⟨by kernel_rfl, by kernel_rfl⟩, tot, hs⟩
              · replace hs := of_if_f hs h17
                refine WP.still 4 (by kernel_rfl) ?_
                refine WP.done (by kernel_rfl) ?_
                refine NX.post ?_
                exact ⟨(x9 != x1), ⟨by kernel_rfl, by kernel_rfl⟩, tot, hs⟩
            · clear tot hs
              rintro tm g ⟨q8, hF, tot, hs⟩
              clear ds
              obtain ⟨ds, rfl⟩ := hF.open
              clear hF
              unfold F.baizeref35_Adds.c2 at hs
              refine CP.cond (b := q8) (by kernel_rfl) (fun h16 => ?_) (fun h16 => ?_)
              · replace hs := of_if_t hs h16
                refine CP.seqR ?_
                refine WP.still 1 (by kernel_rfl) ?_
                refine WP.done (by kernel_rfl) ?_
                refine NX.then_n ?_
                refine CP.ret ?_
                refine NX.then_r ?_
                replace hs := Option.some.inj hs
                obtain rfl := hs
                exact NX.fin (v := .int .i64 22) (Res.still (by kernel_rfl)) tot htL rfl
              · replace hs := of_if_f hs h16
                refine CP.skip ?_
                refine NX.then_n ?_
                refine CP.seqR ?_
                refine WP.still 1 (by kernel_rfl) ?_
                refine WP.done (by kernel_rfl) ?_
                refine NX.then_n ?_
                refine CP.ret ?_
                replace hs := Option.some.inj hs
                obtain rfl := hs
                exact NX.fin (v := .int .i64 0) (Res.still (by kernel_rfl)) tot htL rfl
def F.baizelaw35_CloseAdds.c1 (q3 : Bool) : Option (Bool) := (some q3)
def F.baizelaw35_CloseAdds (x1 : Int) (x2 : Int) (l1 : List Int) : Option (Bool) := (if decide ((l1.length : Int) > 20) = true then ((F.baizelaw35_told).bind fun q1 => (some q1)) else ((F.close_Adds x1 x2 l1).bind fun x5 => ((F.baizeref35_Adds x1 x2 l1).bind fun x6 => (if (x5 == x6) = true then ((F.baizelaw35_told).bind fun q4 => (F.baizelaw35_CloseAdds.c1 q4)) else (F.baizelaw35_CloseAdds.c1 false)))))
theorem P.baizelaw35_CloseAdds (g0 : GW) (x1 : Int) (x2 : Int) (l1 : List Int) (a1 : Option Addr) (n1 : Nat) (c1 : Nat) (hR1 : RdS (Kd.int .i64) g0 3 a1 n1 c1 l1) (o1 : Bool) (hs : F.baizelaw35_CloseAdds x1 x2 l1 = some o1) :
    Calls Try.prog 3 #[.int .i64 x1, .int .i64 x2, .slice a1 n1 c1] g0.w (Ret NoM g0 fun v g => v = .bool o1) := by
  refine calls_of (args := [.int .i64 x1, .int .i64 x2, .slice a1 n1 c1]) Try.func3 rfl (0) ?_
  intro t ht htL
  refine ⟨_, rfl, ?_⟩
  refine CP.refr 23 [(0, .int .i64 x1), (1, .int .i64 x2), (2, .slice a1 n1 c1)] (by kernel_rfl) (by kernel_rfl) ?_
  intro ds
  have tot : Step (fun l => NoM l ∨ t ≤ l) g0 g0 := Step.refl _ _
  unfold F.baizelaw35_CloseAdds at hs
  refine CP.seqR ?_
  refine WP.still 1 (by kernel_rfl) ?_
  refine WP.done (by kernel_rfl) ?_
  refine NX.then_n ?_
  refine CP.seq ?_
  refine CP.seqR ?_
  refine WP.still 1 (by kernel_rfl) ?_
  refine WP.len (a := a1) (cp := c1) hR1.len (by kernel_rfl) ?_
  refine WP.still 1 (by kernel_rfl) ?_
  refine WP.done (by kernel_rfl) ?_
  refine NX.then_n ?_
  refine CP.cond (b := decide ((l1.length : Int) > 20)) (by kernel_rfl) (fun h1 => ?_) (fun h1 => ?_)
  · replace hs := of_if_t hs h1
    refine CP.seqR ?_
    replace hs := Option.bind_eq_some_iff.1 hs
    obtain ⟨q1, hk1, hs⟩ := hs
    have hcal1 := P.baizelaw35_told g0 q1 hk1
    refine WP.callC hcal1 (by kernel_rfl) ?_
    rintro _ g1 st1 rfl
    replace hR1 := hR1.mono st1 (fun x => x)
    replace tot := tot.trans st1.pure
    refine WP.still 1 (by kernel_rfl) ?_
    refine WP.done (by kernel_rfl) ?_
    refine NX.then_n ?_
    refine CP.ret ?_
    refine NX.then_r ?_
    replace hs := Option.some.inj hs
    obtain rfl := hs
    exact NX.fin (v := .bool q1) (Res.still (by kernel_rfl)) tot htL rfl
  · replace hs := of_if_f hs h1
    refine CP.skip ?_
    refine NX.then_n ?_
    refine CP.cut (fun tm g => ∃ (q3 : Bool), Fr 23 [(6, .bool q3)] tm ∧ Step (fun l => NoM l ∨ t ≤ l) g0 g ∧ (F.baizelaw35_CloseAdds.c1 q3) = some o1) ?_ ?_
    · refine CP.region ?_
      refine WP.still 3 (by kernel_rfl) ?_
      replace hs := Option.bind_eq_some_iff.1 hs
      obtain ⟨x5, hk5, hs⟩ := hs
      have hcal5 := P.close_Adds g0 x1 x2 l1 a1 n1 c1 hR1 x5 hk5
      refine WP.callC hcal5 (by kernel_rfl) ?_
      rintro _ g5 st5 rfl
      replace hR1 := hR1.mono st5 (fun x => x)
      replace tot := tot.trans st5.pure
      refine WP.still 3 (by kernel_rfl) ?_
      replace hs := Option.bind_eq_some_iff.1 hs
      obtain ⟨x6, hk6, hs⟩ := hs
      have hcal6 := P.baizeref35_Adds g5 x1 x2 l1 a1 n1 c1 hR1 x6 hk6
      refine WP.callC hcal6 (by kernel_rfl) ?_
      rintro _ g6 st6 rfl
      replace hR1 := hR1.mono st6 (fun x => x)
      replace tot := tot.trans st6.pure
      refine WP.still 2 (by kernel_rfl) ?_
      refine WP.guard 20 (b := (x5 == x6)) (by kernel_rfl) (fun h3 => ?_) (fun h3 => ?_)
      · replace hs := of_if_t hs h3
        replace hs := Option.bind_eq_some_iff.1 hs
        obtain ⟨q4, hk7, hs⟩ := hs
        have hcal7 := P.baizelaw35_told g6 q4 hk7
        refine WP.callC hcal7 (by kernel_rfl) ?_
        rintro _ g7 st7 rfl
        replace hR1 := hR1.mono st7 (fun x => x)
        replace tot := tot.trans st7.pure
        refine WP.still 2 (by kernel_rfl) ?_
        refine WP.done (by kernel_rfl) ?_
        refine NX.post ?_
        exact ⟨q4, ⟨by kernel_rfl, by kernel_rfl⟩, tot, hs⟩
      · replace hs := of_if_f hs h3
        refine WP.still 3 (by kernel_rfl) ?_
        refine WP.done (by kernel_rfl) ?_
        refine NX.post ?_
        exact ⟨false, ⟨by kernel_rfl, by kernel_rfl⟩, tot, hs⟩
    · clear tot hs hR1
      rintro tm g ⟨q3, hF, tot, hs⟩
      clear ds
      obtain ⟨ds, rfl⟩ := hF.open
      clear hF
      unfold F.baizelaw35_CloseAdds.c1 at hs
      refine CP.ret ?_
      replace hs := Option.some.inj hs
      obtain rfl := hs
      exact NX.fin (v := .bool q3) (Res.still (by kernel_rfl)) tot htL rfl
def F.baizeref35_Others.c1 (nx1 : Int → Int → Option (Int)) (x4 : Int) (x8 : Int) : Option (Int) := (nx1 x8 (IntKind.i64.wrap (x4 + 1)))
def F.baizeref35_Others.c2 (nx1 : Int → Int → Option (Int)) (x3 : Int) (x4 : Int) (q4 : Bool) : Option (Int) := (if q4 = true then (F.baizeref35_Others.c1 nx1 x4 (IntKind.i64.wrap (x3 + 1))) else (F.baizeref35_Others.c1 nx1 x4 x3))
def F.baizeref35_Others.l1 (x1 : Int) (l1 : List Bool) : Nat → Int → Int → Option (Int)
  | 0, _, _ => none
  | k + 1, x3, x4 => (if decide (x4 < (l1.length : Int)) = true then (if (x4 != x1) = true then (if 0 ≤ x4 ∧ x4 < (l1.length : Int) then (F.baizeref35_Others.c2 (F.baizeref35_Others.l1 x1 l1 k) x3 x4 (!(getI l1 x4))) else none) else (F.baizeref35_Others.c2 (F.baizeref35_Others.l1 x1 l1 k) x3 x4 false)) else (some x3))
def F.baizeref35_Others (x1 : Int) (l1 : List Bool) : Option (Int) := (F.baizeref35_Others.l1 x1 l1 fuel 0 0)
theorem P.baizeref35_Others (g0 : GW) (x1 : Int) (l1 : List Bool) (a1 : Option Addr) (n1 : Nat) (c1 : Nat) (hR1 : RdS Kd.bool g0 4 a1 n1 c1 l1) (o1 : Int) (hs : F.baizeref35_Others x1 l1 = some o1) :
    Calls Try.prog 29 #[.int .i64 x1, .slice a1 n1 c1] g0.w (Ret NoM g0 fun v g => v = .int .i64 o1) := by
  refine calls_of (args := [.int .i64 x1, .slice a1 n1 c1]) Try.func29 rfl (0) ?_
  intro t ht htL
  refine ⟨_, rfl, ?_⟩
  refine CP.refr 26 [(0, .int .i64 x1), (1, .slice a1 n1 c1)] (by kernel_rfl) (by kernel_rfl) ?_
  intro ds
  have tot : Step (fun l => NoM l ∨ t ≤ l) g0 g0 := Step.refl _ _
  unfold F.baizeref35_Others at hs
  refine CP.seqR ?_
  refine WP.still 1 (by kernel_rfl) ?_
  refine WP.done (by kernel_rfl) ?_
  refine NX.then_n ?_
  refine CP.seqR ?_
  refine WP.still 1 (by kernel_rfl) ?_
  refine WP.done (by kernel_rfl) ?_
  refine NX.then_n ?_
  refine CP.seq ?_
  refine CP.seqR ?_
  refine WP.still 1 (by kernel_rfl) ?_
  refine WP.done (by kernel_rfl) ?_
  refine NX.then_n ?_
  refine CP.block ?_
  generalize fuel = k1 at hs
  refine CP.loop (fun k1 tm g => ∃ (x3 : Int) (x4 : Int), Fr 26 [(0, .int .i64 x1), (1, .slice a1 n1 c1), (5, .int .i64 x3), (6, .int .i64 x4)] tm ∧ Step (fun l => NoM l ∨ t ≤ l) g0 g ∧ RdS Kd.bool g 4 a1 n1 c1 l1 ∧ F.baizeref35_Others.l1 x1 l1 k1 x3 x4 = some o1) k1 ?_ ?_ ?_
  · exact ⟨0, 0, ⟨by kernel_rfl, by kernel_rfl⟩, tot, hR1, hs⟩
  · rintro tm g ⟨x3, x4, hF, tot, hR1, hs⟩
    exact absurd hs (by simp [F.baizeref35_Others.l1])
  clear tot hs hR1
  rintro k1 tm g ⟨x3, x4, hF, tot, hR1, hs⟩
  clear ds
  obtain ⟨ds, rfl⟩ := hF.open
  clear hF
  unfold F.baizeref35_Others.l1 at hs
  refine CP.seq ?_
  refine CP.seqR ?_
  refine WP.still 2 (by kernel_rfl) ?_
  refine WP.len (a := a1) (cp := c1) hR1.len (by kernel_rfl) ?_
  refine WP.still 1 (by kernel_rfl) ?_
  refine WP.done (by kernel_rfl) ?_
  refine NX.then_n ?_
  refine CP.cond (b := decide (x4 < (l1.length : Int))) (by kernel_rfl) (fun h7 => ?_) (fun h7 => ?_)
  · replace hs := of_if_t hs h7
    refine CP.skip ?_
    refine NX.then_n ?_
    refine CP.cut (fun tm g => ∃ (x8 : Int), Fr 26 [(0, .int .i64 x1), (1, .slice a1 n1 c1), (5, .int .i64 x8), (6, .int .i64 x4)] tm ∧ Step (fun l => NoM l ∨ t ≤ l) g0 g ∧ RdS Kd.bool g 4 a1 n1 c1 l1 ∧ (F.baizeref35_Others.c1 (F.baizeref35_Others.l1 x1 l1 k1) x4 x8) = some o1) ?_ ?_
    · refine CP.block ?_
      refine CP.cut (fun tm g => ∃ (q4 : Bool), Fr 26 [(0, .int .i64 x1), (1, .slice a1 n1 c1), (5, .int .i64 x3), (6, .int .i64 x4), (22, .bool q4)] tm ∧ Step (fun l => NoM l ∨ t ≤ l) g0 g ∧ RdS Kd.bool g 4 a1 n1 c1 l1 ∧ (F.baizeref35_Others.c2 (F.baizeref35_Others.l1 x1 l1 k1) x3 x4 q4) = some o1) ?_ ?_
      · refine CP.region ?_
        refine WP.still 4 (by kernel_rfl) ?_
        refine WP.guard 16 (b := (x4 != x1)) (by kernel_rfl) (fun h12 => ?_) (fun h12 => ?_)
        · replace hs := of_if_t hs h12
          refine WP.still 2 (by kernel_rfl) ?_
          by_cases hc5 : 0 ≤ x4 ∧ x4 < (l1.length : Int)
          case neg => rw [if_neg hc5] at hs; cases hs
          replace hs := of_if_p hs hc5
          obtain ⟨b5, u5, ha5⟩ := hR1.at hc5
          refine WP.indexA (t := 28) (e := 4) (sz := 1) (cap := c1) (k := .i64) (i := x4) hR1.len ha5 (by kernel_rfl) (by kernel_rfl) hc5 ?_
          obtain ⟨cs5, hcR5, hcV5⟩ := hR1.src.view (getI_some hc5) ha5
          replace hcR5 := Kd.o_bool hcR5
          refine WP.loadV [[.bool (getI l1 x4)]] [1] hcV5 hcR5 rfl (f := 0) (ty := 4) (agg := false) (size := 1) (rs := [[.bool (getI l1 x4)]]) (v := .bool (getI l1 x4)) (by kernel_rfl) (by kernel_rfl) (by kernel_rfl) (by kernel_rfl) ?_
          refine WP.still 2 (by kernel_rfl) ?_
          refine WP.done (by kernel_rfl) ?_
          refine NX.post ?_
          exact ⟨(!(getI l1 x4)), ⟨by kernel_rfl, by kernel_rfl⟩, tot, hR1, hs⟩
        · replace hs := of_if_f hs h12
          refine WP.still 6 (by kernel_rfl) ?_
          refine WP.done (by kernel_rfl) ?_
          refine NX.post ?_
          exact ⟨false, ⟨by kernel_rfl, by kernel_rfl⟩, tot, hR1, hs⟩
      · clear tot hs hR1
        rintro tm g ⟨q4, hF, tot, hR1, hs⟩
        clear ds
        obtain ⟨ds, rfl⟩ := hF.open
        clear hF
        unfold F.baizeref35_Others.c2 at hs
        refine CP.cond (b := q4) (by kernel_rfl) (fun h11 => ?_) (fun h11 => ?_)
        · replace hs := of_if_t hs h11
          refine CP.region ?_
          refine WP.still 3 (by kernel_rfl) ?_
          refine WP.done (by kernel_rfl) ?_
          refine NX.block_n ?_
          refine NX.post ?_
          exact ⟨(IntKind.i64.wrap (x3 + 1)), ⟨by kernel_rfl, by kernel_rfl⟩, tot, hR1, hs⟩
        · replace hs := of_if_f hs h11
          refine CP.skip ?_
          refine NX.block_n ?_
          refine NX.post ?_
          exact ⟨x3, ⟨by kernel_rfl, by kernel_rfl⟩, tot, hR1, hs⟩
    · clear tot hs hR1
      rintro tm g ⟨x8, hF, tot, hR1, hs⟩
      clear ds
      obtain ⟨ds, rfl⟩ := hF.open
      clear hF
      unfold F.baizeref35_Others.c1 at hs
      refine CP.region ?_
      refine WP.still 3 (by kernel_rfl) ?_
      refine WP.done (by kernel_rfl) ?_
      refine NX.post ?_
      exact ⟨x8, (IntKind.i64.wrap (x4 + 1)), ⟨by kernel_rfl, by kernel_rfl⟩, tot, hR1, hs⟩
  · replace hs := of_if_f hs h7
    refine CP.exit ?_
    refine NX.then_e ?_
    refine NX.then_e ?_
    refine NX.block_s ?_
    refine NX.then_n ?_
    refine CP.seqR ?_
    refine WP.still 2 (by kernel_rfl) ?_
    refine WP.done (by kernel_rfl) ?_
    refine NX.then_n ?_
    refine CP.ret ?_
    replace hs := Option.some.inj hs
    obtain rfl := hs
    exact NX.fin (v := .int .i64 x3) (Res.still (by kernel_rfl)) tot htL rfl
def F.baizeref35_Forfeit.c5 (nx1 : (List Int) → Int → Option ((List Int) × Int)) (x13 : Int) (l15 : List Int) : Option ((List Int) × Int) := (nx1 l15 (IntKind.i64.wrap (x13 + 1)))
def F.baizeref35_Forfeit.c6 (nx1 : (List Int) → Int → Option ((List Int) × Int)) (x5 : Int) (x6 : Int) (l8 : List Int) (x13 : Int) (q16 : Bool) : Option ((List Int) × Int) := (if q16 = true then (if 0 ≤ x13 ∧ x13 < (l8.length : Int) then (if x5 ≠ 0 then (if 0 ≤ x13 ∧ x13 < (l8.length : Int) then (F.baizeref35_Forfeit.c5 nx1 x13 (setI l8 x13 (IntKind.i64.wrap ((getI l8 x13) + (IntKind.i64.wrap (x6.tdiv x5)))))) else none) else none) else none) else (F.baizeref35_Forfeit.c5 nx1 x13 l8))
def F.baizeref35_Forfeit.c8 (nx2 : (List Int) → Int → Int → Option ((List Int) × Int)) (x23 : Int) (l20 : List Int) (x27 : Int) : Option ((List Int) × Int) := (nx2 l20 x27 (IntKind.i64.wrap (x23 + 1)))
def F.baizeref35_Forfeit.c9 (nx2 : (List Int) → Int → Int → Option ((List Int) × Int)) (l17 : List Int) (x22 : Int) (x23 : Int) (q23 : Bool) : Option ((List Int) × Int) := (if q23 = true then (if 0 ≤ x23 ∧ x23 < (l17.length : Int) then (if 0 ≤ x23 ∧ x23 < (l17.length : Int) then (F.baizeref35_Forfeit.c8 nx2 x23 (setI l17 x23 (IntKind.i64.wrap ((getI l17 x23) + 1))) (IntKind.i64.wrap (x22 - 1))) else none) else none) else (F.baizeref35_Forfeit.c8 nx2 x23 l17 x22))
def F.baizeref35_Forfeit.c7 (nx2 : (List Int) → Int → Int → Option ((List Int) × Int)) (x1 : Int) (l2 : List Bool) (l17 : List Int) (x22 : Int) (x23 : Int) (q21 : Bool) : Option ((List Int) × Int) := (if q21 = true then (if (x23 != x1) = true then (if 0 ≤ x23 ∧ x23 < (l2.length : Int) then (F.baizeref35_Forfeit.c9 nx2 l17 x22 x23 (!(getI l2 x23))) else none) else (F.baizeref35_Forfeit.c9 nx2 l17 x22 x23 false)) else (some (l17, 0)))
def F.baizeref35_Forfeit.l2 (l1 : List Int) (x1 : Int) (l2 : List Bool) : Nat → (List Int) → Int → Int → Option ((List Int) × Int)
  | 0, _, _, _ => none
  | k + 1, l17, x22, x23 => (if decide (x23 < (l1.length : Int)) = true then (F.baizeref35_Forfeit.c7 (F.baizeref35_Forfeit.l2 l1 x1 l2 k) x1 l2 l17 x22 x23 (decide (x22 > 0))) else (F.baizeref35_Forfeit.c7 (F.baizeref35_Forfeit.l2 l1 x1 l2 k) x1 l2 l17 x22 x23 false))
def F.baizeref35_Forfeit.l1 (l1 : List Int) (x1 : Int) (l2 : List Bool) (x5 : Int) (x6 : Int) : Nat → (List Int) → Int → Option ((List Int) × Int)
  | 0, _, _ => none
  | k + 1, l8, x13 => (if decide (x13 < (l1.length : Int)) = true then (if (x13 != x1) = true then (if 0 ≤ x13 ∧ x13 < (l2.length : Int) then (F.baizeref35_Forfeit.c6 (F.baizeref35_Forfeit.l1 l1 x1 l2 x5 x6 k) x5 x6 l8 x13 (!(getI l2 x13))) else none) else (F.baizeref35_Forfeit.c6 (F.baizeref35_Forfeit.l1 l1 x1 l2 x5 x6 k) x5 x6 l8 x13 false)) else (if x5 ≠ 0 then (F.baizeref35_Forfeit.l2 l1 x1 l2 fuel l8 (IntKind.i64.wrap (x6 - (IntKind.i64.wrap ((IntKind.i64.wrap (x6.tdiv x5)) * x5)))) 0) else none))
def F.baizeref35_Forfeit.c4 (l1 : List Int) (x1 : Int) (l2 : List Bool) (x5 : Int) (x6 : Int) : Option ((List Int) × Int) := (if 0 ≤ x1 ∧ x1 < ((([] : List Int) ++ l1).length : Int) then (if 0 ≤ x1 ∧ x1 < ((([] : List Int) ++ l1).length : Int) then (F.baizeref35_Forfeit.l1 l1 x1 l2 x5 x6 fuel (setI (([] : List Int) ++ l1) x1 (IntKind.i64.wrap ((getI (([] : List Int) ++ l1) x1) - x6))) 0) else none) else none)
def F.baizeref35_Forfeit.c3 (l1 : List Int) (x1 : Int) (x2 : Int) (l2 : List Bool) (q4 : Bool) : Option ((List Int) × Int) := (if q4 = true then (some ([], 2)) else (if ([] : List Int).length + l1.length ≤ 17592186044416 then ((F.baizeref35_Others x1 l2).bind fun x5 => (if (x5 == 0) = true then (some ((([] : List Int) ++ l1), 0)) else (if 0 ≤ x1 ∧ x1 < (l1.length : Int) then (if decide (x2 > (getI l1 x1)) = true then (if 0 ≤ x1 ∧ x1 < (l1.length : Int) then (F.baizeref35_Forfeit.c4 l1 x1 l2 x5 (getI l1 x1)) else none) else (F.baizeref35_Forfeit.c4 l1 x1 l2 x5 x2)) else none))) else none))
def F.baizeref35_Forfeit.c2 (l1 : List Int) (x1 : Int) (x2 : Int) (l2 : List Bool) (q2 : Bool) : Option ((List Int) × Int) := (if q2 = true then (some ([], 28)) else ((F.baizeref03_Sum l1).bind fun (x3, x4) => (if (x4 != 0) = true then (F.baizeref35_Forfeit.c3 l1 x1 x2 l2 true) else ((F.baizeref03_Right x2).bind fun q24 => (F.baizeref35_Forfeit.c3 l1 x1 x2 l2 (!q24))))))
def F.baizeref35_Forfeit.c1 (l1 : List Int) (x1 : Int) (x2 : Int) (l2 : List Bool) (q1 : Bool) : Option ((List Int) × Int) := (if q1 = true then (some ([], 1)) else (if ((l2.length : Int) != (l1.length : Int)) = true then (some ([], 3)) else (if decide (x1 < 0) = true then (F.baizeref35_Forfeit.c2 l1 x1 x2 l2 true) else (F.baizeref35_Forfeit.c2 l1 x1 x2 l2 (decide (x1 ≥ (l1.length : Int)))))))
def F.baizeref35_Forfeit (l1 : List Int) (x1 : Int) (x2 : Int) (l2 : List Bool) : Option ((List Int) × Int) := (if decide ((l1.length : Int) < 2) = true then (F.baizeref35_Forfeit.c1 l1 x1 x2 l2 true) else (F.baizeref35_Forfeit.c1 l1 x1 x2 l2 (decide ((l1.length : Int) > 8))))
theorem P.baizeref35_Forfeit (g0 : GW) (r0 : Nat) (l1 : List Int) (x1 : Int) (x2 : Int) (l2 : List Bool) (a1 : Option Addr) (n1 : Nat) (c1 : Nat) (a2 : Option Addr) (n2 : Nat) (c2 : Nat) (hR1 : RdS (Kd.int .i64) g0 3 a1 n1 c1 l1) (hR2 : RdS Kd.bool g0 4 a2 n2 c2 l2) (o1 : List Int) (o2 : Int) (hs : F.baizeref35_Forfeit l1 x1 x2 l2 = some (o1, o2)) :
    Calls Try.prog 13 #[.slice a1 n1 c1, .int .i64 x1, .int .i64 x2, .slice a2 n2 c2] g0.w (Ret NoM g0 fun v g => ∃ (a_1 : Option Addr) (n_1 : Nat) (c_1 : Nat), v = .tuple #[.slice a_1 n_1 c_1, .int .i64 o2] ∧ OwnS (Kd.int .i64) g r0 3 a_1 n_1 c_1 o1) := by
  refine calls_of (args := [.slice a1 n1 c1, .int .i64 x1, .int .i64 x2, .slice a2 n2 c2]) Try.func13 rfl (0) ?_
  intro t ht htL
  refine ⟨_, rfl, ?_⟩
  refine CP.refr 143 [(0, .slice a1 n1 c1), (1, .int .i64 x1), (2, .int .i64 x2), (3, .slice a2 n2 c2)] (by kernel_rfl) (by kernel_rfl) ?_
  intro ds
  have tot : Step (fun l => NoM l ∨ t ≤ l) g0 g0 := Step.refl _ _
  unfold F.baizeref35_Forfeit at hs
  refine CP.seqR ?_
  refine WP.still 2 (by kernel_rfl) ?_
  refine WP.done (by kernel_rfl) ?_
  refine NX.then_n ?_
  refine CP.seq ?_
  refine CP.cut (fun tm g => ∃ (q1 : Bool), Fr 143 [(0, .slice a1 n1 c1), (1, .int .i64 x1), (2, .int .i64 x2), (3, .slice a2 n2 c2), (24, .bool q1)] tm ∧ Step (fun l => NoM l ∨ t ≤ l) g0 g ∧ RdS (Kd.int .i64) g 3 a1 n1 c1 l1 ∧ RdS Kd.bool g 4 a2 n2 c2 l2 ∧ (F.baizeref35_Forfeit.c1 l1 x1 x2 l2 q1) = some (o1, o2)) ?_ ?_
  · refine CP.region ?_
    refine WP.still 1 (by kernel_rfl) ?_
    refine WP.len (a := a1) (cp := c1) hR1.len (by kernel_rfl) ?_
    refine WP.still 2 (by kernel_rfl) ?_
    refine WP.guard 20 (b := decide ((l1.length : Int) < 2)) (by kernel_rfl) (fun h57 => ?_) (fun h57 => ?_)
    · replace hs := of_if_t hs h57
      refine WP.still 4 (by kernel_rfl) ?_
      refine WP.done (by kernel_rfl) ?_
      refine NX.post ?_
      exact ⟨true, ⟨by kernel_rfl, by kernel_rfl⟩, tot, hR1, hR2, hs⟩
    · replace hs := of_if_f hs h57
      refine WP.still 1 (by kernel_rfl) ?_
      refine WP.len (a := a1) (cp := c1) hR1.len (by kernel_rfl) ?_
      refine WP.still 2 (by kernel_rfl) ?_
      refine WP.done (by kernel_rfl) ?_
      refine NX.post ?_
      exact ⟨decide ((l1.length : Int) > 8), ⟨by kernel_rfl, by kernel_rfl⟩, tot, hR1, hR2, hs⟩
  · clear tot hs hR1 hR2
    rintro tm g ⟨q1, hF, tot, hR1, hR2, hs⟩
    clear ds
    obtain ⟨ds, rfl⟩ := hF.open
    clear hF
    unfold F.baizeref35_Forfeit.c1 at hs
    refine CP.cond (b := q1) (by kernel_rfl) (fun h2 => ?_) (fun h2 => ?_)
    · replace hs := of_if_t hs h2
      refine CP.seqR ?_
      refine WP.still 2 (by kernel_rfl) ?_
      refine WP.done (by kernel_rfl) ?_
      refine NX.then_n ?_
      refine CP.ret ?_
      refine NX.then_r ?_
      replace hs := Option.some.inj hs
      obtain ⟨rfl, rfl⟩ := Prod.mk.inj hs
      exact NX.fin (v := .tuple #[.slice none 0 0, .int .i64 1]) (Res.still (by kernel_rfl)) tot htL ⟨none, 0, 0, rfl, (OwnS.nil _ _ _ _)⟩
    · replace hs := of_if_f hs h2
      refine CP.skip ?_
      refine NX.then_n ?_
      refine CP.seq ?_
      refine CP.seqR ?_
      refine WP.still 1 (by kernel_rfl) ?_
      refine WP.len (a := a2) (cp := c2) hR2.len (by kernel_rfl) ?_
      refine WP.still 1 (by kernel_rfl) ?_
      refine WP.len (a := a1) (cp := c1) hR1.len (by kernel_rfl) ?_
      refine WP.still 1 (by kernel_rfl) ?_
      refine WP.done (by kernel_rfl) ?_
      refine NX.then_n ?_
      refine CP.cond (b := ((l2.length : Int) != (l1.length : Int))) (by kernel_rfl) (fun h3 => ?_) (fun h3 => ?_)
      · replace hs := of_if_t hs h3
        refine CP.seqR ?_
        refine WP.still 2 (by kernel_rfl) ?_
        refine WP.done (by kernel_rfl) ?_
        refine NX.then_n ?_
        refine CP.ret ?_
        refine NX.then_r ?_
        replace hs := Option.some.inj hs
        obtain ⟨rfl, rfl⟩ := Prod.mk.inj hs
        exact NX.fin (v := .tuple #[.slice none 0 0, .int .i64 3]) (Res.still (by kernel_rfl)) tot htL ⟨none, 0, 0, rfl, (OwnS.nil _ _ _ _)⟩
      · replace hs := of_if_f hs h3
        refine CP.skip ?_
        refine NX.then_n ?_
        refine CP.seq ?_
        refine CP.cut (fun tm g => ∃ (q2 : Bool), Fr 143 [(0, .slice a1 n1 c1), (1, .int .i64 x1), (2, .int .i64 x2), (3, .slice a2 n2 c2), (37, .bool q2)] tm ∧ Step (fun l => NoM l ∨ t ≤ l) g0 g ∧ RdS (Kd.int .i64) g 3 a1 n1 c1 l1 ∧ RdS Kd.bool g 4 a2 n2 c2 l2 ∧ (F.baizeref35_Forfeit.c2 l1 x1 x2 l2 q2) = some (o1, o2)) ?_ ?_
        · refine CP.region ?_
          refine WP.still 3 (by kernel_rfl) ?_
          refine WP.guard 32 (b := decide (x1 < 0)) (by kernel_rfl) (fun h56 => ?_) (fun h56 => ?_)
          · replace hs := of_if_t hs h56
            refine WP.still 5 (by kernel_rfl) ?_
            refine WP.done (by kernel_rfl) ?_
            refine NX.post ?_
            exact ⟨true, ⟨by kernel_rfl, by kernel_rfl⟩, tot, hR1, hR2, hs⟩
          · replace hs := of_if_f hs h56
            refine WP.still 2 (by kernel_rfl) ?_
            refine WP.len (a := a1) (cp := c1) hR1.len (by kernel_rfl) ?_
            refine WP.still 2 (by kernel_rfl) ?_
            refine WP.done (by kernel_rfl) ?_
            refine NX.post ?_
            exact ⟨decide (x1 ≥ (l1.length : Int)), ⟨by kernel_rfl, by kernel_rfl⟩, tot, hR1, hR2, hs⟩
        · clear tot hs hR1 hR2
          rintro tm g ⟨q2, hF, tot, hR1, hR2, hs⟩
          clear ds
          obtain ⟨ds, rfl⟩ := hF.open
          clear hF
          unfold F.baizeref35_Forfeit.c2 at hs
          refine CP.cond (b := q2) (by kernel_rfl) (fun h5 => ?_) (fun h5 => ?_)
          · replace hs := of_if_t hs h5
            refine CP.seqR ?_
            refine WP.still 2 (by kernel_rfl) ?_
            refine WP.done (by kernel_rfl) ?_
            refine NX.then_n ?_
            refine CP.ret ?_
            refine NX.then_r ?_
            replace hs := Option.some.inj hs
            obtain ⟨rfl, rfl⟩ := Prod.mk.inj hs
            exact NX.fin (v := .tuple #[.slice none 0 0, .int .i64 28]) (Res.still (by kernel_rfl)) tot htL ⟨none, 0, 0, rfl, (OwnS.nil _ _ _ _)⟩
          · replace hs := of_if_f hs h5
            refine CP.skip ?_
            refine NX.then_n ?_
            refine CP.seq ?_
            refine CP.seqR ?_
            refine WP.still 1 (by kernel_rfl) ?_
            replace hs := Option.bind_eq_some_iff.1 hs
            obtain ⟨⟨x3, x4⟩, hk1, hs⟩ := hs
            dsimp only at hs
            have hcal1 := P.baizeref03_Sum g l1 a1 n1 c1 hR1 x3 x4 hk1
            refine WP.callC hcal1 (by kernel_rfl) ?_
            rintro _ g1 st1 rfl
            replace hR1 := hR1.mono st1 (fun x => x)
            replace hR2 := hR2.mono st1 (fun x => x)
            replace tot := tot.trans st1.pure
            refine WP.still 5 (by kernel_rfl) ?_
            refine WP.done (by kernel_rfl) ?_
            refine NX.then_n ?_
            refine CP.cut (fun tm g => ∃ (q4 : Bool), Fr 143 [(0, .slice a1 n1 c1), (1, .int .i64 x1), (2, .int .i64 x2), (3, .slice a2 n2 c2), (49, .bool q4)] tm ∧ Step (fun l => NoM l ∨ t ≤ l) g0 g ∧ RdS (Kd.int .i64) g 3 a1 n1 c1 l1 ∧ RdS Kd.bool g 4 a2 n2 c2 l2 ∧ (F.baizeref35_Forfeit.c3 l1 x1 x2 l2 q4) = some (o1, o2)) ?_ ?_
            · refine CP.region ?_
              refine WP.still 3 (by kernel_rfl) ?_
              refine WP.guard 45 (b := (x4 != 0)) (by kernel_rfl) (fun h55 => ?_) (fun h55 => ?_)
              · replace hs := of_if_t hs h55
                refine WP.still 4 (by kernel_rfl) ?_
                refine WP.done (by kernel_rfl) ?_
                refine NX.post ?_
                exact ⟨true, ⟨by kernel_rfl, by kernel_rfl⟩, tot, hR1, hR2, hs⟩
              · replace hs := of_if_f hs h55
                refine WP.still 1 (by kernel_rfl) ?_
                replace hs := Option.bind_eq_some_iff.1 hs
                obtain ⟨q24, hk4, hs⟩ := hs
                have hcal4 := P.baizeref03_Right g1 x2 q24 hk4
                refine WP.callC hcal4 (by kernel_rfl) ?_
                rintro _ g22 st22 rfl
                replace hR1 := hR1.mono st22 (fun x => x)
                replace hR2 := hR2.mono st22 (fun x => x)
                replace tot := tot.trans st22.pure
                refine WP.still 2 (by kernel_rfl) ?_
                refine WP.done (by kernel_rfl) ?_
                refine NX.post ?_
                exact ⟨(!q24), ⟨by kernel_rfl, by kernel_rfl⟩, tot, hR1, hR2, hs⟩
            · clear tot hs hR1 hR2
              rintro tm g ⟨q4, hF, tot, hR1, hR2, hs⟩
              clear ds
              obtain ⟨ds, rfl⟩ := hF.open
              clear hF
              unfold F.baizeref35_Forfeit.c3 at hs
              refine CP.cond (b := q4) (by kernel_rfl) (fun h7 => ?_) (fun h7 => ?_)
              · replace hs := of_if_t hs h7
                refine CP.seqR ?_
                refine WP.still 2 (by kernel_rfl) ?_
                refine WP.done (by kernel_rfl) ?_
                refine NX.then_n ?_
                refine CP.ret ?_
                refine NX.then_r ?_
                replace hs := Option.some.inj hs
                obtain ⟨rfl, rfl⟩ := Prod.mk.inj hs
                exact NX.fin (v := .tuple #[.slice none 0 0, .int .i64 2]) (Res.still (by kernel_rfl)) tot htL ⟨none, 0, 0, rfl, (OwnS.nil _ _ _ _)⟩
              · replace hs := of_if_f hs h7
                refine CP.skip ?_
                refine NX.then_n ?_
                refine CP.seqR ?_
                refine WP.mkSl (kd := (Kd.int .i64)) (t := 22) (e := 3) (bytes := 8) (t + 1) [] ([] : List Int) (by kernel_rfl) (by kernel_rfl) (Nat.le_of_ble_eq_true rfl) (Nat.le_of_ble_eq_true rfl) all_nil (rfl) rfl ?_
                intro g3 a3 st3 hR3
                replace hR1 := hR1.mono st3 (fun x => x)
                replace hR2 := hR2.mono st3 (fun x => x)
                replace tot := tot.trans st3.pure
                refine WP.still 1 (by kernel_rfl) ?_
                by_cases hc1 : ([] : List Int).length + l1.length ≤ 17592186044416
                case neg => rw [if_neg hc1] at hs; cases hs
                replace hs := of_if_p hs hc1
                refine WP.append (kd := (Kd.int .i64)) (t := 22) (e := 3) (bytes := 8) (a2 := a1) (c2 := c1) hR3 hR1.src hR1.len (by kernel_rfl) (by kernel_rfl) (by omega) (by simp only [maxLen]; omega) (by omega) ?_
                intro g4 a4 c3 st4 hR4
                replace hR1 := hR1.mono st4 (WL.no1 (by omega))
                replace hR2 := hR2.mono st4 (WL.no1 (by omega))
                replace tot := tot.trans (st4.up1 (.inr (by omega)))
                refine WP.still 1 (by kernel_rfl) ?_
                refine WP.done (by kernel_rfl) ?_
                refine NX.then_n ?_
                refine CP.seqR ?_
                refine WP.still 2 (by kernel_rfl) ?_
                replace hs := Option.bind_eq_some_iff.1 hs
                obtain ⟨x5, hk3, hs⟩ := hs
                have hcal3 := P.baizeref35_Others g4 x1 l2 a2 n2 c2 hR2 x5 hk3
                refine WP.callC hcal3 (by kernel_rfl) ?_
                rintro _ g5 st5 rfl
                replace hR1 := hR1.mono st5 (fun x => x)
                replace hR2 := hR2.mono st5 (fun x => x)
                replace hR4 := hR4.mono st5 (fun x => x) (fun x => x)
                replace tot := tot.trans st5.pure
                refine WP.still 1 (by kernel_rfl) ?_
                refine WP.done (by kernel_rfl) ?_
                refine NX.then_n ?_
                refine CP.seq ?_
                refine CP.seqR ?_
                refine WP.still 2 (by kernel_rfl) ?_
                refine WP.done (by kernel_rfl) ?_
                refine NX.then_n ?_
                refine CP.cond (b := (x5 == 0)) (by kernel_rfl) (fun h8 => ?_) (fun h8 => ?_)
                · replace hs := of_if_t hs h8
                  refine CP.seqR ?_
                  refine WP.still 3 (by kernel_rfl) ?_
                  refine WP.done (by kernel_rfl) ?_
                  refine NX.then_n ?_
                  refine CP.refr 143 [(8, .slice a4 (0 + n1) c3), (9, .int .i64 0)] (by kernel_rfl) (by kernel_rfl) ?_
                  clear ds
                  intro ds
                  refine CP.ret ?_
                  refine NX.then_r ?_
                  obtain ⟨g6, hw1, st6, hnew⟩ := hR4.relab (by omega) r0
                  refine NX.regw hw1 ?_
                  replace tot := tot.trans (st6.up1 (.inr (by omega)))
                  clear hR4
                  have hR4 := hnew
                  clear hnew
                  replace hs := Option.some.inj hs
                  obtain ⟨rfl, rfl⟩ := Prod.mk.inj hs
                  exact NX.fin (v := .tuple #[.slice a4 (0 + n1) c3, .int .i64 0]) (Res.still (by kernel_rfl)) tot htL ⟨a4, (0 + n1), c3, rfl, hR4⟩
                · replace hs := of_if_f hs h8
                  refine CP.skip ?_
                  refine NX.then_n ?_
                  refine CP.cut (fun tm g => ∃ (x6 : Int), Fr 143 [(0, .slice a1 n1 c1), (1, .int .i64 x1), (2, .int .i64 x6), (3, .slice a2 n2 c2), (12, .slice a4 (0 + n1) c3), (13, .int .i64 x5)] tm ∧ Step (fun l => NoM l ∨ t ≤ l) g0 g ∧ RdS (Kd.int .i64) g 3 a1 n1 c1 l1 ∧ RdS Kd.bool g 4 a2 n2 c2 l2 ∧ OwnS (Kd.int .i64) g (t + 1) 3 a4 (0 + n1) c3 (([] : List Int) ++ l1) ∧ (F.baizeref35_Forfeit.c4 l1 x1 l2 x5 x6) = some (o1, o2)) ?_ ?_
                  · refine CP.seqR ?_
                    refine WP.still 3 (by kernel_rfl) ?_
                    by_cases hc51 : 0 ≤ x1 ∧ x1 < (l1.length : Int)
                    case neg => rw [if_neg hc51] at hs; cases hs
                    replace hs := of_if_p hs hc51
                    obtain ⟨b43, u43, ha43⟩ := hR1.at hc51
                    refine WP.indexA (t := 22) (e := 3) (sz := 1) (cap := c1) (k := .i64) (i := x1) hR1.len ha43 (by kernel_rfl) (by kernel_rfl) hc51 ?_
                    obtain ⟨cs30, hcR30, hcV30⟩ := hR1.src.view (getI_some hc51) ha43
                    replace hcR30 := Kd.o_int hcR30
                    refine WP.loadV [[.int .i64 (getI l1 x1)]] [1] hcV30 hcR30 rfl (f := 0) (ty := 3) (agg := false) (size := 1) (rs := [[.int .i64 (getI l1 x1)]]) (v := .int .i64 (getI l1 x1)) (by kernel_rfl) (by kernel_rfl) (by kernel_rfl) (by kernel_rfl) ?_
                    refine WP.still 1 (by kernel_rfl) ?_
                    refine WP.done (by kernel_rfl) ?_
                    refine NX.then_n ?_
                    refine CP.refr 143 [(0, .slice a1 n1 c1), (1, .int .i64 x1), (2, .int .i64 x2), (3, .slice a2 n2 c2), (12, .slice a4 (0 + n1) c3), (13, .int .i64 x5), (64, .bool (decide (x2 > (getI l1 x1))))] (by kernel_rfl) (by kernel_rfl) ?_
                    clear ds
                    intro ds
                    refine CP.cond (b := decide (x2 > (getI l1 x1))) (by kernel_rfl) (fun h54 => ?_) (fun h54 => ?_)
                    · replace hs := of_if_t hs h54
                      refine CP.region ?_
                      refine WP.still 2 (by kernel_rfl) ?_
                      by_cases hc52 : 0 ≤ x1 ∧ x1 < (l1.length : Int)
                      case neg => rw [if_neg hc52] at hs; cases hs
                      replace hs := of_if_p hs hc52
                      obtain ⟨b44, u44, ha44⟩ := hR1.at hc52
                      refine WP.indexA (t := 22) (e := 3) (sz := 1) (cap := c1) (k := .i64) (i := x1) hR1.len ha44 (by kernel_rfl) (by kernel_rfl) hc52 ?_
                      obtain ⟨cs31, hcR31, hcV31⟩ := hR1.src.view (getI_some hc52) ha44
                      replace hcR31 := Kd.o_int hcR31
                      refine WP.loadV [[.int .i64 (getI l1 x1)]] [1] hcV31 hcR31 rfl (f := 0) (ty := 3) (agg := false) (size := 1) (rs := [[.int .i64 (getI l1 x1)]]) (v := .int .i64 (getI l1 x1)) (by kernel_rfl) (by kernel_rfl) (by kernel_rfl) (by kernel_rfl) ?_
                      refine WP.still 1 (by kernel_rfl) ?_
                      refine WP.done (by kernel_rfl) ?_
                      refine NX.post ?_
                      exact ⟨(getI l1 x1), ⟨by kernel_rfl, by kernel_rfl⟩, tot, hR1, hR2, hR4, hs⟩
                    · replace hs := of_if_f hs h54
                      refine CP.skip ?_
                      refine NX.post ?_
                      exact ⟨x2, ⟨by kernel_rfl, by kernel_rfl⟩, tot, hR1, hR2, hR4, hs⟩
                  · clear tot hs hR1 hR2 hR4
                    rintro tm g ⟨x6, hF, tot, hR1, hR2, hR4, hs⟩
                    clear ds
                    obtain ⟨ds, rfl⟩ := hF.open
                    clear hF
                    unfold F.baizeref35_Forfeit.c4 at hs
                    refine CP.seqR ?_
                    refine WP.still 4 (by kernel_rfl) ?_
                    by_cases hc4 : 0 ≤ x1 ∧ x1 < ((([] : List Int) ++ l1).length : Int)
                    case neg => rw [if_neg hc4] at hs; cases hs
                    replace hs := of_if_p hs hc4
                    obtain ⟨b3, u3, ha3⟩ := hR4.at hc4
                    refine WP.indexA (t := 22) (e := 3) (sz := 1) (cap := c3) (k := .i64) (i := x1) hR4.len ha3 (by kernel_rfl) (by kernel_rfl) hc4 ?_
                    obtain ⟨cs3, hcR3, hcV3⟩ := hR4.src.view (getI_some hc4) ha3
                    replace hcR3 := Kd.o_int hcR3
                    refine WP.loadV [[.int .i64 (getI (([] : List Int) ++ l1) x1)]] [1] hcV3 hcR3 rfl (f := 0) (ty := 3) (agg := false) (size := 1) (rs := [[.int .i64 (getI (([] : List Int) ++ l1) x1)]]) (v := .int .i64 (getI (([] : List Int) ++ l1) x1)) (by kernel_rfl) (by kernel_rfl) (by kernel_rfl) (by kernel_rfl) ?_
                    refine WP.still 2 (by kernel_rfl) ?_
                    by_cases hc5 : 0 ≤ x1 ∧ x1 < ((([] : List Int) ++ l1).length : Int)
                    case neg => rw [if_neg hc5] at hs; cases hs
                    replace hs := of_if_p hs hc5
                    obtain ⟨b4, u4, ha4⟩ := hR4.at hc5
                    refine WP.indexA (t := 22) (e := 3) (sz := 1) (cap := c3) (k := .i64) (i := x1) hR4.len ha4 (by kernel_rfl) (by kernel_rfl) hc5 ?_
                    refine WP.storeO (ty := 3) (v := .int .i64 (IntKind.i64.wrap ((getI (([] : List Int) ++ l1) x1) - x6))) hR4 (by omega) (i := x1.toNat) (by omega) ha4 (by kernel_rfl) (x := (IntKind.i64.wrap ((getI (([] : List Int) ++ l1) x1) - x6))) (by exact rfl) (by kernel_rfl) ?_
                    intro g7 st7 hO1
                    replace hR1 := hR1.mono st7 (WL.no1 (by omega))
                    replace hR2 := hR2.mono st7 (WL.no1 (by omega))
                    replace tot := tot.trans (st7.up1 (.inr (by omega)))
                    clear hR4
                    have hR4 := hO1
                    clear hO1
                    refine WP.done (by kernel_rfl) ?_
                    refine NX.then_n ?_
                    refine CP.seq ?_
                    refine CP.seqR ?_
                    refine WP.still 1 (by kernel_rfl) ?_
                    refine WP.done (by kernel_rfl) ?_
                    refine NX.then_n ?_
                    refine CP.block ?_
                    generalize fuel = k1 at hs
                    refine CP.loop (fun k1 tm g => ∃ (l8 : List Int) (a10 : Option Addr) (n8 : Nat) (c9 : Nat) (x13 : Int), Fr 143 [(0, .slice a1 n1 c1), (1, .int .i64 x1), (2, .int .i64 x6), (3, .slice a2 n2 c2), (12, .slice a10 n8 c9), (13, .int .i64 x5), (14, .int .i64 x13)] tm ∧ Step (fun l => NoM l ∨ t ≤ l) g0 g ∧ RdS (Kd.int .i64) g 3 a1 n1 c1 l1 ∧ RdS Kd.bool g 4 a2 n2 c2 l2 ∧ OwnS (Kd.int .i64) g (t + 1) 3 a10 n8 c9 l8 ∧ F.baizeref35_Forfeit.l1 l1 x1 l2 x5 x6 k1 l8 x13 = some (o1, o2)) k1 ?_ ?_ ?_
                    · exact ⟨(setI (([] : List Int) ++ l1) x1 (IntKind.i64.wrap ((getI (([] : List Int) ++ l1) x1) - x6))), a4, (0 + n1), c3, 0, ⟨by kernel_rfl, by kernel_rfl⟩, tot, hR1, hR2, hR4, hs⟩
                    · rintro tm g ⟨l8, a10, n8, c9, x13, hF, tot, hR1, hR2, hR10, hs⟩
                      exact absurd hs (by simp [F.baizeref35_Forfeit.l1])
                    clear tot hs hR1 hR2 hR4
                    rintro k1 tm g ⟨l8, a10, n8, c9, x13, hF, tot, hR1, hR2, hR10, hs⟩
                    clear ds
                    obtain ⟨ds, rfl⟩ := hF.open
                    clear hF
                    unfold F.baizeref35_Forfeit.l1 at hs
                    refine CP.seq ?_
                    refine CP.seqR ?_
                    refine WP.still 2 (by kernel_rfl) ?_
                    refine WP.len (a := a1) (cp := c1) hR1.len (by kernel_rfl) ?_
                    refine WP.still 1 (by kernel_rfl) ?_
                    refine WP.done (by kernel_rfl) ?_
                    refine NX.then_n ?_
                    refine CP.cond (b := decide (x13 < (l1.length : Int))) (by kernel_rfl) (fun h32 => ?_) (fun h32 => ?_)
                    · replace hs := of_if_t hs h32
                      refine CP.skip ?_
                      refine NX.then_n ?_
                      refine CP.cut (fun tm g => ∃ (l15 : List Int) (a17 : Option Addr) (n15 : Nat) (c16 : Nat), Fr 143 [(0, .slice a1 n1 c1), (1, .int .i64 x1), (2, .int .i64 x6), (3, .slice a2 n2 c2), (12, .slice a17 n15 c16), (13, .int .i64 x5), (14, .int .i64 x13)] tm ∧ Step (fun l => NoM l ∨ t ≤ l) g0 g ∧ RdS (Kd.int .i64) g 3 a1 n1 c1 l1 ∧ RdS Kd.bool g 4 a2 n2 c2 l2 ∧ OwnS (Kd.int .i64) g (t + 1) 3 a17 n15 c16 l15 ∧ (F.baizeref35_Forfeit.c5 (F.baizeref35_Forfeit.l1 l1 x1 l2 x5 x6 k1) x13 l15) = some (o1, o2)) ?_ ?_
                      · refine CP.block ?_
                        refine CP.cut (fun tm g => ∃ (q16 : Bool), Fr 143 [(0, .slice a1 n1 c1), (1, .int .i64 x1), (2, .int .i64 x6), (3, .slice a2 n2 c2), (12, .slice a10 n8 c9), (13, .int .i64 x5), (14, .int .i64 x13), (93, .bool q16)] tm ∧ Step (fun l => NoM l ∨ t ≤ l) g0 g ∧ RdS (Kd.int .i64) g 3 a1 n1 c1 l1 ∧ RdS Kd.bool g 4 a2 n2 c2 l2 ∧ OwnS (Kd.int .i64) g (t + 1) 3 a10 n8 c9 l8 ∧ (F.baizeref35_Forfeit.c6 (F.baizeref35_Forfeit.l1 l1 x1 l2 x5 x6 k1) x5 x6 l8 x13 q16) = some (o1, o2)) ?_ ?_
                        · refine CP.region ?_
                          refine WP.still 4 (by kernel_rfl) ?_
                          refine WP.guard 87 (b := (x13 != x1)) (by kernel_rfl) (fun h37 => ?_) (fun h37 => ?_)
                          · replace hs := of_if_t hs h37
                            refine WP.still 2 (by kernel_rfl) ?_
                            by_cases hc36 : 0 ≤ x13 ∧ x13 < (l2.length : Int)
                            case neg => rw [if_neg hc36] at hs; cases hs
                            replace hs := of_if_p hs hc36
                            obtain ⟨b29, u29, ha29⟩ := hR2.at hc36
                            refine WP.indexA (t := 28) (e := 4) (sz := 1) (cap := c2) (k := .i64) (i := x13) hR2.len ha29 (by kernel_rfl) (by kernel_rfl) hc36 ?_
                            obtain ⟨cs20, hcR20, hcV20⟩ := hR2.src.view (getI_some hc36) ha29
                            replace hcR20 := Kd.o_bool hcR20
                            refine WP.loadV [[.bool (getI l2 x13)]] [1] hcV20 hcR20 rfl (f := 0) (ty := 4) (agg := false) (size := 1) (rs := [[.bool (getI l2 x13)]]) (v := .bool (getI l2 x13)) (by kernel_rfl) (by kernel_rfl) (by kernel_rfl) (by kernel_rfl) ?_
                            refine WP.still 2 (by kernel_rfl) ?_
                            refine WP.done (by kernel_rfl) ?_
                            refine NX.post ?_
                            exact ⟨(!(getI l2 x13)), ⟨by kernel_rfl, by kernel_rfl⟩, tot, hR1, hR2, hR10, hs⟩
                          · replace hs := of_if_f hs h37
                            refine WP.still 6 (by kernel_rfl) ?_
                            refine WP.done (by kernel_rfl) ?_
                            refine NX.post ?_
                            exact ⟨false, ⟨by kernel_rfl, by kernel_rfl⟩, tot, hR1, hR2, hR10, hs⟩
                        · clear tot hs hR1 hR2 hR10
                          rintro tm g ⟨q16, hF, tot, hR1, hR2, hR10, hs⟩
                          clear ds
                          obtain ⟨ds, rfl⟩ := hF.open
                          clear hF
                          unfold F.baizeref35_Forfeit.c6 at hs
                          refine CP.cond (b := q16) (by kernel_rfl) (fun h36 => ?_) (fun h36 => ?_)
                          · replace hs := of_if_t hs h36
                            by_cases hc33 : 0 ≤ x13 ∧ x13 < (l8.length : Int)
                            case neg => rw [if_neg hc33] at hs; cases hs
                            replace hs := of_if_p hs hc33
                            by_cases hc34 : x5 ≠ 0
                            case neg => rw [if_neg hc34] at hs; cases hs
                            replace hs := of_if_p hs hc34
                            by_cases hc35 : 0 ≤ x13 ∧ x13 < (l8.length : Int)
                            case neg => rw [if_neg hc35] at hs; cases hs
                            replace hs := of_if_p hs hc35
                            obtain ⟨b27, u27, ha27⟩ := hR10.at hc33
                            obtain ⟨b28, u28, ha28⟩ := hR10.at hc35
                            refine CP.drawL (by kernel_rfl) [4, 5, 8, 10, 11] [[], [], [], [], [2, 3], [2, 3, 4], [], [], [6, 7], [2, 3, 4, 5, 6, 7, 8], [0, 1, 2, 3, 4, 5, 6, 7, 8, 9], [0, 1, 2, 3, 4, 5, 6, 7, 8, 9, 10]] [⟨none, [0], [], fun l g => OwnS (Kd.int .i64) g (t + 1) 3 a10 n8 c9 l8⟩, ⟨some 0, [], [0], fun l g => l.getD 0 undef = .pointer (some ⟨b27, u27 + x13.toNat * 1, none⟩)⟩, ⟨some 1, [], [1], fun l g => l.getD 0 undef = .int .i64 (getI l8 x13)⟩, ⟨some 2, [], [2], fun l g => l.getD 0 undef = .int .i64 (IntKind.i64.wrap (x6.tdiv x5))⟩, ⟨some 3, [], [3], fun l g => l.getD 0 undef = .pointer (some ⟨b28, u28 + x13.toNat * 1, none⟩)⟩, ⟨some 4, [0], [], fun l g => OwnS (Kd.int .i64) g (t + 1) 3 a10 n8 c9 (setI l8 x13 (IntKind.i64.wrap ((getI l8 x13) + (IntKind.i64.wrap (x6.tdiv x5)))))⟩] [[], [], [], [], [0]] [(t + 1)] [0, 1, 2, 3, 6, 7] [9] (by kernel_rfl) (by simp <;> omega) (by simp) ⟨fun _ _ _ _ st h0 hl hj hR10 => (hR10.mono st h0 (hj 0 (by simp) _ rfl)), fun _ _ _ _ st h0 hl hj e => e, fun _ _ _ _ st h0 hl hj e => e, fun _ _ _ _ st h0 hl hj e => e, fun _ _ _ _ st h0 hl hj e => e, fun _ _ _ _ st h0 hl hj hR10 => (hR10.mono st h0 (hj 0 (by simp) _ rfl)), trivial⟩ ⟨hR10, trivial, trivial, trivial, trivial, trivial, trivial⟩ (by kernel_rfl) (fun vs => by kernel_rfl) ?_ ?_ ?_
                            · intro j hj
                              have hq : j = 0 := by have h : j < 1 := hj; omega
                              rcases hq with rfl
                              · intro vs g1 st1 hl hf
                                replace hl : vs.length = 5 := hl
                                obtain ⟨v0, vs0, rfl, hl0⟩ := len_succ hl
                                obtain ⟨v1, vs1, rfl, hl1⟩ := len_succ hl0
                                obtain ⟨v2, vs2, rfl, hl2⟩ := len_succ hl1
                                obtain ⟨v3, vs3, rfl, hl3⟩ := len_succ hl2
                                obtain ⟨v4, vs4, rfl, hl4⟩ := len_succ hl3
                                obtain rfl := len_zero hl4
                                have e := (show v1 = .int .i64 (getI l8 x13) from hf _ (List.mem_of_getElem? (i := 2) rfl) (by kernel_rfl))
                                subst e
                                have e := (show v2 = .int .i64 (IntKind.i64.wrap (x6.tdiv x5)) from hf _ (List.mem_of_getElem? (i := 3) rfl) (by kernel_rfl))
                                subst e
                                show Option.isSome _ = true
                                kernel_rfl
                            · intro j hj
                              have hq : j = 0 ∨ j = 1 ∨ j = 2 ∨ j = 3 ∨ j = 4 := by have h : j < 5 := hj; omega
                              rcases hq with rfl | rfl | rfl | rfl | rfl
                              · intro vs g1 st1 hl hf
                                replace hl : vs.length = 5 := hl
                                obtain ⟨v0, vs0, rfl, hl0⟩ := len_succ hl
                                obtain ⟨v1, vs1, rfl, hl1⟩ := len_succ hl0
                                obtain ⟨v2, vs2, rfl, hl2⟩ := len_succ hl1
                                obtain ⟨v3, vs3, rfl, hl3⟩ := len_succ hl2
                                obtain ⟨v4, vs4, rfl, hl4⟩ := len_succ hl3
                                obtain rfl := len_zero hl4
                                have hR10 := (show OwnS (Kd.int .i64) g1 (t + 1) 3 a10 n8 c9 l8 from hf _ (List.mem_of_getElem? (i := 0) rfl) (by kernel_rfl))
                                refine WP.indexA (t := 22) (e := 3) (sz := 1) (cap := c9) (k := .i64) (i := x13) hR10.len ha27 (by kernel_rfl) (by kernel_rfl) hc33 ?_
                                refine WP.done (by kernel_rfl) (Shown.ok (v := .pointer (some ⟨b27, u27 + x13.toNat * 1, none⟩)) (by kernel_rfl) (Step.refl _ _) ?_)
                                exact ⟨trivial, rfl, trivial, trivial, trivial, trivial, trivial⟩
                              · intro vs g1 st1 hl hf
                                replace hl : vs.length = 5 := hl
                                obtain ⟨v0, vs0, rfl, hl0⟩ := len_succ hl
                                obtain ⟨v1, vs1, rfl, hl1⟩ := len_succ hl0
                                obtain ⟨v2, vs2, rfl, hl2⟩ := len_succ hl1
                                obtain ⟨v3, vs3, rfl, hl3⟩ := len_succ hl2
                                obtain ⟨v4, vs4, rfl, hl4⟩ := len_succ hl3
                                obtain rfl := len_zero hl4
                                have hR10 := (show OwnS (Kd.int .i64) g1 (t + 1) 3 a10 n8 c9 l8 from hf _ (List.mem_of_getElem? (i := 0) rfl) (by kernel_rfl))
                                have e := (show v0 = .pointer (some ⟨b27, u27 + x13.toNat * 1, none⟩) from hf _ (List.mem_of_getElem? (i := 1) rfl) (by kernel_rfl))
                                subst e
                                obtain ⟨cs19, hcR19, hcV19⟩ := hR10.src.view (getI_some hc33) ha27
                                replace hcR19 := Kd.o_int hcR19
                                refine WP.loadV [[.int .i64 (getI l8 x13)]] [1] hcV19 hcR19 rfl (f := 0) (ty := 3) (agg := false) (size := 1) (rs := [[.int .i64 (getI l8 x13)]]) (v := .int .i64 (getI l8 x13)) (by kernel_rfl) (by kernel_rfl) (by kernel_rfl) (by kernel_rfl) ?_
                                refine WP.done (by kernel_rfl) (Shown.ok (v := .int .i64 (getI l8 x13)) (by kernel_rfl) (Step.refl _ _) ?_)
                                exact ⟨trivial, trivial, rfl, trivial, trivial, trivial, trivial⟩
                              · intro vs g1 st1 hl hf
                                replace hl : vs.length = 5 := hl
                                obtain ⟨v0, vs0, rfl, hl0⟩ := len_succ hl
                                obtain ⟨v1, vs1, rfl, hl1⟩ := len_succ hl0
                                obtain ⟨v2, vs2, rfl, hl2⟩ := len_succ hl1
                                obtain ⟨v3, vs3, rfl, hl3⟩ := len_succ hl2
                                obtain ⟨v4, vs4, rfl, hl4⟩ := len_succ hl3
                                obtain rfl := len_zero hl4
                                refine WP.quo (k := .i64) (x := x6) (y := x5) (by kernel_rfl) hc34 ?_
                                refine WP.done (by kernel_rfl) (Shown.ok (v := .int .i64 (IntKind.i64.wrap (x6.tdiv x5))) (by kernel_rfl) (Step.refl _ _) ?_)
                                exact ⟨trivial, trivial, trivial, rfl, trivial, trivial, trivial⟩
                              · intro vs g1 st1 hl hf
                                replace hl : vs.length = 5 := hl
                                obtain ⟨v0, vs0, rfl, hl0⟩ := len_succ hl
                                obtain ⟨v1, vs1, rfl, hl1⟩ := len_succ hl0
                                obtain ⟨v2, vs2, rfl, hl2⟩ := len_succ hl1
                                obtain ⟨v3, vs3, rfl, hl3⟩ := len_succ hl2
                                obtain ⟨v4, vs4, rfl, hl4⟩ := len_succ hl3
                                obtain rfl := len_zero hl4
                                have hR10 := (show OwnS (Kd.int .i64) g1 (t + 1) 3 a10 n8 c9 l8 from hf _ (List.mem_of_getElem? (i := 0) rfl) (by kernel_rfl))
                                refine WP.indexA (t := 22) (e := 3) (sz := 1) (cap := c9) (k := .i64) (i := x13) hR10.len ha28 (by kernel_rfl) (by kernel_rfl) hc35 ?_
                                refine WP.done (by kernel_rfl) (Shown.ok (v := .pointer (some ⟨b28, u28 + x13.toNat * 1, none⟩)) (by kernel_rfl) (Step.refl _ _) ?_)
                                exact ⟨trivial, trivial, trivial, trivial, rfl, trivial, trivial⟩
                              · intro vs g1 st1 hl hf
                                replace hl : vs.length = 5 := hl
                                obtain ⟨v0, vs0, rfl, hl0⟩ := len_succ hl
                                obtain ⟨v1, vs1, rfl, hl1⟩ := len_succ hl0
                                obtain ⟨v2, vs2, rfl, hl2⟩ := len_succ hl1
                                obtain ⟨v3, vs3, rfl, hl3⟩ := len_succ hl2
                                obtain ⟨v4, vs4, rfl, hl4⟩ := len_succ hl3
                                obtain rfl := len_zero hl4
                                have hR10 := (show OwnS (Kd.int .i64) g1 (t + 1) 3 a10 n8 c9 l8 from hf _ (List.mem_of_getElem? (i := 0) rfl) (by kernel_rfl))
                                have e := (show v1 = .int .i64 (getI l8 x13) from hf _ (List.mem_of_getElem? (i := 2) rfl) (by kernel_rfl))
                                subst e
                                have e := (show v2 = .int .i64 (IntKind.i64.wrap (x6.tdiv x5)) from hf _ (List.mem_of_getElem? (i := 3) rfl) (by kernel_rfl))
                                subst e
                                have e := (show v3 = .pointer (some ⟨b28, u28 + x13.toNat * 1, none⟩) from hf _ (List.mem_of_getElem? (i := 4) rfl) (by kernel_rfl))
                                subst e
                                refine WP.storeO (ty := 3) (v := .int .i64 (IntKind.i64.wrap ((getI l8 x13) + (IntKind.i64.wrap (x6.tdiv x5))))) hR10 (by omega) (i := x13.toNat) (by omega) ha28 (by kernel_rfl) (x := (IntKind.i64.wrap ((getI l8 x13) + (IntKind.i64.wrap (x6.tdiv x5))))) (by exact rfl) (by kernel_rfl) ?_
                                intro g15 st15 hO9
                                refine WP.done (by kernel_rfl) (Shown.ok (v := undef) (by kernel_rfl) st15 ?_)
                                exact ⟨trivial, trivial, trivial, trivial, trivial, hO9, trivial⟩
                            · intro vs g16 st16 hl hf
                              replace hl : vs.length = 5 := hl
                              obtain ⟨v0, vs0, rfl, hl0⟩ := len_succ hl
                              obtain ⟨v1, vs1, rfl, hl1⟩ := len_succ hl0
                              obtain ⟨v2, vs2, rfl, hl2⟩ := len_succ hl1
                              obtain ⟨v3, vs3, rfl, hl3⟩ := len_succ hl2
                              obtain ⟨v4, vs4, rfl, hl4⟩ := len_succ hl3
                              obtain rfl := len_zero hl4
                              have hR10 := (show OwnS (Kd.int .i64) g16 (t + 1) 3 a10 n8 c9 (setI l8 x13 (IntKind.i64.wrap ((getI l8 x13) + (IntKind.i64.wrap (x6.tdiv x5))))) from hf _ (List.mem_of_getElem? (i := 5) rfl) (by kernel_rfl))
                              replace hR1 := hR1.mono st16 (WL.no1 (by omega))
                              replace hR2 := hR2.mono st16 (WL.no1 (by omega))
                              replace tot := tot.trans (st16.up1 (.inr (by omega)))
                              refine NX.block_n ?_
                              refine NX.post ?_
                              exact ⟨(setI l8 x13 (IntKind.i64.wrap ((getI l8 x13) + (IntKind.i64.wrap (x6.tdiv x5))))), a10, n8, c9, ⟨by kernel_rfl, by kernel_rfl⟩, tot, hR1, hR2, hR10, hs⟩
                          · replace hs := of_if_f hs h36
                            refine CP.skip ?_
                            refine NX.block_n ?_
                            refine NX.post ?_
                            exact ⟨l8, a10, n8, c9, ⟨by kernel_rfl, by kernel_rfl⟩, tot, hR1, hR2, hR10, hs⟩
                      · clear tot hs hR1 hR2 hR10
                        rintro tm g ⟨l15, a17, n15, c16, hF, tot, hR1, hR2, hR17, hs⟩
                        clear ds
                        obtain ⟨ds, rfl⟩ := hF.open
                        clear hF
                        unfold F.baizeref35_Forfeit.c5 at hs
                        refine CP.region ?_
                        refine WP.still 3 (by kernel_rfl) ?_
                        refine WP.done (by kernel_rfl) ?_
                        refine NX.post ?_
                        exact ⟨l15, a17, n15, c16, (IntKind.i64.wrap (x13 + 1)), ⟨by kernel_rfl, by kernel_rfl⟩, tot, hR1, hR2, hR17, hs⟩
                    · replace hs := of_if_f hs h32
                      refine CP.exit ?_
                      refine NX.then_e ?_
                      refine NX.then_e ?_
                      refine NX.block_s ?_
                      refine NX.then_n ?_
                      refine CP.seqR ?_
                      refine WP.still 3 (by kernel_rfl) ?_
                      by_cases hc37 : x5 ≠ 0
                      case neg => rw [if_neg hc37] at hs; cases hs
                      replace hs := of_if_p hs hc37
                      refine WP.quo (k := .i64) (x := x6) (y := x5) (by kernel_rfl) hc37 ?_
                      refine WP.still 4 (by kernel_rfl) ?_
                      refine WP.done (by kernel_rfl) ?_
                      refine NX.then_n ?_
                      refine CP.seq ?_
                      refine CP.seqR ?_
                      refine WP.still 1 (by kernel_rfl) ?_
                      refine WP.done (by kernel_rfl) ?_
                      refine NX.then_n ?_
                      refine CP.refr 143 [(0, .slice a1 n1 c1), (1, .int .i64 x1), (3, .slice a2 n2 c2), (12, .slice a10 n8 c9), (15, .int .i64 (IntKind.i64.wrap (x6 - (IntKind.i64.wrap ((IntKind.i64.wrap (x6.tdiv x5)) * x5))))), (16, .int .i64 0)] (by kernel_rfl) (by kernel_rfl) ?_
                      clear ds
                      intro ds
                      refine CP.block ?_
                      generalize fuel = k2 at hs
                      refine CP.loop (fun k2 tm g => ∃ (l17 : List Int) (a19 : Option Addr) (n17 : Nat) (c18 : Nat) (x22 : Int) (x23 : Int), Fr 143 [(0, .slice a1 n1 c1), (1, .int .i64 x1), (3, .slice a2 n2 c2), (12, .slice a19 n17 c18), (15, .int .i64 x22), (16, .int .i64 x23)] tm ∧ Step (fun l => NoM l ∨ t ≤ l) g0 g ∧ RdS (Kd.int .i64) g 3 a1 n1 c1 l1 ∧ RdS Kd.bool g 4 a2 n2 c2 l2 ∧ OwnS (Kd.int .i64) g (t + 1) 3 a19 n17 c18 l17 ∧ F.baizeref35_Forfeit.l2 l1 x1 l2 k2 l17 x22 x23 = some (o1, o2)) k2 ?_ ?_ ?_
                      · exact ⟨l8, a10, n8, c9, (IntKind.i64.wrap (x6 - (IntKind.i64.wrap ((IntKind.i64.wrap (x6.tdiv x5)) * x5)))), 0, ⟨by kernel_rfl, by kernel_rfl⟩, tot, hR1, hR2, hR10, hs⟩
                      · rintro tm g ⟨l17, a19, n17, c18, x22, x23, hF, tot, hR1, hR2, hR19, hs⟩
                        exact absurd hs (by simp [F.baizeref35_Forfeit.l2])
                      clear tot hs hR1 hR2 hR10
                      rintro k2 tm g ⟨l17, a19, n17, c18, x22, x23, hF, tot, hR1, hR2, hR19, hs⟩
                      clear ds
                      obtain ⟨ds, rfl⟩ := hF.open
                      clear hF
                      unfold F.baizeref35_Forfeit.l2 at hs
                      refine CP.seq ?_
                      refine CP.cut (fun tm g => ∃ (q21 : Bool), Fr 143 [(0, .slice a1 n1 c1), (1, .int .i64 x1), (3, .slice a2 n2 c2), (12, .slice a19 n17 c18), (15, .int .i64 x22), (16, .int .i64 x23), (119, .bool q21)] tm ∧ Step (fun l => NoM l ∨ t ≤ l) g0 g ∧ RdS (Kd.int .i64) g 3 a1 n1 c1 l1 ∧ RdS Kd.bool g 4 a2 n2 c2 l2 ∧ OwnS (Kd.int .i64) g (t + 1) 3 a19 n17 c18 l17 ∧ (F.baizeref35_Forfeit.c7 (F.baizeref35_Forfeit.l2 l1 x1 l2 k2) x1 l2 l17 x22 x23 q21) = some (o1, o2)) ?_ ?_
                      · refine CP.region ?_
                        refine WP.still 2 (by kernel_rfl) ?_
                        refine WP.len (a := a1) (cp := c1) hR1.len (by kernel_rfl) ?_
                        refine WP.still 2 (by kernel_rfl) ?_
                        refine WP.guard 116 (b := decide (x23 < (l1.length : Int))) (by kernel_rfl) (fun h53 => ?_) (fun h53 => ?_)
                        · replace hs := of_if_t hs h53
                          refine WP.still 3 (by kernel_rfl) ?_
                          refine WP.done (by kernel_rfl) ?_
                          refine NX.post ?_
                          exact ⟨decide (x22 > 0), ⟨by kernel_rfl, by kernel_rfl⟩, tot, hR1, hR2, hR19, hs⟩
                        · replace hs := of_if_f hs h53
                          refine WP.still 3 (by kernel_rfl) ?_
                          refine WP.done (by kernel_rfl) ?_
                          refine NX.post ?_
                          exact ⟨false, ⟨by kernel_rfl, by kernel_rfl⟩, tot, hR1, hR2, hR19, hs⟩
                      · clear tot hs hR1 hR2 hR19
                        rintro tm g ⟨q21, hF, tot, hR1, hR2, hR19, hs⟩
                        clear ds
                        obtain ⟨ds, rfl⟩ := hF.open
                        clear hF
                        unfold F.baizeref35_Forfeit.c7 at hs
                        refine CP.cond (b := q21) (by kernel_rfl) (fun h47 => ?_) (fun h47 => ?_)
                        · replace hs := of_if_t hs h47
                          refine CP.skip ?_
                          refine NX.then_n ?_
                          refine CP.cut (fun tm g => ∃ (l20 : List Int) (a22 : Option Addr) (n20 : Nat) (c21 : Nat) (x27 : Int), Fr 143 [(0, .slice a1 n1 c1), (1, .int .i64 x1), (3, .slice a2 n2 c2), (12, .slice a22 n20 c21), (15, .int .i64 x27), (16, .int .i64 x23)] tm ∧ Step (fun l => NoM l ∨ t ≤ l) g0 g ∧ RdS (Kd.int .i64) g 3 a1 n1 c1 l1 ∧ RdS Kd.bool g 4 a2 n2 c2 l2 ∧ OwnS (Kd.int .i64) g (t + 1) 3 a22 n20 c21 l20 ∧ (F.baizeref35_Forfeit.c8 (F.baizeref35_Forfeit.l2 l1 x1 l2 k2) x23 l20 x27) = some (o1, o2)) ?_ ?_
                          · refine CP.block ?_
                            refine CP.cut (fun tm g => ∃ (q23 : Bool), Fr 143 [(0, .slice a1 n1 c1), (1, .int .i64 x1), (3, .slice a2 n2 c2), (12, .slice a19 n17 c18), (15, .int .i64 x22), (16, .int .i64 x23), (131, .bool q23)] tm ∧ Step (fun l => NoM l ∨ t ≤ l) g0 g ∧ RdS (Kd.int .i64) g 3 a1 n1 c1 l1 ∧ RdS Kd.bool g 4 a2 n2 c2 l2 ∧ OwnS (Kd.int .i64) g (t + 1) 3 a19 n17 c18 l17 ∧ (F.baizeref35_Forfeit.c9 (F.baizeref35_Forfeit.l2 l1 x1 l2 k2) l17 x22 x23 q23) = some (o1, o2)) ?_ ?_
                            · refine CP.region ?_
                              refine WP.still 4 (by kernel_rfl) ?_
                              refine WP.guard 125 (b := (x23 != x1)) (by kernel_rfl) (fun h52 => ?_) (fun h52 => ?_)
                              · replace hs := of_if_t hs h52
                                refine WP.still 2 (by kernel_rfl) ?_
                                by_cases hc50 : 0 ≤ x23 ∧ x23 < (l2.length : Int)
                                case neg => rw [if_neg hc50] at hs; cases hs
                                replace hs := of_if_p hs hc50
                                obtain ⟨b42, u42, ha42⟩ := hR2.at hc50
                                refine WP.indexA (t := 28) (e := 4) (sz := 1) (cap := c2) (k := .i64) (i := x23) hR2.len ha42 (by kernel_rfl) (by kernel_rfl) hc50 ?_
                                obtain ⟨cs29, hcR29, hcV29⟩ := hR2.src.view (getI_some hc50) ha42
                                replace hcR29 := Kd.o_bool hcR29
                                refine WP.loadV [[.bool (getI l2 x23)]] [1] hcV29 hcR29 rfl (f := 0) (ty := 4) (agg := false) (size := 1) (rs := [[.bool (getI l2 x23)]]) (v := .bool (getI l2 x23)) (by kernel_rfl) (by kernel_rfl) (by kernel_rfl) (by kernel_rfl) ?_
                                refine WP.still 2 (by kernel_rfl) ?_
                                refine WP.done (by kernel_rfl) ?_
                                refine NX.post ?_
                                exact ⟨(!(getI l2 x23)), ⟨by kernel_rfl, by kernel_rfl⟩, tot, hR1, hR2, hR19, hs⟩
                              · replace hs := of_if_f hs h52
                                refine WP.still 6 (by kernel_rfl) ?_
                                refine WP.done (by kernel_rfl) ?_
                                refine NX.post ?_
                                exact ⟨false, ⟨by kernel_rfl, by kernel_rfl⟩, tot, hR1, hR2, hR19, hs⟩
                            · clear tot hs hR1 hR2 hR19
                              rintro tm g ⟨q23, hF, tot, hR1, hR2, hR19, hs⟩
                              clear ds
                              obtain ⟨ds, rfl⟩ := hF.open
                              clear hF
                              unfold F.baizeref35_Forfeit.c9 at hs
                              refine CP.cond (b := q23) (by kernel_rfl) (fun h51 => ?_) (fun h51 => ?_)
                              · replace hs := of_if_t hs h51
                                refine CP.seqR ?_
                                refine WP.still 4 (by kernel_rfl) ?_
                                by_cases hc48 : 0 ≤ x23 ∧ x23 < (l17.length : Int)
                                case neg => rw [if_neg hc48] at hs; cases hs
                                replace hs := of_if_p hs hc48
                                obtain ⟨b40, u40, ha40⟩ := hR19.at hc48
                                refine WP.indexA (t := 22) (e := 3) (sz := 1) (cap := c18) (k := .i64) (i := x23) hR19.len ha40 (by kernel_rfl) (by kernel_rfl) hc48 ?_
                                obtain ⟨cs28, hcR28, hcV28⟩ := hR19.src.view (getI_some hc48) ha40
                                replace hcR28 := Kd.o_int hcR28
                                refine WP.loadV [[.int .i64 (getI l17 x23)]] [1] hcV28 hcR28 rfl (f := 0) (ty := 3) (agg := false) (size := 1) (rs := [[.int .i64 (getI l17 x23)]]) (v := .int .i64 (getI l17 x23)) (by kernel_rfl) (by kernel_rfl) (by kernel_rfl) (by kernel_rfl) ?_
                                refine WP.still 1 (by kernel_rfl) ?_
                                by_cases hc49 : 0 ≤ x23 ∧ x23 < (l17.length : Int)
                                case neg => rw [if_neg hc49] at hs; cases hs
                                replace hs := of_if_p hs hc49
                                obtain ⟨b41, u41, ha41⟩ := hR19.at hc49
                                refine WP.indexA (t := 22) (e := 3) (sz := 1) (cap := c18) (k := .i64) (i := x23) hR19.len ha41 (by kernel_rfl) (by kernel_rfl) hc49 ?_
                                refine WP.storeO (ty := 3) (v := .int .i64 (IntKind.i64.wrap ((getI l17 x23) + 1))) hR19 (by omega) (i := x23.toNat) (by omega) ha41 (by kernel_rfl) (x := (IntKind.i64.wrap ((getI l17 x23) + 1))) (by exact rfl) (by kernel_rfl) ?_
                                intro g20 st20 hO13
                                replace hR1 := hR1.mono st20 (WL.no1 (by omega))
                                replace hR2 := hR2.mono st20 (WL.no1 (by omega))
                                replace tot := tot.trans (st20.up1 (.inr (by omega)))
                                clear hR19
                                have hR19 := hO13
                                clear hO13
                                refine WP.done (by kernel_rfl) ?_
                                refine NX.then_n ?_
                                refine CP.region ?_
                                refine WP.still 3 (by kernel_rfl) ?_
                                refine WP.done (by kernel_rfl) ?_
                                refine NX.block_n ?_
                                refine NX.post ?_
                                exact ⟨(setI l17 x23 (IntKind.i64.wrap ((getI l17 x23) + 1))), a19, n17, c18, (IntKind.i64.wrap (x22 - 1)), ⟨by kernel_rfl, by kernel_rfl⟩, tot, hR1, hR2, hR19, hs⟩
                              · replace hs := of_if_f hs h51
                                refine CP.skip ?_
                                refine NX.block_n ?_
                                refine NX.post ?_
                                exact ⟨l17, a19, n17, c18, x22, ⟨by kernel_rfl, by kernel_rfl⟩, tot, hR1, hR2, hR19, hs⟩
                          · clear tot hs hR1 hR2 hR19
                            rintro tm g ⟨l20, a22, n20, c21, x27, hF, tot, hR1, hR2, hR22, hs⟩
                            clear ds
                            obtain ⟨ds, rfl⟩ := hF.open
                            clear hF
                            unfold F.baizeref35_Forfeit.c8 at hs
                            refine CP.region ?_
                            refine WP.still 3 (by kernel_rfl) ?_
                            refine WP.done (by kernel_rfl) ?_
                            refine NX.post ?_
                            exact ⟨l20, a22, n20, c21, x27, (IntKind.i64.wrap (x23 + 1)), ⟨by kernel_rfl, by kernel_rfl⟩, tot, hR1, hR2, hR22, hs⟩
                        · replace hs := of_if_f hs h47
                          refine CP.exit ?_
                          refine NX.then_e ?_
                          refine NX.then_e ?_
                          refine NX.block_s ?_
                          refine NX.then_n ?_
                          refine CP.seqR ?_
                          refine WP.still 3 (by kernel_rfl) ?_
                          refine WP.done (by kernel_rfl) ?_
                          refine NX.then_n ?_
                          refine CP.ret ?_
                          obtain ⟨g21, hw2, st21, hnew⟩ := hR19.relab (by omega) r0
                          refine NX.regw hw2 ?_
                          replace tot := tot.trans (st21.up1 (.inr (by omega)))
                          clear hR19
                          have hR19 := hnew
                          clear hnew
                          replace hs := Option.some.inj hs
                          obtain ⟨rfl, rfl⟩ := Prod.mk.inj hs
                          exact NX.fin (v := .tuple #[.slice a19 n17 c18, .int .i64 0]) (Res.still (by kernel_rfl)) tot htL ⟨a19, n17, c18, rfl, hR19⟩
end Go.Proofs.Ytahpmlekenbafaa
