/-
  Walks, written by program: each Go function computes the plain function of its name, in whatever world its arguments' facts hold.
-/
import Derived.Test.YtahpmlekenbafaaWClose1
namespace Go.Proofs.Ytahpmlekenbafaa
open Go.RowKit Go.Lab
attribute [local irreducible] WP CP NX wpList Code.wp Calls
set_option maxRecDepth 100000
set_option maxHeartbeats 4000000
set_option linter.unusedVariables false

def F.baizelaw35_CloseForfeits.c2 (q5 : Bool) : Option (Bool) := (some q5)
def F.baizelaw35_CloseForfeits.c1 (l1 : List Int) (x1 : Int) (x2 : Int) (l2 : List Bool) (q1 : Bool) : Option (Bool) := (if q1 = true then ((F.baizelaw35_told).bind fun q2 => (some q2)) else ((F.close_Forfeit l1 x1 x2 l2).bind fun (l3, x3) => ((F.baizeref35_Forfeit l1 x1 x2 l2).bind fun (l4, x4) => (if (x3 == x4) = true then ((F.baizeref03_Alike l3 l4).bind fun q6 => (if q6 = true then ((F.baizelaw35_told).bind fun q7 => (F.baizelaw35_CloseForfeits.c2 q7)) else (F.baizelaw35_CloseForfeits.c2 false))) else (F.baizelaw35_CloseForfeits.c2 false)))))
def F.baizelaw35_CloseForfeits (l1 : List Int) (x1 : Int) (x2 : Int) (l2 : List Bool) : Option (Bool) := (if decide ((l1.length : Int) > 10) = true then (F.baizelaw35_CloseForfeits.c1 l1 x1 x2 l2 true) else (F.baizelaw35_CloseForfeits.c1 l1 x1 x2 l2 (decide ((l2.length : Int) > 10))))
theorem P.baizelaw35_CloseForfeits (g0 : GW) (l1 : List Int) (x1 : Int) (x2 : Int) (l2 : List Bool) (a1 : Option Addr) (n1 : Nat) (c1 : Nat) (a2 : Option Addr) (n2 : Nat) (c2 : Nat) (hR1 : RdS (Kd.int .i64) g0 3 a1 n1 c1 l1) (hR2 : RdS Kd.bool g0 4 a2 n2 c2 l2) (o1 : Bool) (hs : F.baizelaw35_CloseForfeits l1 x1 x2 l2 = some o1) :
    Calls Try.prog 4 #[.slice a1 n1 c1, AG [[.int .i64 x1], [.int .i64 x2], [.slice a2 n2 c2]]] g0.w (Ret NoM g0 fun v g => v = .bool o1) := by
  refine calls_of (args := [.slice a1 n1 c1, AG [[.int .i64 x1], [.int .i64 x2], [.slice a2 n2 c2]]]) Try.func4 rfl (0) ?_
  intro t ht htL
  refine ⟨_, rfl, ?_⟩
  refine CP.refr 52 [(0, .slice a1 n1 c1), (1, AG [[.int .i64 x1], [.int .i64 x2], [.slice a2 n2 c2]])] (by kernel_rfl) (by kernel_rfl) ?_
  intro ds
  have tot : Step (fun l => NoM l ∨ t ≤ l) g0 g0 := Step.refl _ _
  unfold F.baizelaw35_CloseForfeits at hs
  refine CP.seqR ?_
  refine WP.alloc (T := 30) (t + 1) [[.int .i64 x1], [.int .i64 x2], [.slice a2 n2 c2]] [1, 1, 1] (by kernel_rfl) rfl ?_
  intro g1 b1 st1 hB1
  replace hR1 := hR1.mono st1 (fun x => x)
  replace hR2 := hR2.mono st1 (fun x => x)
  replace tot := tot.trans st1.pure
  refine WP.still 1 (by kernel_rfl) ?_
  refine WP.done (by kernel_rfl) ?_
  refine NX.then_n ?_
  refine CP.seq ?_
  refine CP.cut (fun tm g => ∃ (q1 : Bool), Fr 52 [(0, .slice a1 n1 c1), (3, .pointer (some ⟨b1, 0, none⟩)), (17, .bool q1)] tm ∧ Step (fun l => NoM l ∨ t ≤ l) g0 g ∧ RdS (Kd.int .i64) g 3 a1 n1 c1 l1 ∧ Box g (t + 1) b1 30 [[.int .i64 x1], [.int .i64 x2], [.slice a2 n2 c2]] [1, 1, 1] ∧ RdS Kd.bool g 4 a2 n2 c2 l2 ∧ (F.baizelaw35_CloseForfeits.c1 l1 x1 x2 l2 q1) = some o1) ?_ ?_
  · refine CP.region ?_
    refine WP.still 1 (by kernel_rfl) ?_
    refine WP.len (a := a1) (cp := c1) hR1.len (by kernel_rfl) ?_
    refine WP.still 2 (by kernel_rfl) ?_
    refine WP.guard 12 (b := decide ((l1.length : Int) > 10)) (by kernel_rfl) (fun h7 => ?_) (fun h7 => ?_)
    · replace hs := of_if_t hs h7
      refine WP.still 5 (by kernel_rfl) ?_
      refine WP.done (by kernel_rfl) ?_
      refine NX.post ?_
      exact ⟨true, ⟨by kernel_rfl, by kernel_rfl⟩, tot, hR1, hB1, hR2, hs⟩
    · replace hs := of_if_f hs h7
      refine WP.still 1 (by kernel_rfl) ?_
      refine WP.loadB (v := .slice a2 n2 c2) hB1 (by kernel_rfl) (by kernel_rfl) ?_
      refine WP.len (a := a2) (cp := c2) hR2.len (by kernel_rfl) ?_
      refine WP.still 2 (by kernel_rfl) ?_
      refine WP.done (by kernel_rfl) ?_
      refine NX.post ?_
      exact ⟨decide ((l2.length : Int) > 10), ⟨by kernel_rfl, by kernel_rfl⟩, tot, hR1, hB1, hR2, hs⟩
  · clear tot hs hR1 hB1 hR2
    rintro tm g ⟨q1, hF, tot, hR1, hB1, hR2, hs⟩
    clear ds
    obtain ⟨ds, rfl⟩ := hF.open
    clear hF
    unfold F.baizelaw35_CloseForfeits.c1 at hs
    refine CP.cond (b := q1) (by kernel_rfl) (fun h2 => ?_) (fun h2 => ?_)
    · replace hs := of_if_t hs h2
      refine CP.seqR ?_
      replace hs := Option.bind_eq_some_iff.1 hs
      obtain ⟨q2, hk1, hs⟩ := hs
      have hcal1 := P.baizelaw35_told g q2 hk1
      refine WP.callC hcal1 (by kernel_rfl) ?_
      rintro _ g2 st2 rfl
      replace hR1 := hR1.mono st2 (fun x => x)
      replace hB1 := hB1.mono st2 (fun x => x)
      replace hR2 := hR2.mono st2 (fun x => x)
      replace tot := tot.trans st2.pure
      refine WP.still 1 (by kernel_rfl) ?_
      refine WP.done (by kernel_rfl) ?_
      refine NX.then_n ?_
      refine CP.ret ?_
      refine NX.then_r ?_
      replace hs := Option.some.inj hs
      obtain rfl := hs
      exact NX.fin (v := .bool q2) (Res.still (by kernel_rfl)) tot htL rfl
    · replace hs := of_if_f hs h2
      refine CP.skip ?_
      refine NX.then_n ?_
      refine CP.seqR ?_
      refine WP.still 2 (by kernel_rfl) ?_
      refine WP.loadB (v := .int .i64 x1) hB1 (by kernel_rfl) (by kernel_rfl) ?_
      refine WP.still 1 (by kernel_rfl) ?_
      refine WP.loadB (v := .int .i64 x2) hB1 (by kernel_rfl) (by kernel_rfl) ?_
      refine WP.still 1 (by kernel_rfl) ?_
      refine WP.loadB (v := .slice a2 n2 c2) hB1 (by kernel_rfl) (by kernel_rfl) ?_
      replace hs := Option.bind_eq_some_iff.1 hs
      obtain ⟨⟨l3, x3⟩, hk2, hs⟩ := hs
      dsimp only at hs
      have hcal2 := P.close_Forfeit g (t + 2) l1 x1 x2 l2 a1 n1 c1 a2 n2 c2 hR1 hR2 l3 x3 hk2
      refine WP.callC hcal2 (by kernel_rfl) ?_
      rintro _ g3 st3 ⟨a3, n3, c3, rfl, hR3⟩
      replace hR1 := hR1.mono st3 (fun x => x)
      replace hB1 := hB1.mono st3 (fun x => x)
      replace hR2 := hR2.mono st3 (fun x => x)
      replace tot := tot.trans st3.pure
      refine WP.still 5 (by kernel_rfl) ?_
      refine WP.done (by kernel_rfl) ?_
      refine NX.then_n ?_
      refine CP.refr 52 [(0, .slice a1 n1 c1), (3, .pointer (some ⟨b1, 0, none⟩)), (5, .slice a3 n3 c3), (6, .int .i64 x3)] (by kernel_rfl) (by kernel_rfl) ?_
      clear ds
      intro ds
      refine CP.seqR ?_
      refine WP.still 2 (by kernel_rfl) ?_
      refine WP.loadB (v := .int .i64 x1) hB1 (by kernel_rfl) (by kernel_rfl) ?_
      refine WP.still 1 (by kernel_rfl) ?_
      refine WP.loadB (v := .int .i64 x2) hB1 (by kernel_rfl) (by kernel_rfl) ?_
      refine WP.still 1 (by kernel_rfl) ?_
      refine WP.loadB (v := .slice a2 n2 c2) hB1 (by kernel_rfl) (by kernel_rfl) ?_
      replace hs := Option.bind_eq_some_iff.1 hs
      obtain ⟨⟨l4, x4⟩, hk3, hs⟩ := hs
      dsimp only at hs
      have hcal3 := P.baizeref35_Forfeit g3 (t + 3) l1 x1 x2 l2 a1 n1 c1 a2 n2 c2 hR1 hR2 l4 x4 hk3
      refine WP.callC hcal3 (by kernel_rfl) ?_
      rintro _ g4 st4 ⟨a4, n4, c4, rfl, hR4⟩
      replace hR1 := hR1.mono st4 (fun x => x)
      replace hB1 := hB1.mono st4 (fun x => x)
      replace hR2 := hR2.mono st4 (fun x => x)
      replace hR3 := hR3.mono st4 (fun x => x) (fun x => x)
      replace tot := tot.trans st4.pure
      refine WP.still 5 (by kernel_rfl) ?_
      refine WP.done (by kernel_rfl) ?_
      refine NX.then_n ?_
      refine CP.refr 52 [(5, .slice a3 n3 c3), (6, .int .i64 x3), (7, .slice a4 n4 c4), (8, .int .i64 x4)] (by kernel_rfl) (by kernel_rfl) ?_
      clear ds
      intro ds
      refine CP.cut (fun tm g => ∃ (q5 : Bool), Fr 52 [(4, .bool q5)] tm ∧ Step (fun l => NoM l ∨ t ≤ l) g0 g ∧ (F.baizelaw35_CloseForfeits.c2 q5) = some o1) ?_ ?_
      · refine CP.region ?_
        refine WP.still 4 (by kernel_rfl) ?_
        refine WP.guard 44 (b := (x3 == x4)) (by kernel_rfl) (fun h5 => ?_) (fun h5 => ?_)
        · replace hs := of_if_t hs h5
          refine WP.still 2 (by kernel_rfl) ?_
          replace hs := Option.bind_eq_some_iff.1 hs
          obtain ⟨q6, hk6, hs⟩ := hs
          obtain ⟨g10, hw3, st10, hnew⟩ := hR3.freeze (by omega)
          refine WP.regw hw3 ?_
          replace hR4 := hR4.mono st10 (WL.no1 (by omega)) (WL.no1 (by omega))
          replace tot := tot.trans (st10.up1 (.inr (by omega)))
          clear hR3
          have hR3 := hnew
          clear hnew
          obtain ⟨g11, hw4, st11, hnew⟩ := hR4.freeze (by omega)
          refine WP.regw hw4 ?_
          replace hR3 := hR3.mono st11 (WL.no1 (by omega))
          replace tot := tot.trans (st11.up1 (.inr (by omega)))
          clear hR4
          have hR4 := hnew
          clear hnew
          have hcal6 := P.baizeref03_Alike g11 l3 l4 a3 n3 c3 a4 n4 c4 hR3 hR4 q6 hk6
          refine WP.callC hcal6 (by kernel_rfl) ?_
          rintro _ g9 st9 rfl
          replace hR3 := hR3.mono st9 (fun x => x)
          replace hR4 := hR4.mono st9 (fun x => x)
          replace tot := tot.trans st9.pure
          refine WP.still 2 (by kernel_rfl) ?_
          refine WP.guard 49 (b := q6) (by kernel_rfl) (fun h6 => ?_) (fun h6 => ?_)
          · replace hs := of_if_t hs h6
            replace hs := Option.bind_eq_some_iff.1 hs
            obtain ⟨q7, hk7, hs⟩ := hs
            have hcal7 := P.baizelaw35_told g9 q7 hk7
            refine WP.callC hcal7 (by kernel_rfl) ?_
            rintro _ g12 st12 rfl
            replace hR3 := hR3.mono st12 (fun x => x)
            replace hR4 := hR4.mono st12 (fun x => x)
            replace tot := tot.trans st12.pure
            refine WP.still 2 (by kernel_rfl) ?_
            refine WP.done (by kernel_rfl) ?_
            refine NX.post ?_
            exact ⟨q7, ⟨by kernel_rfl, by kernel_rfl⟩, tot, hs⟩
          · replace hs := of_if_f hs h6
            refine WP.still 3 (by kernel_rfl) ?_
            refine WP.done (by kernel_rfl) ?_
            refine NX.post ?_
            exact ⟨false, ⟨by kernel_rfl, by kernel_rfl⟩, tot, hs⟩
        · replace hs := of_if_f hs h5
          refine WP.still 8 (by kernel_rfl) ?_
          refine WP.done (by kernel_rfl) ?_
          refine NX.post ?_
          exact ⟨false, ⟨by kernel_rfl, by kernel_rfl⟩, tot, hs⟩
      · clear tot hs hR3 hR4
        rintro tm g ⟨q5, hF, tot, hs⟩
        clear ds
        obtain ⟨ds, rfl⟩ := hF.open
        clear hF
        unfold F.baizelaw35_CloseForfeits.c2 at hs
        refine CP.ret ?_
        replace hs := Option.some.inj hs
        obtain rfl := hs
        exact NX.fin (v := .bool q5) (Res.still (by kernel_rfl)) tot htL rfl
def F.baizelaw35_CloseKeeps.c2 (nx1 : (List Int) → Int → Option (Bool)) (x19 : Int) (l11 : List Int) : Option (Bool) := (nx1 l11 (IntKind.i64.wrap (x19 + 1)))
def F.baizelaw35_CloseKeeps.c4 (nx2 : Int → Int → Int → Option (Bool)) (x59 : Int) (x67 : Int) (x68 : Int) : Option (Bool) := (nx2 x67 x68 (IntKind.i64.wrap (x59 + 1)))
def F.baizelaw35_CloseKeeps.c5 (nx2 : Int → Int → Int → Option (Bool)) (x57 : Int) (x58 : Int) (x59 : Int) (q36 : Bool) : Option (Bool) := (if q36 = true then (some false) else (F.baizelaw35_CloseKeeps.c4 nx2 x59 x57 x58))
def F.baizelaw35_CloseKeeps.c7 (nx2 : Int → Int → Int → Option (Bool)) (l6 : List Int) (l12 : List Int) (x58 : Int) (x59 : Int) (x69 : Int) : Option (Bool) := (F.baizelaw35_CloseKeeps.c4 nx2 x59 x69 (imax x58 (IntKind.i64.wrap ((getI l12 x59) - (getI l6 x59)))))
def F.baizelaw35_CloseKeeps.c8 (nx2 : Int → Int → Int → Option (Bool)) (l6 : List Int) (l12 : List Int) (x57 : Int) (x58 : Int) (x59 : Int) (q39 : Bool) : Option (Bool) := (if q39 = true then (F.baizelaw35_CloseKeeps.c7 nx2 l6 l12 x58 x59 (IntKind.i64.wrap ((getI l12 x59) - (getI l6 x59)))) else (F.baizelaw35_CloseKeeps.c7 nx2 l6 l12 x58 x59 x57))
def F.baizelaw35_CloseKeeps.c6 (nx2 : Int → Int → Int → Option (Bool)) (l2 : List S_baizelaw35_Loss) (l6 : List Int) (x19 : Int) (l12 : List Int) (x57 : Int) (x58 : Int) (x59 : Int) (q37 : Bool) : Option (Bool) := (if q37 = true then (some false) else (if 0 ≤ x19 ∧ x19 < (l2.length : Int) then (if 0 ≤ x59 ∧ x59 < (((getI l2 x19).f3).length : Int) then (if (!(getI ((getI l2 x19).f3) x59)) = true then (if decide (x57 < 0) = true then (F.baizelaw35_CloseKeeps.c8 nx2 l6 l12 x57 x58 x59 true) else (F.baizelaw35_CloseKeeps.c8 nx2 l6 l12 x57 x58 x59 (decide ((IntKind.i64.wrap ((getI l12 x59) - (getI l6 x59))) < x57)))) else (F.baizelaw35_CloseKeeps.c4 nx2 x59 x57 x58)) else none) else none))
def F.baizelaw35_CloseKeeps.l2 (nx1 : (List Int) → Int → Option (Bool)) (l2 : List S_baizelaw35_Loss) (l6 : List Int) (x19 : Int) (l12 : List Int) : Nat → Int → Int → Int → Option (Bool)
  | 0, _, _, _ => none
  | k + 1, x57, x58, x59 => (if decide (x59 < (l12.length : Int)) = true then (if 0 ≤ x59 ∧ x59 < (l12.length : Int) then (if 0 ≤ x59 ∧ x59 < (l6.length : Int) then (if 0 ≤ x19 ∧ x19 < (l2.length : Int) then (if (x59 == ((getI l2 x19).f1)) = true then (if decide ((IntKind.i64.wrap ((getI l12 x59) - (getI l6 x59))) > 0) = true then (F.baizelaw35_CloseKeeps.c5 (F.baizelaw35_CloseKeeps.l2 nx1 l2 l6 x19 l12 k) x57 x58 x59 true) else (if 0 ≤ x19 ∧ x19 < (l2.length : Int) then (F.baizelaw35_CloseKeeps.c5 (F.baizelaw35_CloseKeeps.l2 nx1 l2 l6 x19 l12 k) x57 x58 x59 (decide ((IntKind.i64.wrap (0 - (IntKind.i64.wrap ((getI l12 x59) - (getI l6 x59))))) > (getI l2 x19).f2))) else none)) else (if decide ((IntKind.i64.wrap ((getI l12 x59) - (getI l6 x59))) < 0) = true then (F.baizelaw35_CloseKeeps.c6 (F.baizelaw35_CloseKeeps.l2 nx1 l2 l6 x19 l12 k) l2 l6 x19 l12 x57 x58 x59 true) else (if 0 ≤ x19 ∧ x19 < (l2.length : Int) then (if 0 ≤ x59 ∧ x59 < (((getI l2 x19).f3).length : Int) then (if (getI ((getI l2 x19).f3) x59) = true then (F.baizelaw35_CloseKeeps.c6 (F.baizelaw35_CloseKeeps.l2 nx1 l2 l6 x19 l12 k) l2 l6 x19 l12 x57 x58 x59 ((IntKind.i64.wrap ((getI l12 x59) - (getI l6 x59))) != 0)) else (F.baizelaw35_CloseKeeps.c6 (F.baizelaw35_CloseKeeps.l2 nx1 l2 l6 x19 l12 k) l2 l6 x19 l12 x57 x58 x59 false)) else none) else none))) else none) else none) else none) else (if decide ((IntKind.i64.wrap (x58 - x57)) > 1) = true then (some false) else (F.baizelaw35_CloseKeeps.c2 nx1 x19 l12)))
def F.baizelaw35_CloseKeeps.c3 (nx1 : (List Int) → Int → Option (Bool)) (l2 : List S_baizelaw35_Loss) (l6 : List Int) (x19 : Int) (l12 : List Int) (q26 : Bool) : Option (Bool) := (if q26 = true then (some false) else (F.baizelaw35_CloseKeeps.l2 nx1 l2 l6 x19 l12 fuel (-1) (-1) 0))
def F.baizelaw35_CloseKeeps.l1 (l2 : List S_baizelaw35_Loss) (x1 : Int) (x2 : Int) : Nat → (List Int) → Int → Option (Bool)
  | 0, _, _ => none
  | k + 1, l6, x19 => (if decide (x19 < (l2.length : Int)) = true then (if 0 ≤ x19 ∧ x19 < (l2.length : Int) then (if 0 ≤ x19 ∧ x19 < (l2.length : Int) then (if 0 ≤ x19 ∧ x19 < (l2.length : Int) then ((F.close_Forfeit l6 ((getI l2 x19).f1) ((getI l2 x19).f2) ((getI l2 x19).f3)).bind fun (l12, x51) => (if (x51 != 0) = true then (if ((l12.length : Int) != 0) = true then (some false) else (F.baizelaw35_CloseKeeps.c2 (F.baizelaw35_CloseKeeps.l1 l2 x1 x2 k) x19 l6)) else ((F.baizeref03_Sum l12).bind fun (x52, x53) => (if (x2 != 0) = true then (F.baizelaw35_CloseKeeps.c3 (F.baizelaw35_CloseKeeps.l1 l2 x1 x2 k) l2 l6 x19 l12 true) else (if (x53 != 0) = true then (F.baizelaw35_CloseKeeps.c3 (F.baizelaw35_CloseKeeps.l1 l2 x1 x2 k) l2 l6 x19 l12 true) else (if (x52 != x1) = true then (F.baizelaw35_CloseKeeps.c3 (F.baizelaw35_CloseKeeps.l1 l2 x1 x2 k) l2 l6 x19 l12 true) else (F.baizelaw35_CloseKeeps.c3 (F.baizelaw35_CloseKeeps.l1 l2 x1 x2 k) l2 l6 x19 l12 ((l12.length : Int) != (l6.length : Int))))))))) else none) else none) else none) else ((F.baizelaw35_told).bind fun q40 => (some q40)))
def F.baizelaw35_CloseKeeps.c1 (l1 : List Int) (l2 : List S_baizelaw35_Loss) (q1 : Bool) : Option (Bool) := (if q1 = true then ((F.baizelaw35_told).bind fun q2 => (some q2)) else (if ([] : List Int).length + l1.length ≤ 17592186044416 then ((F.baizeref03_Sum l1).bind fun (x1, x2) => (F.baizelaw35_CloseKeeps.l1 l2 x1 x2 fuel (([] : List Int) ++ l1) 0)) else none))
def F.baizelaw35_CloseKeeps (l1 : List Int) (l2 : List S_baizelaw35_Loss) : Option (Bool) := (if decide ((l1.length : Int) > 8) = true then (F.baizelaw35_CloseKeeps.c1 l1 l2 true) else (F.baizelaw35_CloseKeeps.c1 l1 l2 (decide ((l2.length : Int) > 10))))
theorem P.baizelaw35_CloseKeeps (g0 : GW) (l1 : List Int) (l2 : List S_baizelaw35_Loss) (a1 : Option Addr) (n1 : Nat) (c1 : Nat) (a2 : Option Addr) (n2 : Nat) (c2 : Nat) (hR1 : RdS (Kd.int .i64) g0 3 a1 n1 c1 l1) (hR2 : RdS k_S_baizelaw35_Loss g0 30 a2 n2 c2 l2) (o1 : Bool) (hs : F.baizelaw35_CloseKeeps l1 l2 = some o1) :
    Calls Try.prog 5 #[.slice a1 n1 c1, .slice a2 n2 c2] g0.w (Ret NoM g0 fun v g => v = .bool o1) := by
  refine calls_of (args := [.slice a1 n1 c1, .slice a2 n2 c2]) Try.func5 rfl (0) ?_
  intro t ht htL
  refine ⟨_, rfl, ?_⟩
  refine CP.refr 164 [(0, .slice a1 n1 c1), (1, .slice a2 n2 c2)] (by kernel_rfl) (by kernel_rfl) ?_
  intro ds
  have tot : Step (fun l => NoM l ∨ t ≤ l) g0 g0 := Step.refl _ _
  unfold F.baizelaw35_CloseKeeps at hs
  refine CP.seqR ?_
  refine WP.still 1 (by kernel_rfl) ?_
  refine WP.done (by kernel_rfl) ?_
  refine NX.then_n ?_
  refine CP.seq ?_
  refine CP.cut (fun tm g => ∃ (q1 : Bool), Fr 164 [(0, .slice a1 n1 c1), (1, .slice a2 n2 c2), (24, .bool q1)] tm ∧ Step (fun l => NoM l ∨ t ≤ l) g0 g ∧ RdS (Kd.int .i64) g 3 a1 n1 c1 l1 ∧ RdS k_S_baizelaw35_Loss g 30 a2 n2 c2 l2 ∧ (F.baizelaw35_CloseKeeps.c1 l1 l2 q1) = some o1) ?_ ?_
  · refine CP.region ?_
    refine WP.still 1 (by kernel_rfl) ?_
    refine WP.len (a := a1) (cp := c1) hR1.len (by kernel_rfl) ?_
    refine WP.still 2 (by kernel_rfl) ?_
    refine WP.guard 20 (b := decide ((l1.length : Int) > 8)) (by kernel_rfl) (fun h147 => ?_) (fun h147 => ?_)
    · replace hs := of_if_t hs h147
      refine WP.still 4 (by kernel_rfl) ?_
      refine WP.done (by kernel_rfl) ?_
      refine NX.post ?_
      exact ⟨true, ⟨by kernel_rfl, by kernel_rfl⟩, tot, hR1, hR2, hs⟩
    · replace hs := of_if_f hs h147
      refine WP.still 1 (by kernel_rfl) ?_
      refine WP.len (a := a2) (cp := c2) hR2.len (by kernel_rfl) ?_
      refine WP.still 2 (by kernel_rfl) ?_
      refine WP.done (by kernel_rfl) ?_
      refine NX.post ?_
      exact ⟨decide ((l2.length : Int) > 10), ⟨by kernel_rfl, by kernel_rfl⟩, tot, hR1, hR2, hs⟩
  · clear tot hs hR1 hR2
    rintro tm g ⟨q1, hF, tot, hR1, hR2, hs⟩
    clear ds
    obtain ⟨ds, rfl⟩ := hF.open
    clear hF
    unfold F.baizelaw35_CloseKeeps.c1 at hs
    refine CP.cond (b := q1) (by kernel_rfl) (fun h2 => ?_) (fun h2 => ?_)
    · replace hs := of_if_t hs h2
      refine CP.seqR ?_
      replace hs := Option.bind_eq_some_iff.1 hs
      obtain ⟨q2, hk1, hs⟩ := hs
      have hcal1 := P.baizelaw35_told g q2 hk1
      refine WP.callC hcal1 (by kernel_rfl) ?_
      rintro _ g1 st1 rfl
      replace hR1 := hR1.mono st1 (fun x => x)
      replace hR2 := hR2.mono st1 (fun x => x)
      replace tot := tot.trans st1.pure
      refine WP.still 1 (by kernel_rfl) ?_
      refine WP.done (by kernel_rfl) ?_
      refine NX.then_n ?_
      refine CP.ret ?_
      refine NX.then_r ?_
      replace hs := Option.some.inj hs
      obtain rfl := hs
      exact NX.fin (v := .bool q2) (Res.still (by kernel_rfl)) tot htL rfl
    · replace hs := of_if_f hs h2
      refine CP.skip ?_
      refine NX.then_n ?_
      refine CP.seqR ?_
      refine WP.mkSl (kd := (Kd.int .i64)) (t := 22) (e := 3) (bytes := 8) (t + 1) [] ([] : List Int) (by kernel_rfl) (by kernel_rfl) (Nat.le_of_ble_eq_true rfl) (Nat.le_of_ble_eq_true rfl) all_nil (rfl) rfl ?_
      intro g2 a3 st2 hR3
      replace hR1 := hR1.mono st2 (fun x => x)
      replace hR2 := hR2.mono st2 (fun x => x)
      replace tot := tot.trans st2.pure
      refine WP.still 1 (by kernel_rfl) ?_
      by_cases hc1 : ([] : List Int).length + l1.length ≤ 17592186044416
      case neg => rw [if_neg hc1] at hs; cases hs
      replace hs := of_if_p hs hc1
      refine WP.append (kd := (Kd.int .i64)) (t := 22) (e := 3) (bytes := 8) (a2 := a1) (c2 := c1) hR3 hR1.src hR1.len (by kernel_rfl) (by kernel_rfl) (by omega) (by simp only [maxLen]; omega) (by omega) ?_
      intro g3 a4 c3 st3 hR4
      replace hR1 := hR1.mono st3 (WL.no1 (by omega))
      replace hR2 := hR2.mono st3 (WL.no1 (by omega))
      replace tot := tot.trans (st3.up1 (.inr (by omega)))
      refine WP.still 1 (by kernel_rfl) ?_
      refine WP.done (by kernel_rfl) ?_
      refine NX.then_n ?_
      refine CP.seqR ?_
      refine WP.still 1 (by kernel_rfl) ?_
      replace hs := Option.bind_eq_some_iff.1 hs
      obtain ⟨⟨x1, x2⟩, hk2, hs⟩ := hs
      dsimp only at hs
      have hcal2 := P.baizeref03_Sum g3 l1 a1 n1 c1 hR1 x1 x2 hk2
      refine WP.callC hcal2 (by kernel_rfl) ?_
      rintro _ g4 st4 rfl
      replace hR1 := hR1.mono st4 (fun x => x)
      replace hR2 := hR2.mono st4 (fun x => x)
      replace hR4 := hR4.mono st4 (fun x => x) (fun x => x)
      replace tot := tot.trans st4.pure
      refine WP.still 5 (by kernel_rfl) ?_
      refine WP.done (by kernel_rfl) ?_
      refine NX.then_n ?_
      refine CP.seq ?_
      refine CP.seqR ?_
      refine WP.still 1 (by kernel_rfl) ?_
      refine WP.done (by kernel_rfl) ?_
      refine NX.then_n ?_
      refine CP.block ?_
      obtain ⟨g24, hw6, st24, hnew⟩ := hR4.freeze (by omega)
      refine CP.regw hw6 ?_
      replace hR2 := hR2.mono st24 (WL.no1 (by omega))
      replace tot := tot.trans (st24.up1 (.inr (by omega)))
      clear hR4
      have hR4 := hnew
      clear hnew
      generalize fuel = k1 at hs
      refine CP.loop (fun k1 tm g => ∃ (l6 : List Int) (a22 : Option Addr) (n20 : Nat) (c21 : Nat) (x19 : Int), Fr 164 [(1, .slice a2 n2 c2), (5, .slice a22 n20 c21), (6, .int .i64 x1), (7, .int .i64 x2), (8, .int .i64 x19)] tm ∧ Step (fun l => NoM l ∨ t ≤ l) g0 g ∧ RdS k_S_baizelaw35_Loss g 30 a2 n2 c2 l2 ∧ RdS (Kd.int .i64) g 3 a22 n20 c21 l6 ∧ F.baizelaw35_CloseKeeps.l1 l2 x1 x2 k1 l6 x19 = some o1) k1 ?_ ?_ ?_
      · exact ⟨(([] : List Int) ++ l1), a4, (0 + n1), c3, 0, ⟨by kernel_rfl, by kernel_rfl⟩, tot, hR2, hR4, hs⟩
      · rintro tm g ⟨l6, a22, n20, c21, x19, hF, tot, hR2, hR22, hs⟩
        exact absurd hs (by simp [F.baizelaw35_CloseKeeps.l1])
      clear tot hs hR2 hR4
      rintro k1 tm g ⟨l6, a22, n20, c21, x19, hF, tot, hR2, hR22, hs⟩
      clear ds
      obtain ⟨ds, rfl⟩ := hF.open
      clear hF
      unfold F.baizelaw35_CloseKeeps.l1 at hs
      refine CP.seq ?_
      refine CP.seqR ?_
      refine WP.still 2 (by kernel_rfl) ?_
      refine WP.len (a := a2) (cp := c2) hR2.len (by kernel_rfl) ?_
      refine WP.still 1 (by kernel_rfl) ?_
      refine WP.done (by kernel_rfl) ?_
      refine NX.then_n ?_
      refine CP.cond (b := decide (x19 < (l2.length : Int))) (by kernel_rfl) (fun h61 => ?_) (fun h61 => ?_)
      · replace hs := of_if_t hs h61
        refine CP.skip ?_
        refine NX.then_n ?_
        refine CP.cut (fun tm g => ∃ (l11 : List Int) (a49 : Option Addr) (n47 : Nat) (c48 : Nat), Fr 164 [(1, .slice a2 n2 c2), (5, .slice a49 n47 c48), (6, .int .i64 x1), (7, .int .i64 x2), (8, .int .i64 x19)] tm ∧ Step (fun l => NoM l ∨ t ≤ l) g0 g ∧ RdS k_S_baizelaw35_Loss g 30 a2 n2 c2 l2 ∧ RdS (Kd.int .i64) g 3 a49 n47 c48 l11 ∧ (F.baizelaw35_CloseKeeps.c2 (F.baizelaw35_CloseKeeps.l1 l2 x1 x2 k1) x19 l11) = some o1) ?_ ?_
        · refine CP.block ?_
          refine CP.seq ?_
          by_cases hc62 : 0 ≤ x19 ∧ x19 < (l2.length : Int)
          case neg => rw [if_neg hc62] at hs; cases hs
          replace hs := of_if_p hs hc62
          by_cases hc63 : 0 ≤ x19 ∧ x19 < (l2.length : Int)
          case neg => rw [if_neg hc63] at hs; cases hs
          replace hs := of_if_p hs hc63
          by_cases hc64 : 0 ≤ x19 ∧ x19 < (l2.length : Int)
          case neg => rw [if_neg hc64] at hs; cases hs
          replace hs := of_if_p hs hc64
          replace hs := Option.bind_eq_some_iff.1 hs
          obtain ⟨⟨l12, x51⟩, hk12, hs⟩ := hs
          dsimp only at hs
          obtain ⟨b61, u61, ha61⟩ := hR2.at hc62
          obtain ⟨b62, u62, ha62⟩ := hR2.at hc63
          obtain ⟨b63, u63, ha63⟩ := hR2.at hc64
          refine CP.drawL (by kernel_rfl) [3, 5, 8, 10, 13, 15, 16] [[], [], [], [1, 2], [1, 2, 3], [1, 2, 3, 4], [], [], [6, 7], [6, 7, 8], [6, 7, 8, 9], [], [], [11, 12], [11, 12, 13], [11, 12, 13, 14], [0, 1, 2, 3, 4, 5, 6, 7, 8, 9, 10, 11, 12, 13, 14, 15], [0, 1, 2, 3, 4, 5, 6, 7, 8, 9, 10, 11, 12, 13, 14, 15, 16], [0, 1, 2, 3, 4, 5, 6, 7, 8, 9, 10, 11, 12, 13, 14, 15, 16, 17], [0, 1, 2, 3, 4, 5, 6, 7, 8, 9, 10, 11, 12, 13, 14, 15, 16, 17], [0, 1, 2, 3, 4, 5, 6, 7, 8, 9, 10, 11, 12, 13, 14, 15, 16, 17, 18], [0, 1, 2, 3, 4, 5, 6, 7, 8, 9, 10, 11, 12, 13, 14, 15, 16, 17, 18, 19, 20]] [⟨none, [], [], fun l g => RdS k_S_baizelaw35_Loss g 30 a2 n2 c2 l2⟩, ⟨none, [], [], fun l g => RdS (Kd.int .i64) g 3 a22 n20 c21 l6⟩, ⟨some 0, [], [0], fun l g => l.getD 0 undef = .pointer (some ⟨b61, u61 + x19.toNat * 3, none⟩)⟩, ⟨some 1, [], [1], fun l g => ∃ (a50 : Option Addr) (n48 : Nat) (c49 : Nat), l.getD 0 undef = .int .i64 ((getI l2 x19).f1) ∧ RdS Kd.bool g 4 a50 n48 c49 ((getI l2 x19).f3)⟩, ⟨some 2, [], [2], fun l g => l.getD 0 undef = .pointer (some ⟨b62, u62 + x19.toNat * 3, none⟩)⟩, ⟨some 3, [], [3], fun l g => ∃ (a51 : Option Addr) (n49 : Nat) (c50 : Nat), l.getD 0 undef = .int .i64 ((getI l2 x19).f2) ∧ RdS Kd.bool g 4 a51 n49 c50 ((getI l2 x19).f3)⟩, ⟨some 4, [], [4], fun l g => l.getD 0 undef = .pointer (some ⟨b63, u63 + x19.toNat * 3, none⟩)⟩, ⟨some 5, [], [5], fun l g => ∃ (a52 : Option Addr) (n50 : Nat) (c51 : Nat), l.getD 0 undef = .slice a52 n50 c51 ∧ RdS Kd.bool g 4 a52 n50 c51 ((getI l2 x19).f3)⟩, ⟨some 6, [], [6], fun l g => ∃ (a53 : Option Addr) (n51 : Nat) (c52 : Nat), l.getD 0 undef = .tuple #[.slice a53 n51 c52, .int .i64 x51] ∧ OwnS (Kd.int .i64) g (t + 6) 3 a53 n51 c52 l12⟩] [[], [], [], [], [], [], []] [] [0, 1, 2, 6, 7, 11, 12] [4, 9, 14, 17, 18, 19, 20, 21] (by kernel_rfl) (by simp) (by simp) ⟨fun _ _ _ _ st h0 hl hj hR2 => (RdS.mono (e := 30) hR2 st h0), fun _ _ _ _ st h0 hl hj hR22 => (RdS.mono (e := 3) hR22 st h0), fun _ _ _ _ st h0 hl hj e => e, fun _ _ _ _ st h0 hl hj ⟨a50, n48, c49, e, hR50⟩ => ⟨a50, n48, c49, e, (RdS.mono (e := 4) hR50 st h0)⟩, fun _ _ _ _ st h0 hl hj e => e, fun _ _ _ _ st h0 hl hj ⟨a51, n49, c50, e, hR51⟩ => ⟨a51, n49, c50, e, (RdS.mono (e := 4) hR51 st h0)⟩, fun _ _ _ _ st h0 hl hj e => e, fun _ _ _ _ st h0 hl hj ⟨a52, n50, c51, e, hR52⟩ => ⟨a52, n50, c51, e, (RdS.mono (e := 4) hR52 st h0)⟩, fun _ _ _ _ st h0 hl hj ⟨a53, n51, c52, e, hR53⟩ => ⟨a53, n51, c52, e, (hR53.mono st h0 (fun h => absurd (hl _ h) (by simp)))⟩, trivial⟩ ⟨hR2, hR22, trivial, trivial, trivial, trivial, trivial, trivial, trivial, trivial⟩ (by kernel_rfl) (fun vs => by kernel_rfl) ?_ ?_ ?_
          · intro j hj
            have hq : j = 0 ∨ j = 1 ∨ j = 2 ∨ j = 3 ∨ j = 4 ∨ j = 5 ∨ j = 6 ∨ j = 7 := by have h : j < 8 := hj; omega
            rcases hq with rfl | rfl | rfl | rfl | rfl | rfl | rfl | rfl
            · intro vs g1 st1 hl hf
              replace hl : vs.length = 7 := hl
              obtain ⟨v0, vs0, rfl, hl0⟩ := len_succ hl
              obtain ⟨v1, vs1, rfl, hl1⟩ := len_succ hl0
              obtain ⟨v2, vs2, rfl, hl2⟩ := len_succ hl1
              obtain ⟨v3, vs3, rfl, hl3⟩ := len_succ hl2
              obtain ⟨v4, vs4, rfl, hl4⟩ := len_succ hl3
              obtain ⟨v5, vs5, rfl, hl5⟩ := len_succ hl4
              obtain ⟨v6, vs6, rfl, hl6⟩ := len_succ hl5
              obtain rfl := len_zero hl6
              have e := (show v0 = .pointer (some ⟨b61, u61 + x19.toNat * 3, none⟩) from hf _ (List.mem_of_getElem? (i := 2) rfl) (by kernel_rfl))
              subst e
              show Option.isSome _ = true
              kernel_rfl
            · intro vs g1 st1 hl hf
              replace hl : vs.length = 7 := hl
              obtain ⟨v0, vs0, rfl, hl0⟩ := len_succ hl
              obtain ⟨v1, vs1, rfl, hl1⟩ := len_succ hl0
              obtain ⟨v2, vs2, rfl, hl2⟩ := len_succ hl1
              obtain ⟨v3, vs3, rfl, hl3⟩ := len_succ hl2
              obtain ⟨v4, vs4, rfl, hl4⟩ := len_succ hl3
              obtain ⟨v5, vs5, rfl, hl5⟩ := len_succ hl4
              obtain ⟨v6, vs6, rfl, hl6⟩ := len_succ hl5
              obtain rfl := len_zero hl6
              have e := (show v2 = .pointer (some ⟨b62, u62 + x19.toNat * 3, none⟩) from hf _ (List.mem_of_getElem? (i := 4) rfl) (by kernel_rfl))
              subst e
              show Option.isSome _ = true
              kernel_rfl
            · intro vs g1 st1 hl hf
              replace hl : vs.length = 7 := hl
              obtain ⟨v0, vs0, rfl, hl0⟩ := len_succ hl
              obtain ⟨v1, vs1, rfl, hl1⟩ := len_succ hl0
              obtain ⟨v2, vs2, rfl, hl2⟩ := len_succ hl1
              obtain ⟨v3, vs3, rfl, hl3⟩ := len_succ hl2
              obtain ⟨v4, vs4, rfl, hl4⟩ := len_succ hl3
              obtain ⟨v5, vs5, rfl, hl5⟩ := len_succ hl4
              obtain ⟨v6, vs6, rfl, hl6⟩ := len_succ hl5
              obtain rfl := len_zero hl6
              have e := (show v4 = .pointer (some ⟨b63, u63 + x19.toNat * 3, none⟩) from hf _ (List.mem_of_getElem? (i := 6) rfl) (by kernel_rfl))
              subst e
              show Option.isSome _ = true
              kernel_rfl
            · intro vs g1 st1 hl hf
              replace hl : vs.length = 7 := hl
              obtain ⟨v0, vs0, rfl, hl0⟩ := len_succ hl
              obtain ⟨v1, vs1, rfl, hl1⟩ := len_succ hl0
              obtain ⟨v2, vs2, rfl, hl2⟩ := len_succ hl1
              obtain ⟨v3, vs3, rfl, hl3⟩ := len_succ hl2
              obtain ⟨v4, vs4, rfl, hl4⟩ := len_succ hl3
              obtain ⟨v5, vs5, rfl, hl5⟩ := len_succ hl4
              obtain ⟨v6, vs6, rfl, hl6⟩ := len_succ hl5
              obtain rfl := len_zero hl6
              obtain ⟨a53, n51, c52, e, hR53⟩ := (show ∃ (a53 : Option Addr) (n51 : Nat) (c52 : Nat), v6 = .tuple #[.slice a53 n51 c52, .int .i64 x51] ∧ OwnS (Kd.int .i64) g1 (t + 6) 3 a53 n51 c52 l12 from hf _ (List.mem_of_getElem? (i := 8) rfl) (by kernel_rfl))
              subst e
              show Option.isSome _ = true
              kernel_rfl
            · intro vs g1 st1 hl hf
              replace hl : vs.length = 7 := hl
              obtain ⟨v0, vs0, rfl, hl0⟩ := len_succ hl
              obtain ⟨v1, vs1, rfl, hl1⟩ := len_succ hl0
              obtain ⟨v2, vs2, rfl, hl2⟩ := len_succ hl1
              obtain ⟨v3, vs3, rfl, hl3⟩ := len_succ hl2
              obtain ⟨v4, vs4, rfl, hl4⟩ := len_succ hl3
              obtain ⟨v5, vs5, rfl, hl5⟩ := len_succ hl4
              obtain ⟨v6, vs6, rfl, hl6⟩ := len_succ hl5
              obtain rfl := len_zero hl6
              obtain ⟨a53, n51, c52, e, hR53⟩ := (show ∃ (a53 : Option Addr) (n51 : Nat) (c52 : Nat), v6 = .tuple #[.slice a53 n51 c52, .int .i64 x51] ∧ OwnS (Kd.int .i64) g1 (t + 6) 3 a53 n51 c52 l12 from hf _ (List.mem_of_getElem? (i := 8) rfl) (by kernel_rfl))
              subst e
              show Option.isSome _ = true
              kernel_rfl
            · intro vs g1 st1 hl hf
              replace hl : vs.length = 7 := hl
              obtain ⟨v0, vs0, rfl, hl0⟩ := len_succ hl
              obtain ⟨v1, vs1, rfl, hl1⟩ := len_succ hl0
              obtain ⟨v2, vs2, rfl, hl2⟩ := len_succ hl1
              obtain ⟨v3, vs3, rfl, hl3⟩ := len_succ hl2
              obtain ⟨v4, vs4, rfl, hl4⟩ := len_succ hl3
              obtain ⟨v5, vs5, rfl, hl5⟩ := len_succ hl4
              obtain ⟨v6, vs6, rfl, hl6⟩ := len_succ hl5
              obtain rfl := len_zero hl6
              obtain ⟨a53, n51, c52, e, hR53⟩ := (show ∃ (a53 : Option Addr) (n51 : Nat) (c52 : Nat), v6 = .tuple #[.slice a53 n51 c52, .int .i64 x51] ∧ OwnS (Kd.int .i64) g1 (t + 6) 3 a53 n51 c52 l12 from hf _ (List.mem_of_getElem? (i := 8) rfl) (by kernel_rfl))
              subst e
              show Option.isSome _ = true
              kernel_rfl
            · intro vs g1 st1 hl hf
              replace hl : vs.length = 7 := hl
              obtain ⟨v0, vs0, rfl, hl0⟩ := len_succ hl
              obtain ⟨v1, vs1, rfl, hl1⟩ := len_succ hl0
              obtain ⟨v2, vs2, rfl, hl2⟩ := len_succ hl1
              obtain ⟨v3, vs3, rfl, hl3⟩ := len_succ hl2
              obtain ⟨v4, vs4, rfl, hl4⟩ := len_succ hl3
              obtain ⟨v5, vs5, rfl, hl5⟩ := len_succ hl4
              obtain ⟨v6, vs6, rfl, hl6⟩ := len_succ hl5
              obtain rfl := len_zero hl6
              obtain ⟨a53, n51, c52, e, hR53⟩ := (show ∃ (a53 : Option Addr) (n51 : Nat) (c52 : Nat), v6 = .tuple #[.slice a53 n51 c52, .int .i64 x51] ∧ OwnS (Kd.int .i64) g1 (t + 6) 3 a53 n51 c52 l12 from hf _ (List.mem_of_getElem? (i := 8) rfl) (by kernel_rfl))
              subst e
              show Option.isSome _ = true
              kernel_rfl
            · intro vs g1 st1 hl hf
              replace hl : vs.length = 7 := hl
              obtain ⟨v0, vs0, rfl, hl0⟩ := len_succ hl
              obtain ⟨v1, vs1, rfl, hl1⟩ := len_succ hl0
              obtain ⟨v2, vs2, rfl, hl2⟩ := len_succ hl1
              obtain ⟨v3, vs3, rfl, hl3⟩ := len_succ hl2
              obtain ⟨v4, vs4, rfl, hl4⟩ := len_succ hl3
              obtain ⟨v5, vs5, rfl, hl5⟩ := len_succ hl4
              obtain ⟨v6, vs6, rfl, hl6⟩ := len_succ hl5
              obtain rfl := len_zero hl6
              obtain ⟨a53, n51, c52, e, hR53⟩ := (show ∃ (a53 : Option Addr) (n51 : Nat) (c52 : Nat), v6 = .tuple #[.slice a53 n51 c52, .int .i64 x51] ∧ OwnS (Kd.int .i64) g1 (t + 6) 3 a53 n51 c52 l12 from hf _ (List.mem_of_getElem? (i := 8) rfl) (by kernel_rfl))
              subst e
              show Option.isSome _ = true
              kernel_rfl
          · intro j hj
            have hq : j = 0 ∨ j = 1 ∨ j = 2 ∨ j = 3 ∨ j = 4 ∨ j = 5 ∨ j = 6 := by have h : j < 7 := hj; omega
            rcases hq with rfl | rfl | rfl | rfl | rfl | rfl | rfl
            · intro vs g1 st1 hl hf
              replace hl : vs.length = 7 := hl
              obtain ⟨v0, vs0, rfl, hl0⟩ := len_succ hl
              obtain ⟨v1, vs1, rfl, hl1⟩ := len_succ hl0
              obtain ⟨v2, vs2, rfl, hl2⟩ := len_succ hl1
              obtain ⟨v3, vs3, rfl, hl3⟩ := len_succ hl2
              obtain ⟨v4, vs4, rfl, hl4⟩ := len_succ hl3
              obtain ⟨v5, vs5, rfl, hl5⟩ := len_succ hl4
              obtain ⟨v6, vs6, rfl, hl6⟩ := len_succ hl5
              obtain rfl := len_zero hl6
              have hR2 := (show RdS k_S_baizelaw35_Loss g1 30 a2 n2 c2 l2 from hf _ (List.mem_of_getElem? (i := 0) rfl) (by kernel_rfl))
              refine WP.indexA (t := 37) (e := 30) (sz := 3) (cap := c2) (k := .i64) (i := x19) hR2.len ha61 (by kernel_rfl) (by kernel_rfl) hc62 ?_
              refine WP.done (by kernel_rfl) (Shown.ok (v := .pointer (some ⟨b61, u61 + x19.toNat * 3, none⟩)) (by kernel_rfl) (Step.refl _ _) ?_)
              exact ⟨trivial, trivial, rfl, trivial, trivial, trivial, trivial, trivial, trivial, trivial⟩
            · intro vs g1 st1 hl hf
              replace hl : vs.length = 7 := hl
              obtain ⟨v0, vs0, rfl, hl0⟩ := len_succ hl
              obtain ⟨v1, vs1, rfl, hl1⟩ := len_succ hl0
              obtain ⟨v2, vs2, rfl, hl2⟩ := len_succ hl1
              obtain ⟨v3, vs3, rfl, hl3⟩ := len_succ hl2
              obtain ⟨v4, vs4, rfl, hl4⟩ := len_succ hl3
              obtain ⟨v5, vs5, rfl, hl5⟩ := len_succ hl4
              obtain ⟨v6, vs6, rfl, hl6⟩ := len_succ hl5
              obtain rfl := len_zero hl6
              have hR2 := (show RdS k_S_baizelaw35_Loss g1 30 a2 n2 c2 l2 from hf _ (List.mem_of_getElem? (i := 0) rfl) (by kernel_rfl))
              have e := (show v0 = .pointer (some ⟨b61, u61 + x19.toNat * 3, none⟩) from hf _ (List.mem_of_getElem? (i := 2) rfl) (by kernel_rfl))
              subst e
              obtain ⟨cs61, hcR61, hcV61⟩ := hR2.src.view (getI_some hc62) ha61
              obtain ⟨a50, n48, c49, hcR61, hR50⟩ := k_S_baizelaw35_Loss.opn hcR61
              refine WP.loadV [[.int .i64 ((getI l2 x19).f1)], [.int .i64 ((getI l2 x19).f2)], [.slice a50 n48 c49]] [1, 1, 1] hcV61 hcR61 rfl (f := 0) (ty := 3) (agg := false) (size := 1) (rs := [[.int .i64 ((getI l2 x19).f1)]]) (v := .int .i64 ((getI l2 x19).f1)) (by kernel_rfl) (by kernel_rfl) (by kernel_rfl) (by kernel_rfl) ?_
              refine WP.done (by kernel_rfl) (Shown.ok (v := .int .i64 ((getI l2 x19).f1)) (by kernel_rfl) (Step.refl _ _) ?_)
              exact ⟨trivial, trivial, trivial, ⟨a50, n48, c49, rfl, hR50⟩, trivial, trivial, trivial, trivial, trivial, trivial⟩
            · intro vs g1 st1 hl hf
              replace hl : vs.length = 7 := hl
              obtain ⟨v0, vs0, rfl, hl0⟩ := len_succ hl
              obtain ⟨v1, vs1, rfl, hl1⟩ := len_succ hl0
              obtain ⟨v2, vs2, rfl, hl2⟩ := len_succ hl1
              obtain ⟨v3, vs3, rfl, hl3⟩ := len_succ hl2
              obtain ⟨v4, vs4, rfl, hl4⟩ := len_succ hl3
              obtain ⟨v5, vs5, rfl, hl5⟩ := len_succ hl4
              obtain ⟨v6, vs6, rfl, hl6⟩ := len_succ hl5
              obtain rfl := len_zero hl6
              have hR2 := (show RdS k_S_baizelaw35_Loss g1 30 a2 n2 c2 l2 from hf _ (List.mem_of_getElem? (i := 0) rfl) (by kernel_rfl))
              refine WP.indexA (t := 37) (e := 30) (sz := 3) (cap := c2) (k := .i64) (i := x19) hR2.len ha62 (by kernel_rfl) (by kernel_rfl) hc63 ?_
              refine WP.done (by kernel_rfl) (Shown.ok (v := .pointer (some ⟨b62, u62 + x19.toNat * 3, none⟩)) (by kernel_rfl) (Step.refl _ _) ?_)
              exact ⟨trivial, trivial, trivial, trivial, rfl, trivial, trivial, trivial, trivial, trivial⟩
            · intro vs g1 st1 hl hf
              replace hl : vs.length = 7 := hl
              obtain ⟨v0, vs0, rfl, hl0⟩ := len_succ hl
              obtain ⟨v1, vs1, rfl, hl1⟩ := len_succ hl0
              obtain ⟨v2, vs2, rfl, hl2⟩ := len_succ hl1
              obtain ⟨v3, vs3, rfl, hl3⟩ := len_succ hl2
              obtain ⟨v4, vs4, rfl, hl4⟩ := len_succ hl3
              obtain ⟨v5, vs5, rfl, hl5⟩ := len_succ hl4
              obtain ⟨v6, vs6, rfl, hl6⟩ := len_succ hl5
              obtain rfl := len_zero hl6
              have hR2 := (show RdS k_S_baizelaw35_Loss g1 30 a2 n2 c2 l2 from hf _ (List.mem_of_getElem? (i := 0) rfl) (by kernel_rfl))
              have e := (show v2 = .pointer (some ⟨b62, u62 + x19.toNat * 3, none⟩) from hf _ (List.mem_of_getElem? (i := 4) rfl) (by kernel_rfl))
              subst e
              obtain ⟨cs62, hcR62, hcV62⟩ := hR2.src.view (getI_some hc63) ha62
              obtain ⟨a51, n49, c50, hcR62, hR51⟩ := k_S_baizelaw35_Loss.opn hcR62
              refine WP.loadV [[.int .i64 ((getI l2 x19).f1)], [.int .i64 ((getI l2 x19).f2)], [.slice a51 n49 c50]] [1, 1, 1] hcV62 hcR62 rfl (f := 1) (ty := 3) (agg := false) (size := 1) (rs := [[.int .i64 ((getI l2 x19).f2)]]) (v := .int .i64 ((getI l2 x19).f2)) (by kernel_rfl) (by kernel_rfl) (by kernel_rfl) (by kernel_rfl) ?_
              refine WP.done (by kernel_rfl) (Shown.ok (v := .int .i64 ((getI l2 x19).f2)) (by kernel_rfl) (Step.refl _ _) ?_)
              exact ⟨trivial, trivial, trivial, trivial, trivial, ⟨a51, n49, c50, rfl, hR51⟩, trivial, trivial, trivial, trivial⟩
            · intro vs g1 st1 hl hf
              replace hl : vs.length = 7 := hl
              obtain ⟨v0, vs0, rfl, hl0⟩ := len_succ hl
              obtain ⟨v1, vs1, rfl, hl1⟩ := len_succ hl0
              obtain ⟨v2, vs2, rfl, hl2⟩ := len_succ hl1
              obtain ⟨v3, vs3, rfl, hl3⟩ := len_succ hl2
              obtain ⟨v4, vs4, rfl, hl4⟩ := len_succ hl3
              obtain ⟨v5, vs5, rfl, hl5⟩ := len_succ hl4
              obtain ⟨v6, vs6, rfl, hl6⟩ := len_succ hl5
              obtain rfl := len_zero hl6
              have hR2 := (show RdS k_S_baizelaw35_Loss g1 30 a2 n2 c2 l2 from hf _ (List.mem_of_getElem? (i := 0) rfl) (by kernel_rfl))
              refine WP.indexA (t := 37) (e := 30) (sz := 3) (cap := c2) (k := .i64) (i := x19) hR2.len ha63 (by kernel_rfl) (by kernel_rfl) hc64 ?_
              refine WP.done (by kernel_rfl) (Shown.ok (v := .pointer (some ⟨b63, u63 + x19.toNat * 3, none⟩)) (by kernel_rfl) (Step.refl _ _) ?_)
              exact ⟨trivial, trivial, trivial, trivial, trivial, trivial, rfl, trivial, trivial, trivial⟩
            · intro vs g1 st1 hl hf
              replace hl : vs.length = 7 := hl
              obtain ⟨v0, vs0, rfl, hl0⟩ := len_succ hl
              obtain ⟨v1, vs1, rfl, hl1⟩ := len_succ hl0
              obtain ⟨v2, vs2, rfl, hl2⟩ := len_succ hl1
              obtain ⟨v3, vs3, rfl, hl3⟩ := len_succ hl2
              obtain ⟨v4, vs4, rfl, hl4⟩ := len_succ hl3
              obtain ⟨v5, vs5, rfl, hl5⟩ := len_succ hl4
              obtain ⟨v6, vs6, rfl, hl6⟩ := len_succ hl5
              obtain rfl := len_zero hl6
              have hR2 := (show RdS k_S_baizelaw35_Loss g1 30 a2 n2 c2 l2 from hf _ (List.mem_of_getElem? (i := 0) rfl) (by kernel_rfl))
              have e := (show v4 = .pointer (some ⟨b63, u63 + x19.toNat * 3, none⟩) from hf _ (List.mem_of_getElem? (i := 6) rfl) (by kernel_rfl))
              subst e
              obtain ⟨cs63, hcR63, hcV63⟩ := hR2.src.view (getI_some hc64) ha63
              obtain ⟨a52, n50, c51, hcR63, hR52⟩ := k_S_baizelaw35_Loss.opn hcR63
              refine WP.loadV [[.int .i64 ((getI l2 x19).f1)], [.int .i64 ((getI l2 x19).f2)], [.slice a52 n50 c51]] [1, 1, 1] hcV63 hcR63 rfl (f := 2) (ty := 28) (agg := false) (size := 1) (rs := [[.slice a52 n50 c51]]) (v := .slice a52 n50 c51) (by kernel_rfl) (by kernel_rfl) (by kernel_rfl) (by kernel_rfl) ?_
              refine WP.done (by kernel_rfl) (Shown.ok (v := .slice a52 n50 c51) (by kernel_rfl) (Step.refl _ _) ?_)
              exact ⟨trivial, trivial, trivial, trivial, trivial, trivial, trivial, ⟨a52, n50, c51, rfl, hR52⟩, trivial, trivial⟩
            · intro vs g1 st1 hl hf
              replace hl : vs.length = 7 := hl
              obtain ⟨v0, vs0, rfl, hl0⟩ := len_succ hl
              obtain ⟨v1, vs1, rfl, hl1⟩ := len_succ hl0
              obtain ⟨v2, vs2, rfl, hl2⟩ := len_succ hl1
              obtain ⟨v3, vs3, rfl, hl3⟩ := len_succ hl2
              obtain ⟨v4, vs4, rfl, hl4⟩ := len_succ hl3
              obtain ⟨v5, vs5, rfl, hl5⟩ := len_succ hl4
              obtain ⟨v6, vs6, rfl, hl6⟩ := len_succ hl5
              obtain rfl := len_zero hl6
              have hR22 := (show RdS (Kd.int .i64) g1 3 a22 n20 c21 l6 from hf _ (List.mem_of_getElem? (i := 1) rfl) (by kernel_rfl))
              obtain ⟨a50, n48, c49, e, hR50⟩ := (show ∃ (a50 : Option Addr) (n48 : Nat) (c49 : Nat), v1 = .int .i64 ((getI l2 x19).f1) ∧ RdS Kd.bool g1 4 a50 n48 c49 ((getI l2 x19).f3) from hf _ (List.mem_of_getElem? (i := 3) rfl) (by kernel_rfl))
              subst e
              obtain ⟨a51, n49, c50, e, hR51⟩ := (show ∃ (a51 : Option Addr) (n49 : Nat) (c50 : Nat), v3 = .int .i64 ((getI l2 x19).f2) ∧ RdS Kd.bool g1 4 a51 n49 c50 ((getI l2 x19).f3) from hf _ (List.mem_of_getElem? (i := 5) rfl) (by kernel_rfl))
              subst e
              obtain ⟨a52, n50, c51, e, hR52⟩ := (show ∃ (a52 : Option Addr) (n50 : Nat) (c51 : Nat), v5 = .slice a52 n50 c51 ∧ RdS Kd.bool g1 4 a52 n50 c51 ((getI l2 x19).f3) from hf _ (List.mem_of_getElem? (i := 7) rfl) (by kernel_rfl))
              subst e
              have hcal12 := P.close_Forfeit g1 (t + 6) l6 ((getI l2 x19).f1) ((getI l2 x19).f2) ((getI l2 x19).f3) a22 n20 c21 a52 n50 c51 hR22 hR52 l12 x51 hk12
              refine WP.callC hcal12 (by kernel_rfl) ?_
              rintro _ g18 st18 ⟨a53, n51, c52, rfl, hR53⟩
              refine WP.done (by kernel_rfl) (Shown.ok (v := .tuple #[.slice a53 n51 c52, .int .i64 x51]) (by kernel_rfl) st18.pure ?_)
              exact ⟨trivial, trivial, trivial, trivial, trivial, trivial, trivial, trivial, ⟨a53, n51, c52, rfl, hR53⟩, trivial⟩
          · intro vs g19 st19 hl hf
            replace hl : vs.length = 7 := hl
            obtain ⟨v0, vs0, rfl, hl0⟩ := len_succ hl
            obtain ⟨v1, vs1, rfl, hl1⟩ := len_succ hl0
            obtain ⟨v2, vs2, rfl, hl2⟩ := len_succ hl1
            obtain ⟨v3, vs3, rfl, hl3⟩ := len_succ hl2
            obtain ⟨v4, vs4, rfl, hl4⟩ := len_succ hl3
            obtain ⟨v5, vs5, rfl, hl5⟩ := len_succ hl4
            obtain ⟨v6, vs6, rfl, hl6⟩ := len_succ hl5
            obtain rfl := len_zero hl6
            obtain ⟨a53, n51, c52, e, hR53⟩ := (show ∃ (a53 : Option Addr) (n51 : Nat) (c52 : Nat), v6 = .tuple #[.slice a53 n51 c52, .int .i64 x51] ∧ OwnS (Kd.int .i64) g19 (t + 6) 3 a53 n51 c52 l12 from hf _ (List.mem_of_getElem? (i := 8) rfl) (by kernel_rfl))
            subst e
            replace hR2 := hR2.mono st19.toNo (fun x => x)
            replace hR22 := hR22.mono st19.toNo (fun x => x)
            replace tot := tot.trans st19.toNo.pure
            refine NX.then_n ?_
            refine CP.refr 164 [(1, .slice a2 n2 c2), (5, .slice a22 n20 c21), (6, .int .i64 x1), (7, .int .i64 x2), (8, .int .i64 x19), (9, .slice a53 n51 c52), (10, .int .i64 x51)] (by kernel_rfl) (by kernel_rfl) ?_
            clear ds
            intro ds
            refine CP.seq ?_
            refine CP.seqR ?_
            refine WP.still 2 (by kernel_rfl) ?_
            refine WP.done (by kernel_rfl) ?_
            refine NX.then_n ?_
            refine CP.cond (b := (x51 != 0)) (by kernel_rfl) (fun h90 => ?_) (fun h90 => ?_)
            · replace hs := of_if_t hs h90
              refine CP.seq ?_
              refine CP.seqR ?_
              refine WP.still 1 (by kernel_rfl) ?_
              refine WP.len (a := a53) (cp := c52) hR53.len (by kernel_rfl) ?_
              refine WP.still 1 (by kernel_rfl) ?_
              refine WP.done (by kernel_rfl) ?_
              refine NX.then_n ?_
              refine CP.cond (b := ((l12.length : Int) != 0)) (by kernel_rfl) (fun h91 => ?_) (fun h91 => ?_)
              · replace hs := of_if_t hs h91
                refine CP.seqR ?_
                refine WP.still 1 (by kernel_rfl) ?_
                refine WP.done (by kernel_rfl) ?_
                refine NX.then_n ?_
                refine CP.ret ?_
                refine NX.then_r ?_
                refine NX.then_r ?_
                refine NX.block_r ?_
                refine NX.then_r ?_
                refine NX.then_r ?_
                refine NX.block_r ?_
                refine NX.then_r ?_
                replace hs := Option.some.inj hs
                obtain rfl := hs
                exact NX.fin (v := .bool false) (Res.still (by kernel_rfl)) tot htL rfl
              · replace hs := of_if_f hs h91
                refine CP.skip ?_
                refine NX.then_n ?_
                refine CP.exit ?_
                refine NX.then_e ?_
                refine NX.block_s ?_
                refine NX.post ?_
                exact ⟨l6, a22, n20, c21, ⟨by kernel_rfl, by kernel_rfl⟩, tot, hR2, hR22, hs⟩
            · replace hs := of_if_f hs h90
              refine CP.skip ?_
              refine NX.then_n ?_
              refine CP.seqR ?_
              refine WP.still 1 (by kernel_rfl) ?_
              replace hs := Option.bind_eq_some_iff.1 hs
              obtain ⟨⟨x52, x53⟩, hk13, hs⟩ := hs
              dsimp only at hs
              obtain ⟨g21, hw5, st21, hnew⟩ := hR53.freeze (by omega)
              refine WP.regw hw5 ?_
              replace hR2 := hR2.mono st21 (WL.no1 (by omega))
              replace hR22 := hR22.mono st21 (WL.no1 (by omega))
              replace tot := tot.trans (st21.up1 (.inr (by omega)))
              clear hR53
              have hR53 := hnew
              clear hnew
              have hcal13 := P.baizeref03_Sum g21 l12 a53 n51 c52 hR53 x52 x53 hk13
              refine WP.callC hcal13 (by kernel_rfl) ?_
              rintro _ g20 st20 rfl
              replace hR2 := hR2.mono st20 (fun x => x)
              replace hR22 := hR22.mono st20 (fun x => x)
              replace hR53 := hR53.mono st20 (fun x => x)
              replace tot := tot.trans st20.pure
              refine WP.still 5 (by kernel_rfl) ?_
              refine WP.done (by kernel_rfl) ?_
              refine NX.then_n ?_
              refine CP.seq ?_
              refine CP.cut (fun tm g => ∃ (q26 : Bool), Fr 164 [(1, .slice a2 n2 c2), (5, .slice a22 n20 c21), (6, .int .i64 x1), (7, .int .i64 x2), (8, .int .i64 x19), (9, .slice a53 n51 c52), (87, .bool q26)] tm ∧ Step (fun l => NoM l ∨ t ≤ l) g0 g ∧ RdS k_S_baizelaw35_Loss g 30 a2 n2 c2 l2 ∧ RdS (Kd.int .i64) g 3 a22 n20 c21 l6 ∧ RdS (Kd.int .i64) g 3 a53 n51 c52 l12 ∧ (F.baizelaw35_CloseKeeps.c3 (F.baizelaw35_CloseKeeps.l1 l2 x1 x2 k1) l2 l6 x19 l12 q26) = some o1) ?_ ?_
              · refine CP.region ?_
                refine WP.still 3 (by kernel_rfl) ?_
                refine WP.guard 72 (b := (x2 != 0)) (by kernel_rfl) (fun h144 => ?_) (fun h144 => ?_)
                · replace hs := of_if_t hs h144
                  refine WP.still 15 (by kernel_rfl) ?_
                  refine WP.done (by kernel_rfl) ?_
                  refine NX.post ?_
                  exact ⟨true, ⟨by kernel_rfl, by kernel_rfl⟩, tot, hR2, hR22, hR53, hs⟩
                · replace hs := of_if_f hs h144
                  refine WP.still 4 (by kernel_rfl) ?_
                  refine WP.guard 76 (b := (x53 != 0)) (by kernel_rfl) (fun h145 => ?_) (fun h145 => ?_)
                  · replace hs := of_if_t hs h145
                    refine WP.still 11 (by kernel_rfl) ?_
                    refine WP.done (by kernel_rfl) ?_
                    refine NX.post ?_
                    exact ⟨true, ⟨by kernel_rfl, by kernel_rfl⟩, tot, hR2, hR22, hR53, hs⟩
                  · replace hs := of_if_f hs h145
                    refine WP.still 5 (by kernel_rfl) ?_
                    refine WP.guard 81 (b := (x52 != x1)) (by kernel_rfl) (fun h146 => ?_) (fun h146 => ?_)
                    · replace hs := of_if_t hs h146
                      refine WP.still 6 (by kernel_rfl) ?_
                      refine WP.done (by kernel_rfl) ?_
                      refine NX.post ?_
                      exact ⟨true, ⟨by kernel_rfl, by kernel_rfl⟩, tot, hR2, hR22, hR53, hs⟩
                    · replace hs := of_if_f hs h146
                      refine WP.still 1 (by kernel_rfl) ?_
                      refine WP.len (a := a53) (cp := c52) hR53.len (by kernel_rfl) ?_
                      refine WP.still 1 (by kernel_rfl) ?_
                      refine WP.len (a := a22) (cp := c21) hR22.len (by kernel_rfl) ?_
                      refine WP.still 2 (by kernel_rfl) ?_
                      refine WP.done (by kernel_rfl) ?_
                      refine NX.post ?_
                      exact ⟨((l12.length : Int) != (l6.length : Int)), ⟨by kernel_rfl, by kernel_rfl⟩, tot, hR2, hR22, hR53, hs⟩
              · clear tot hs hR2 hR22 hR53
                rintro tm g ⟨q26, hF, tot, hR2, hR22, hR53, hs⟩
                clear ds
                obtain ⟨ds, rfl⟩ := hF.open
                clear hF
                unfold F.baizelaw35_CloseKeeps.c3 at hs
                refine CP.cond (b := q26) (by kernel_rfl) (fun h95 => ?_) (fun h95 => ?_)
                · replace hs := of_if_t hs h95
                  refine CP.seqR ?_
                  refine WP.still 1 (by kernel_rfl) ?_
                  refine WP.done (by kernel_rfl) ?_
                  refine NX.then_n ?_
                  refine CP.ret ?_
                  refine NX.then_r ?_
                  refine NX.block_r ?_
                  refine NX.then_r ?_
                  refine NX.then_r ?_
                  refine NX.block_r ?_
                  refine NX.then_r ?_
                  replace hs := Option.some.inj hs
                  obtain rfl := hs
                  exact NX.fin (v := .bool false) (Res.still (by kernel_rfl)) tot htL rfl
                · replace hs := of_if_f hs h95
                  refine CP.skip ?_
                  refine NX.then_n ?_
                  refine CP.seqR ?_
                  refine WP.still 2 (by kernel_rfl) ?_
                  refine WP.done (by kernel_rfl) ?_
                  refine NX.then_n ?_
                  refine CP.seq ?_
                  refine CP.seqR ?_
                  refine WP.still 1 (by kernel_rfl) ?_
                  refine WP.done (by kernel_rfl) ?_
                  refine NX.then_n ?_
                  refine CP.block ?_
                  generalize fuel = k2 at hs
                  refine CP.loop (fun k2 tm g => ∃ (x57 : Int) (x58 : Int) (x59 : Int), Fr 164 [(1, .slice a2 n2 c2), (5, .slice a22 n20 c21), (6, .int .i64 x1), (7, .int .i64 x2), (8, .int .i64 x19), (9, .slice a53 n51 c52), (13, .int .i64 x57), (14, .int .i64 x58), (15, .int .i64 x59)] tm ∧ Step (fun l => NoM l ∨ t ≤ l) g0 g ∧ RdS k_S_baizelaw35_Loss g 30 a2 n2 c2 l2 ∧ RdS (Kd.int .i64) g 3 a22 n20 c21 l6 ∧ RdS (Kd.int .i64) g 3 a53 n51 c52 l12 ∧ F.baizelaw35_CloseKeeps.l2 (F.baizelaw35_CloseKeeps.l1 l2 x1 x2 k1) l2 l6 x19 l12 k2 x57 x58 x59 = some o1) k2 ?_ ?_ ?_
                  · exact ⟨(-1), (-1), 0, ⟨by kernel_rfl, by kernel_rfl⟩, tot, hR2, hR22, hR53, hs⟩
                  · rintro tm g ⟨x57, x58, x59, hF, tot, hR2, hR22, hR53, hs⟩
                    exact absurd hs (by simp [F.baizelaw35_CloseKeeps.l2])
                  clear tot hs hR2 hR22 hR53
                  rintro k2 tm g ⟨x57, x58, x59, hF, tot, hR2, hR22, hR53, hs⟩
                  clear ds
                  obtain ⟨ds, rfl⟩ := hF.open
                  clear hF
                  unfold F.baizelaw35_CloseKeeps.l2 at hs
                  refine CP.seq ?_
                  refine CP.seqR ?_
                  refine WP.still 2 (by kernel_rfl) ?_
                  refine WP.len (a := a53) (cp := c52) hR53.len (by kernel_rfl) ?_
                  refine WP.still 1 (by kernel_rfl) ?_
                  refine WP.done (by kernel_rfl) ?_
                  refine NX.then_n ?_
                  refine CP.cond (b := decide (x59 < (l12.length : Int))) (by kernel_rfl) (fun h118 => ?_) (fun h118 => ?_)
                  · replace hs := of_if_t hs h118
                    refine CP.skip ?_
                    refine NX.then_n ?_
                    refine CP.cut (fun tm g => ∃ (x67 : Int) (x68 : Int), Fr 164 [(1, .slice a2 n2 c2), (5, .slice a22 n20 c21), (6, .int .i64 x1), (7, .int .i64 x2), (8, .int .i64 x19), (9, .slice a53 n51 c52), (13, .int .i64 x67), (14, .int .i64 x68), (15, .int .i64 x59)] tm ∧ Step (fun l => NoM l ∨ t ≤ l) g0 g ∧ RdS k_S_baizelaw35_Loss g 30 a2 n2 c2 l2 ∧ RdS (Kd.int .i64) g 3 a22 n20 c21 l6 ∧ RdS (Kd.int .i64) g 3 a53 n51 c52 l12 ∧ (F.baizelaw35_CloseKeeps.c4 (F.baizelaw35_CloseKeeps.l2 (F.baizelaw35_CloseKeeps.l1 l2 x1 x2 k1) l2 l6 x19 l12 k2) x59 x67 x68) = some o1) ?_ ?_
                    · refine CP.block ?_
                      refine CP.seq ?_
                      by_cases hc89 : 0 ≤ x59 ∧ x59 < (l12.length : Int)
                      case neg => rw [if_neg hc89] at hs; cases hs
                      replace hs := of_if_p hs hc89
                      by_cases hc90 : 0 ≤ x59 ∧ x59 < (l6.length : Int)
                      case neg => rw [if_neg hc90] at hs; cases hs
                      replace hs := of_if_p hs hc90
                      obtain ⟨b88, u88, ha88⟩ := hR53.at hc89
                      obtain ⟨b89, u89, ha89⟩ := hR22.at hc90
                      refine CP.drawL (by kernel_rfl) [2, 3, 6, 7] [[], [], [0, 1], [0, 1, 2], [], [], [4, 5], [4, 5, 6], [0, 1, 2, 3, 4, 5, 6, 7], [0, 1, 2, 3, 4, 5, 6, 7, 8]] [⟨none, [], [], fun l g => RdS (Kd.int .i64) g 3 a22 n20 c21 l6⟩, ⟨none, [], [], fun l g => RdS (Kd.int .i64) g 3 a53 n51 c52 l12⟩, ⟨some 0, [], [0], fun l g => l.getD 0 undef = .pointer (some ⟨b88, u88 + x59.toNat * 1, none⟩)⟩, ⟨some 1, [], [1], fun l g => l.getD 0 undef = .int .i64 (getI l12 x59)⟩, ⟨some 2, [], [2], fun l g => l.getD 0 undef = .pointer (some ⟨b89, u89 + x59.toNat * 1, none⟩)⟩, ⟨some 3, [], [3], fun l g => l.getD 0 undef = .int .i64 (getI l6 x59)⟩] [[], [], [], []] [] [0, 1, 4, 5] [8, 9] (by kernel_rfl) (by simp) (by simp) ⟨fun _ _ _ _ st h0 hl hj hR22 => (RdS.mono (e := 3) hR22 st h0), fun _ _ _ _ st h0 hl hj hR53 => (RdS.mono (e := 3) hR53 st h0), fun _ _ _ _ st h0 hl hj e => e, fun _ _ _ _ st h0 hl hj e => e, fun _ _ _ _ st h0 hl hj e => e, fun _ _ _ _ st h0 hl hj e => e, trivial⟩ ⟨hR22, hR53, trivial, trivial, trivial, trivial, trivial⟩ (by kernel_rfl) (fun vs => by kernel_rfl) ?_ ?_ ?_
                      · intro j hj
                        have hq : j = 0 ∨ j = 1 := by have h : j < 2 := hj; omega
                        rcases hq with rfl | rfl
                        · intro vs g1 st1 hl hf
                          replace hl : vs.length = 4 := hl
                          obtain ⟨v0, vs0, rfl, hl0⟩ := len_succ hl
                          obtain ⟨v1, vs1, rfl, hl1⟩ := len_succ hl0
                          obtain ⟨v2, vs2, rfl, hl2⟩ := len_succ hl1
                          obtain ⟨v3, vs3, rfl, hl3⟩ := len_succ hl2
                          obtain rfl := len_zero hl3
                          have e := (show v1 = .int .i64 (getI l12 x59) from hf _ (List.mem_of_getElem? (i := 3) rfl) (by kernel_rfl))
                          subst e
                          have e := (show v3 = .int .i64 (getI l6 x59) from hf _ (List.mem_of_getElem? (i := 5) rfl) (by kernel_rfl))
                          subst e
                          show Option.isSome _ = true
                          kernel_rfl
                        · intro vs g1 st1 hl hf
                          replace hl : vs.length = 4 := hl
                          obtain ⟨v0, vs0, rfl, hl0⟩ := len_succ hl
                          obtain ⟨v1, vs1, rfl, hl1⟩ := len_succ hl0
                          obtain ⟨v2, vs2, rfl, hl2⟩ := len_succ hl1
                          obtain ⟨v3, vs3, rfl, hl3⟩ := len_succ hl2
                          obtain rfl := len_zero hl3
                          have e := (show v1 = .int .i64 (getI l12 x59) from hf _ (List.mem_of_getElem? (i := 3) rfl) (by kernel_rfl))
                          subst e
                          have e := (show v3 = .int .i64 (getI l6 x59) from hf _ (List.mem_of_getElem? (i := 5) rfl) (by kernel_rfl))
                          subst e
                          show Option.isSome _ = true
                          kernel_rfl
                      · intro j hj
                        have hq : j = 0 ∨ j = 1 ∨ j = 2 ∨ j = 3 := by have h : j < 4 := hj; omega
                        rcases hq with rfl | rfl | rfl | rfl
                        · intro vs g1 st1 hl hf
                          replace hl : vs.length = 4 := hl
                          obtain ⟨v0, vs0, rfl, hl0⟩ := len_succ hl
                          obtain ⟨v1, vs1, rfl, hl1⟩ := len_succ hl0
                          obtain ⟨v2, vs2, rfl, hl2⟩ := len_succ hl1
                          obtain ⟨v3, vs3, rfl, hl3⟩ := len_succ hl2
                          obtain rfl := len_zero hl3
                          have hR53 := (show RdS (Kd.int .i64) g1 3 a53 n51 c52 l12 from hf _ (List.mem_of_getElem? (i := 1) rfl) (by kernel_rfl))
                          refine WP.indexA (t := 22) (e := 3) (sz := 1) (cap := c52) (k := .i64) (i := x59) hR53.len ha88 (by kernel_rfl) (by kernel_rfl) hc89 ?_
                          refine WP.done (by kernel_rfl) (Shown.ok (v := .pointer (some ⟨b88, u88 + x59.toNat * 1, none⟩)) (by kernel_rfl) (Step.refl _ _) ?_)
                          exact ⟨trivial, trivial, rfl, trivial, trivial, trivial, trivial⟩
                        · intro vs g1 st1 hl hf
                          replace hl : vs.length = 4 := hl
                          obtain ⟨v0, vs0, rfl, hl0⟩ := len_succ hl
                          obtain ⟨v1, vs1, rfl, hl1⟩ := len_succ hl0
                          obtain ⟨v2, vs2, rfl, hl2⟩ := len_succ hl1
                          obtain ⟨v3, vs3, rfl, hl3⟩ := len_succ hl2
                          obtain rfl := len_zero hl3
                          have hR53 := (show RdS (Kd.int .i64) g1 3 a53 n51 c52 l12 from hf _ (List.mem_of_getElem? (i := 1) rfl) (by kernel_rfl))
                          have e := (show v0 = .pointer (some ⟨b88, u88 + x59.toNat * 1, none⟩) from hf _ (List.mem_of_getElem? (i := 2) rfl) (by kernel_rfl))
                          subst e
                          obtain ⟨cs88, hcR88, hcV88⟩ := hR53.src.view (getI_some hc89) ha88
                          replace hcR88 := Kd.o_int hcR88
                          refine WP.loadV [[.int .i64 (getI l12 x59)]] [1] hcV88 hcR88 rfl (f := 0) (ty := 3) (agg := false) (size := 1) (rs := [[.int .i64 (getI l12 x59)]]) (v := .int .i64 (getI l12 x59)) (by kernel_rfl) (by kernel_rfl) (by kernel_rfl) (by kernel_rfl) ?_
                          refine WP.done (by kernel_rfl) (Shown.ok (v := .int .i64 (getI l12 x59)) (by kernel_rfl) (Step.refl _ _) ?_)
                          exact ⟨trivial, trivial, trivial, rfl, trivial, trivial, trivial⟩
                        · intro vs g1 st1 hl hf
                          replace hl : vs.length = 4 := hl
                          obtain ⟨v0, vs0, rfl, hl0⟩ := len_succ hl
                          obtain ⟨v1, vs1, rfl, hl1⟩ := len_succ hl0
                          obtain ⟨v2, vs2, rfl, hl2⟩ := len_succ hl1
                          obtain ⟨v3, vs3, rfl, hl3⟩ := len_succ hl2
                          obtain rfl := len_zero hl3
                          have hR22 := (show RdS (Kd.int .i64) g1 3 a22 n20 c21 l6 from hf _ (List.mem_of_getElem? (i := 0) rfl) (by kernel_rfl))
                          refine WP.indexA (t := 22) (e := 3) (sz := 1) (cap := c21) (k := .i64) (i := x59) hR22.len ha89 (by kernel_rfl) (by kernel_rfl) hc90 ?_
                          refine WP.done (by kernel_rfl) (Shown.ok (v := .pointer (some ⟨b89, u89 + x59.toNat * 1, none⟩)) (by kernel_rfl) (Step.refl _ _) ?_)
                          exact ⟨trivial, trivial, trivial, trivial, rfl, trivial, trivial⟩
                        · intro vs g1 st1 hl hf
                          replace hl : vs.length = 4 := hl
                          obtain ⟨v0, vs0, rfl, hl0⟩ := len_succ hl
                          obtain ⟨v1, vs1, rfl, hl1⟩ := len_succ hl0
                          obtain ⟨v2, vs2, rfl, hl2⟩ := len_succ hl1
                          obtain ⟨v3, vs3, rfl, hl3⟩ := len_succ hl2
                          obtain rfl := len_zero hl3
                          have hR22 := (show RdS (Kd.int .i64) g1 3 a22 n20 c21 l6 from hf _ (List.mem_of_getElem? (i := 0) rfl) (by kernel_rfl))
                          have e := (show v2 = .pointer (some ⟨b89, u89 + x59.toNat * 1, none⟩) from hf _ (List.mem_of_getElem? (i := 4) rfl) (by kernel_rfl))
                          subst e
                          obtain ⟨cs89, hcR89, hcV89⟩ := hR22.src.view (getI_some hc90) ha89
                          replace hcR89 := Kd.o_int hcR89
                          refine WP.loadV [[.int .i64 (getI l6 x59)]] [1] hcV89 hcR89 rfl (f := 0) (ty := 3) (agg := false) (size := 1) (rs := [[.int .i64 (getI l6 x59)]]) (v := .int .i64 (getI l6 x59)) (by kernel_rfl) (by kernel_rfl) (by kernel_rfl) (by kernel_rfl) ?_
                          refine WP.done (by kernel_rfl) (Shown.ok (v := .int .i64 (getI l6 x59)) (by kernel_rfl) (Step.refl _ _) ?_)
                          exact ⟨trivial, trivial, trivial, trivial, trivial, rfl, trivial⟩
                      · intro vs g22 st22 hl hf
                        replace hl : vs.length = 4 := hl
                        obtain ⟨v0, vs0, rfl, hl0⟩ := len_succ hl
                        obtain ⟨v1, vs1, rfl, hl1⟩ := len_succ hl0
                        obtain ⟨v2, vs2, rfl, hl2⟩ := len_succ hl1
                        obtain ⟨v3, vs3, rfl, hl3⟩ := len_succ hl2
                        obtain rfl := len_zero hl3
                        have e := (show v1 = .int .i64 (getI l12 x59) from hf _ (List.mem_of_getElem? (i := 3) rfl) (by kernel_rfl))
                        subst e
                        have e := (show v3 = .int .i64 (getI l6 x59) from hf _ (List.mem_of_getElem? (i := 5) rfl) (by kernel_rfl))
                        subst e
                        replace hR2 := hR2.mono st22.toNo (fun x => x)
                        replace hR22 := hR22.mono st22.toNo (fun x => x)
                        replace hR53 := hR53.mono st22.toNo (fun x => x)
                        replace tot := tot.trans st22.toNo.pure
                        refine NX.then_n ?_
                        refine CP.refr 164 [(1, .slice a2 n2 c2), (5, .slice a22 n20 c21), (6, .int .i64 x1), (7, .int .i64 x2), (8, .int .i64 x19), (9, .slice a53 n51 c52), (13, .int .i64 x57), (14, .int .i64 x58), (15, .int .i64 x59), (16, .int .i64 (IntKind.i64.wrap ((getI l12 x59) - (getI l6 x59))))] (by kernel_rfl) (by kernel_rfl) ?_
                        clear ds
                        intro ds
                        refine CP.seq ?_
                        refine CP.seqR ?_
                        refine WP.still 3 (by kernel_rfl) ?_
                        by_cases hc91 : 0 ≤ x19 ∧ x19 < (l2.length : Int)
                        case neg => rw [if_neg hc91] at hs; cases hs
                        replace hs := of_if_p hs hc91
                        obtain ⟨b90, u90, ha90⟩ := hR2.at hc91
                        refine WP.indexA (t := 37) (e := 30) (sz := 3) (cap := c2) (k := .i64) (i := x19) hR2.len ha90 (by kernel_rfl) (by kernel_rfl) hc91 ?_
                        refine WP.still 1 (by kernel_rfl) ?_
                        obtain ⟨cs90, hcR90, hcV90⟩ := hR2.src.view (getI_some hc91) ha90
                        obtain ⟨a66, n64, c65, hcR90, hR66⟩ := k_S_baizelaw35_Loss.opn hcR90
                        refine WP.loadV [[.int .i64 ((getI l2 x19).f1)], [.int .i64 ((getI l2 x19).f2)], [.slice a66 n64 c65]] [1, 1, 1] hcV90 hcR90 rfl (f := 0) (ty := 3) (agg := false) (size := 1) (rs := [[.int .i64 ((getI l2 x19).f1)]]) (v := .int .i64 ((getI l2 x19).f1)) (by kernel_rfl) (by kernel_rfl) (by kernel_rfl) (by kernel_rfl) ?_
                        refine WP.still 1 (by kernel_rfl) ?_
                        refine WP.done (by kernel_rfl) ?_
                        refine NX.then_n ?_
                        refine CP.cond (b := (x59 == ((getI l2 x19).f1))) (by kernel_rfl) (fun h128 => ?_) (fun h128 => ?_)
                        · replace hs := of_if_t hs h128
                          refine CP.seq ?_
                          refine CP.cut (fun tm g => ∃ (q36 : Bool), Fr 164 [(1, .slice a2 n2 c2), (5, .slice a22 n20 c21), (6, .int .i64 x1), (7, .int .i64 x2), (8, .int .i64 x19), (9, .slice a53 n51 c52), (13, .int .i64 x57), (14, .int .i64 x58), (15, .int .i64 x59), (121, .bool q36)] tm ∧ Step (fun l => NoM l ∨ t ≤ l) g0 g ∧ RdS k_S_baizelaw35_Loss g 30 a2 n2 c2 l2 ∧ RdS (Kd.int .i64) g 3 a22 n20 c21 l6 ∧ RdS (Kd.int .i64) g 3 a53 n51 c52 l12 ∧ (F.baizelaw35_CloseKeeps.c5 (F.baizelaw35_CloseKeeps.l2 (F.baizelaw35_CloseKeeps.l1 l2 x1 x2 k1) l2 l6 x19 l12 k2) x57 x58 x59 q36) = some o1) ?_ ?_
                          · refine CP.region ?_
                            refine WP.still 3 (by kernel_rfl) ?_
                            refine WP.guard 112 (b := decide ((IntKind.i64.wrap ((getI l12 x59) - (getI l6 x59))) > 0)) (by kernel_rfl) (fun h131 => ?_) (fun h131 => ?_)
                            · replace hs := of_if_t hs h131
                              refine WP.still 9 (by kernel_rfl) ?_
                              refine WP.done (by kernel_rfl) ?_
                              refine NX.post ?_
                              exact ⟨true, ⟨by kernel_rfl, by kernel_rfl⟩, tot, hR2, hR22, hR53, hs⟩
                            · replace hs := of_if_f hs h131
                              refine WP.still 4 (by kernel_rfl) ?_
                              by_cases hc93 : 0 ≤ x19 ∧ x19 < (l2.length : Int)
                              case neg => rw [if_neg hc93] at hs; cases hs
                              replace hs := of_if_p hs hc93
                              obtain ⟨b92, u92, ha92⟩ := hR2.at hc93
                              refine WP.indexA (t := 37) (e := 30) (sz := 3) (cap := c2) (k := .i64) (i := x19) hR2.len ha92 (by kernel_rfl) (by kernel_rfl) hc93 ?_
                              refine WP.still 1 (by kernel_rfl) ?_
                              obtain ⟨cs92, hcR92, hcV92⟩ := hR2.src.view (getI_some hc93) ha92
                              obtain ⟨a68, n66, c67, hcR92, hR68⟩ := k_S_baizelaw35_Loss.opn hcR92
                              refine WP.loadV [[.int .i64 ((getI l2 x19).f1)], [.int .i64 ((getI l2 x19).f2)], [.slice a68 n66 c67]] [1, 1, 1] hcV92 hcR92 rfl (f := 1) (ty := 3) (agg := false) (size := 1) (rs := [[.int .i64 ((getI l2 x19).f2)]]) (v := .int .i64 ((getI l2 x19).f2)) (by kernel_rfl) (by kernel_rfl) (by kernel_rfl) (by kernel_rfl) ?_
                              refine WP.still 2 (by kernel_rfl) ?_
                              refine WP.done (by kernel_rfl) ?_
                              refine NX.post ?_
                              exact ⟨decide ((IntKind.i64.wrap (0 - (IntKind.i64.wrap ((getI l12 x59) - (getI l6 x59))))) > (getI l2 x19).f2), ⟨by kernel_rfl, by kernel_rfl⟩, tot, hR2, hR22, hR53, hs⟩
                          · clear tot hs hR2 hR22 hR53
                            rintro tm g ⟨q36, hF, tot, hR2, hR22, hR53, hs⟩
                            clear ds
                            obtain ⟨ds, rfl⟩ := hF.open
                            clear hF
                            unfold F.baizelaw35_CloseKeeps.c5 at hs
                            refine CP.cond (b := q36) (by kernel_rfl) (fun h130 => ?_) (fun h130 => ?_)
                            · replace hs := of_if_t hs h130
                              refine CP.seqR ?_
                              refine WP.still 1 (by kernel_rfl) ?_
                              refine WP.done (by kernel_rfl) ?_
                              refine NX.then_n ?_
                              refine CP.ret ?_
                              refine NX.then_r ?_
                              refine NX.then_r ?_
                              refine NX.block_r ?_
                              refine NX.then_r ?_
                              refine NX.then_r ?_
                              refine NX.block_r ?_
                              refine NX.then_r ?_
                              refine NX.block_r ?_
                              refine NX.then_r ?_
                              refine NX.then_r ?_
                              refine NX.block_r ?_
                              refine NX.then_r ?_
                              replace hs := Option.some.inj hs
                              obtain rfl := hs
                              exact NX.fin (v := .bool false) (Res.still (by kernel_rfl)) tot htL rfl
                            · replace hs := of_if_f hs h130
                              refine CP.skip ?_
                              refine NX.then_n ?_
                              refine CP.exit ?_
                              refine NX.then_e ?_
                              refine NX.block_s ?_
                              refine NX.post ?_
                              exact ⟨x57, x58, ⟨by kernel_rfl, by kernel_rfl⟩, tot, hR2, hR22, hR53, hs⟩
                        · replace hs := of_if_f hs h128
                          refine CP.skip ?_
                          refine NX.then_n ?_
                          refine CP.seq ?_
                          refine CP.cut (fun tm g => ∃ (q37 : Bool), Fr 164 [(1, .slice a2 n2 c2), (5, .slice a22 n20 c21), (6, .int .i64 x1), (7, .int .i64 x2), (8, .int .i64 x19), (9, .slice a53 n51 c52), (13, .int .i64 x57), (14, .int .i64 x58), (15, .int .i64 x59), (16, .int .i64 (IntKind.i64.wrap ((getI l12 x59) - (getI l6 x59)))), (137, .bool q37)] tm ∧ Step (fun l => NoM l ∨ t ≤ l) g0 g ∧ RdS k_S_baizelaw35_Loss g 30 a2 n2 c2 l2 ∧ RdS (Kd.int .i64) g 3 a22 n20 c21 l6 ∧ RdS (Kd.int .i64) g 3 a53 n51 c52 l12 ∧ (F.baizelaw35_CloseKeeps.c6 (F.baizelaw35_CloseKeeps.l2 (F.baizelaw35_CloseKeeps.l1 l2 x1 x2 k1) l2 l6 x19 l12 k2) l2 l6 x19 l12 x57 x58 x59 q37) = some o1) ?_ ?_
                          · refine CP.region ?_
                            refine WP.still 3 (by kernel_rfl) ?_
                            refine WP.guard 124 (b := decide ((IntKind.i64.wrap ((getI l12 x59) - (getI l6 x59))) < 0)) (by kernel_rfl) (fun h141 => ?_) (fun h141 => ?_)
                            · replace hs := of_if_t hs h141
                              refine WP.still 13 (by kernel_rfl) ?_
                              refine WP.done (by kernel_rfl) ?_
                              refine NX.post ?_
                              exact ⟨true, ⟨by kernel_rfl, by kernel_rfl⟩, tot, hR2, hR22, hR53, hs⟩
                            · replace hs := of_if_f hs h141
                              refine WP.still 2 (by kernel_rfl) ?_
                              by_cases hc98 : 0 ≤ x19 ∧ x19 < (l2.length : Int)
                              case neg => rw [if_neg hc98] at hs; cases hs
                              replace hs := of_if_p hs hc98
                              obtain ⟨b97, u97, ha97⟩ := hR2.at hc98
                              refine WP.indexA (t := 37) (e := 30) (sz := 3) (cap := c2) (k := .i64) (i := x19) hR2.len ha97 (by kernel_rfl) (by kernel_rfl) hc98 ?_
                              refine WP.still 1 (by kernel_rfl) ?_
                              obtain ⟨cs97, hcR97, hcV97⟩ := hR2.src.view (getI_some hc98) ha97
                              obtain ⟨a71, n69, c70, hcR97, hR71⟩ := k_S_baizelaw35_Loss.opn hcR97
                              refine WP.loadV [[.int .i64 ((getI l2 x19).f1)], [.int .i64 ((getI l2 x19).f2)], [.slice a71 n69 c70]] [1, 1, 1] hcV97 hcR97 rfl (f := 2) (ty := 28) (agg := false) (size := 1) (rs := [[.slice a71 n69 c70]]) (v := .slice a71 n69 c70) (by kernel_rfl) (by kernel_rfl) (by kernel_rfl) (by kernel_rfl) ?_
                              refine WP.still 1 (by kernel_rfl) ?_
                              by_cases hc99 : 0 ≤ x59 ∧ x59 < (((getI l2 x19).f3).length : Int)
                              case neg => rw [if_neg hc99] at hs; cases hs
                              replace hs := of_if_p hs hc99
                              obtain ⟨b98, u98, ha98⟩ := hR71.at hc99
                              refine WP.indexA (t := 28) (e := 4) (sz := 1) (cap := c70) (k := .i64) (i := x59) hR71.len ha98 (by kernel_rfl) (by kernel_rfl) hc99 ?_
                              obtain ⟨cs98, hcR98, hcV98⟩ := hR71.src.view (getI_some hc99) ha98
                              replace hcR98 := Kd.o_bool hcR98
                              refine WP.loadV [[.bool (getI ((getI l2 x19).f3) x59)]] [1] hcV98 hcR98 rfl (f := 0) (ty := 4) (agg := false) (size := 1) (rs := [[.bool (getI ((getI l2 x19).f3) x59)]]) (v := .bool (getI ((getI l2 x19).f3) x59)) (by kernel_rfl) (by kernel_rfl) (by kernel_rfl) (by kernel_rfl) ?_
                              refine WP.still 1 (by kernel_rfl) ?_
                              refine WP.guard 133 (b := (getI ((getI l2 x19).f3) x59)) (by kernel_rfl) (fun h142 => ?_) (fun h142 => ?_)
                              · replace hs := of_if_t hs h142
                                refine WP.still 4 (by kernel_rfl) ?_
                                refine WP.done (by kernel_rfl) ?_
                                refine NX.post ?_
                                exact ⟨((IntKind.i64.wrap ((getI l12 x59) - (getI l6 x59))) != 0), ⟨by kernel_rfl, by kernel_rfl⟩, tot, hR2, hR22, hR53, hs⟩
                              · replace hs := of_if_f hs h142
                                refine WP.still 4 (by kernel_rfl) ?_
                                refine WP.done (by kernel_rfl) ?_
                                refine NX.post ?_
                                exact ⟨false, ⟨by kernel_rfl, by kernel_rfl⟩, tot, hR2, hR22, hR53, hs⟩
                          · clear tot hs hR2 hR22 hR53
                            rintro tm g ⟨q37, hF, tot, hR2, hR22, hR53, hs⟩
                            clear ds
                            obtain ⟨ds, rfl⟩ := hF.open
                            clear hF
                            unfold F.baizelaw35_CloseKeeps.c6 at hs
                            refine CP.cond (b := q37) (by kernel_rfl) (fun h134 => ?_) (fun h134 => ?_)
                            · replace hs := of_if_t hs h134
                              refine CP.seqR ?_
                              refine WP.still 1 (by kernel_rfl) ?_
                              refine WP.done (by kernel_rfl) ?_
                              refine NX.then_n ?_
                              refine CP.ret ?_
                              refine NX.then_r ?_
                              refine NX.block_r ?_
                              refine NX.then_r ?_
                              refine NX.then_r ?_
                              refine NX.block_r ?_
                              refine NX.then_r ?_
                              refine NX.block_r ?_
                              refine NX.then_r ?_
                              refine NX.then_r ?_
                              refine NX.block_r ?_
                              refine NX.then_r ?_
                              replace hs := Option.some.inj hs
                              obtain rfl := hs
                              exact NX.fin (v := .bool false) (Res.still (by kernel_rfl)) tot htL rfl
                            · replace hs := of_if_f hs h134
                              refine CP.skip ?_
                              refine NX.then_n ?_
                              refine CP.seqR ?_
                              refine WP.still 2 (by kernel_rfl) ?_
                              by_cases hc96 : 0 ≤ x19 ∧ x19 < (l2.length : Int)
                              case neg => rw [if_neg hc96] at hs; cases hs
                              replace hs := of_if_p hs hc96
                              obtain ⟨b95, u95, ha95⟩ := hR2.at hc96
                              refine WP.indexA (t := 37) (e := 30) (sz := 3) (cap := c2) (k := .i64) (i := x19) hR2.len ha95 (by kernel_rfl) (by kernel_rfl) hc96 ?_
                              refine WP.still 1 (by kernel_rfl) ?_
                              obtain ⟨cs95, hcR95, hcV95⟩ := hR2.src.view (getI_some hc96) ha95
                              obtain ⟨a70, n68, c69, hcR95, hR70⟩ := k_S_baizelaw35_Loss.opn hcR95
                              refine WP.loadV [[.int .i64 ((getI l2 x19).f1)], [.int .i64 ((getI l2 x19).f2)], [.slice a70 n68 c69]] [1, 1, 1] hcV95 hcR95 rfl (f := 2) (ty := 28) (agg := false) (size := 1) (rs := [[.slice a70 n68 c69]]) (v := .slice a70 n68 c69) (by kernel_rfl) (by kernel_rfl) (by kernel_rfl) (by kernel_rfl) ?_
                              refine WP.still 1 (by kernel_rfl) ?_
                              by_cases hc97 : 0 ≤ x59 ∧ x59 < (((getI l2 x19).f3).length : Int)
                              case neg => rw [if_neg hc97] at hs; cases hs
                              replace hs := of_if_p hs hc97
                              obtain ⟨b96, u96, ha96⟩ := hR70.at hc97
                              refine WP.indexA (t := 28) (e := 4) (sz := 1) (cap := c69) (k := .i64) (i := x59) hR70.len ha96 (by kernel_rfl) (by kernel_rfl) hc97 ?_
                              obtain ⟨cs96, hcR96, hcV96⟩ := hR70.src.view (getI_some hc97) ha96
                              replace hcR96 := Kd.o_bool hcR96
                              refine WP.loadV [[.bool (getI ((getI l2 x19).f3) x59)]] [1] hcV96 hcR96 rfl (f := 0) (ty := 4) (agg := false) (size := 1) (rs := [[.bool (getI ((getI l2 x19).f3) x59)]]) (v := .bool (getI ((getI l2 x19).f3) x59)) (by kernel_rfl) (by kernel_rfl) (by kernel_rfl) (by kernel_rfl) ?_
                              refine WP.still 1 (by kernel_rfl) ?_
                              refine WP.done (by kernel_rfl) ?_
                              refine NX.then_n ?_
                              refine CP.cond (b := (!(getI ((getI l2 x19).f3) x59))) (by kernel_rfl) (fun h135 => ?_) (fun h135 => ?_)
                              · replace hs := of_if_t hs h135
                                refine CP.cut (fun tm g => ∃ (x69 : Int), Fr 164 [(1, .slice a2 n2 c2), (5, .slice a22 n20 c21), (6, .int .i64 x1), (7, .int .i64 x2), (8, .int .i64 x19), (9, .slice a53 n51 c52), (13, .int .i64 x69), (14, .int .i64 x58), (15, .int .i64 x59), (16, .int .i64 (IntKind.i64.wrap ((getI l12 x59) - (getI l6 x59))))] tm ∧ Step (fun l => NoM l ∨ t ≤ l) g0 g ∧ RdS k_S_baizelaw35_Loss g 30 a2 n2 c2 l2 ∧ RdS (Kd.int .i64) g 3 a22 n20 c21 l6 ∧ RdS (Kd.int .i64) g 3 a53 n51 c52 l12 ∧ (F.baizelaw35_CloseKeeps.c7 (F.baizelaw35_CloseKeeps.l2 (F.baizelaw35_CloseKeeps.l1 l2 x1 x2 k1) l2 l6 x19 l12 k2) l6 l12 x58 x59 x69) = some o1) ?_ ?_
                                · refine CP.cut (fun tm g => ∃ (q39 : Bool), Fr 164 [(1, .slice a2 n2 c2), (5, .slice a22 n20 c21), (6, .int .i64 x1), (7, .int .i64 x2), (8, .int .i64 x19), (9, .slice a53 n51 c52), (13, .int .i64 x57), (14, .int .i64 x58), (15, .int .i64 x59), (16, .int .i64 (IntKind.i64.wrap ((getI l12 x59) - (getI l6 x59)))), (153, .bool q39)] tm ∧ Step (fun l => NoM l ∨ t ≤ l) g0 g ∧ RdS k_S_baizelaw35_Loss g 30 a2 n2 c2 l2 ∧ RdS (Kd.int .i64) g 3 a22 n20 c21 l6 ∧ RdS (Kd.int .i64) g 3 a53 n51 c52 l12 ∧ (F.baizelaw35_CloseKeeps.c8 (F.baizelaw35_CloseKeeps.l2 (F.baizelaw35_CloseKeeps.l1 l2 x1 x2 k1) l2 l6 x19 l12 k2) l6 l12 x57 x58 x59 q39) = some o1) ?_ ?_
                                  · refine CP.region ?_
                                    refine WP.still 3 (by kernel_rfl) ?_
                                    refine WP.guard 149 (b := decide (x57 < 0)) (by kernel_rfl) (fun h140 => ?_) (fun h140 => ?_)
                                    · replace hs := of_if_t hs h140
                                      refine WP.still 4 (by kernel_rfl) ?_
                                      refine WP.done (by kernel_rfl) ?_
                                      refine NX.post ?_
                                      exact ⟨true, ⟨by kernel_rfl, by kernel_rfl⟩, tot, hR2, hR22, hR53, hs⟩
                                    · replace hs := of_if_f hs h140
                                      refine WP.still 4 (by kernel_rfl) ?_
                                      refine WP.done (by kernel_rfl) ?_
                                      refine NX.post ?_
                                      exact ⟨decide ((IntKind.i64.wrap ((getI l12 x59) - (getI l6 x59))) < x57), ⟨by kernel_rfl, by kernel_rfl⟩, tot, hR2, hR22, hR53, hs⟩
                                  · clear tot hs hR2 hR22 hR53
                                    rintro tm g ⟨q39, hF, tot, hR2, hR22, hR53, hs⟩
                                    clear ds
                                    obtain ⟨ds, rfl⟩ := hF.open
                                    clear hF
                                    unfold F.baizelaw35_CloseKeeps.c8 at hs
                                    refine CP.cond (b := q39) (by kernel_rfl) (fun h139 => ?_) (fun h139 => ?_)
                                    · replace hs := of_if_t hs h139
                                      refine CP.region ?_
                                      refine WP.still 2 (by kernel_rfl) ?_
                                      refine WP.done (by kernel_rfl) ?_
                                      refine NX.post ?_
                                      exact ⟨(IntKind.i64.wrap ((getI l12 x59) - (getI l6 x59))), ⟨by kernel_rfl, by kernel_rfl⟩, tot, hR2, hR22, hR53, hs⟩
                                    · replace hs := of_if_f hs h139
                                      refine CP.skip ?_
                                      refine NX.post ?_
                                      exact ⟨x57, ⟨by kernel_rfl, by kernel_rfl⟩, tot, hR2, hR22, hR53, hs⟩
                                · clear tot hs hR2 hR22 hR53
                                  rintro tm g ⟨x69, hF, tot, hR2, hR22, hR53, hs⟩
                                  clear ds
                                  obtain ⟨ds, rfl⟩ := hF.open
                                  clear hF
                                  unfold F.baizelaw35_CloseKeeps.c7 at hs
                                  refine CP.region ?_
                                  refine WP.still 4 (by kernel_rfl) ?_
                                  refine WP.done (by kernel_rfl) ?_
                                  refine NX.block_n ?_
                                  refine NX.post ?_
                                  exact ⟨x69, (imax x58 (IntKind.i64.wrap ((getI l12 x59) - (getI l6 x59)))), ⟨by kernel_rfl, by kernel_rfl⟩, tot, hR2, hR22, hR53, hs⟩
                              · replace hs := of_if_f hs h135
                                refine CP.skip ?_
                                refine NX.block_n ?_
                                refine NX.post ?_
                                exact ⟨x57, x58, ⟨by kernel_rfl, by kernel_rfl⟩, tot, hR2, hR22, hR53, hs⟩
                    · clear tot hs hR2 hR22 hR53
                      rintro tm g ⟨x67, x68, hF, tot, hR2, hR22, hR53, hs⟩
                      clear ds
                      obtain ⟨ds, rfl⟩ := hF.open
                      clear hF
                      unfold F.baizelaw35_CloseKeeps.c4 at hs
                      refine CP.region ?_
                      refine WP.still 3 (by kernel_rfl) ?_
                      refine WP.done (by kernel_rfl) ?_
                      refine NX.post ?_
                      exact ⟨x67, x68, (IntKind.i64.wrap (x59 + 1)), ⟨by kernel_rfl, by kernel_rfl⟩, tot, hR2, hR22, hR53, hs⟩
                  · replace hs := of_if_f hs h118
                    refine CP.exit ?_
                    refine NX.then_e ?_
                    refine NX.then_e ?_
                    refine NX.block_s ?_
                    refine NX.then_n ?_
                    refine CP.seq ?_
                    refine CP.seqR ?_
                    refine WP.still 4 (by kernel_rfl) ?_
                    refine WP.done (by kernel_rfl) ?_
                    refine NX.then_n ?_
                    refine CP.cond (b := decide ((IntKind.i64.wrap (x58 - x57)) > 1)) (by kernel_rfl) (fun h143 => ?_) (fun h143 => ?_)
                    · replace hs := of_if_t hs h143
                      refine CP.seqR ?_
                      refine WP.still 1 (by kernel_rfl) ?_
                      refine WP.done (by kernel_rfl) ?_
                      refine NX.then_n ?_
                      refine CP.ret ?_
                      refine NX.then_r ?_
                      refine NX.block_r ?_
                      refine NX.then_r ?_
                      refine NX.then_r ?_
                      refine NX.block_r ?_
                      refine NX.then_r ?_
                      replace hs := Option.some.inj hs
                      obtain rfl := hs
                      exact NX.fin (v := .bool false) (Res.still (by kernel_rfl)) tot htL rfl
                    · replace hs := of_if_f hs h143
                      refine CP.skip ?_
                      refine NX.then_n ?_
                      refine CP.region ?_
                      refine WP.still 2 (by kernel_rfl) ?_
                      refine WP.done (by kernel_rfl) ?_
                      refine NX.block_n ?_
                      refine NX.post ?_
                      exact ⟨l12, a53, n51, c52, ⟨by kernel_rfl, by kernel_rfl⟩, tot, hR2, hR53, hs⟩
        · clear tot hs hR2 hR22
          rintro tm g ⟨l11, a49, n47, c48, hF, tot, hR2, hR49, hs⟩
          clear ds
          obtain ⟨ds, rfl⟩ := hF.open
          clear hF
          unfold F.baizelaw35_CloseKeeps.c2 at hs
          refine CP.region ?_
          refine WP.still 3 (by kernel_rfl) ?_
          refine WP.done (by kernel_rfl) ?_
          refine NX.post ?_
          exact ⟨l11, a49, n47, c48, (IntKind.i64.wrap (x19 + 1)), ⟨by kernel_rfl, by kernel_rfl⟩, tot, hR2, hR49, hs⟩
      · replace hs := of_if_f hs h61
        refine CP.exit ?_
        refine NX.then_e ?_
        refine NX.then_e ?_
        refine NX.block_s ?_
        refine NX.then_n ?_
        refine CP.seqR ?_
        replace hs := Option.bind_eq_some_iff.1 hs
        obtain ⟨q40, hk14, hs⟩ := hs
        have hcal14 := P.baizelaw35_told g q40 hk14
        refine WP.callC hcal14 (by kernel_rfl) ?_
        rintro _ g23 st23 rfl
        replace tot := tot.trans st23.pure
        refine WP.still 1 (by kernel_rfl) ?_
        refine WP.done (by kernel_rfl) ?_
        refine NX.then_n ?_
        refine CP.ret ?_
        replace hs := Option.some.inj hs
        obtain rfl := hs
        exact NX.fin (v := .bool q40) (Res.still (by kernel_rfl)) tot htL rfl
def F.baizelaw35_CloseOrder.c1 (q7 : Bool) : Option (Bool) := (some q7)
def F.baizelaw35_CloseOrder.l1 (x1 : Int) (l1 : List Int) : Nat → (List Int) → Int → Option (Bool)
  | 0, _, _ => none
  | k + 1, l2, x4 => (if decide (x4 ≥ 0) = true then (if 0 ≤ x4 ∧ x4 < (l1.length : Int) then (if l2.length + ([(getI l1 x4)]).length ≤ 17592186044416 then (F.baizelaw35_CloseOrder.l1 x1 l1 k (l2 ++ [(getI l1 x4)]) (IntKind.i64.wrap (x4 - 1))) else none) else none) else ((F.close_Adds x1 (l1.length : Int) l1).bind fun x10 => ((F.close_Adds x1 (l1.length : Int) l2).bind fun x11 => (if (x10 == x11) = true then ((F.baizelaw35_told).bind fun q8 => (F.baizelaw35_CloseOrder.c1 q8)) else (F.baizelaw35_CloseOrder.c1 false)))))
def F.baizelaw35_CloseOrder (x1 : Int) (l1 : List Int) : Option (Bool) := (if decide ((l1.length : Int) > 8) = true then ((F.baizelaw35_told).bind fun q1 => (some q1)) else (F.baizelaw35_CloseOrder.l1 x1 l1 fuel ([]) (IntKind.i64.wrap ((l1.length : Int) - 1))))
theorem P.baizelaw35_CloseOrder (g0 : GW) (x1 : Int) (l1 : List Int) (a1 : Option Addr) (n1 : Nat) (c1 : Nat) (hR1 : RdS (Kd.int .i64) g0 3 a1 n1 c1 l1) (o1 : Bool) (hs : F.baizelaw35_CloseOrder x1 l1 = some o1) :
    Calls Try.prog 6 #[.int .i64 x1, .slice a1 n1 c1] g0.w (Ret NoM g0 fun v g => v = .bool o1) := by
  refine calls_of (args := [.int .i64 x1, .slice a1 n1 c1]) Try.func6 rfl (0) ?_
  intro t ht htL
  refine ⟨_, rfl, ?_⟩
  refine CP.refr 39 [(0, .int .i64 x1), (1, .slice a1 n1 c1)] (by kernel_rfl) (by kernel_rfl) ?_
  intro ds
  have tot : Step (fun l => NoM l ∨ t ≤ l) g0 g0 := Step.refl _ _
  unfold F.baizelaw35_CloseOrder at hs
  refine CP.seqR ?_
  refine WP.still 1 (by kernel_rfl) ?_
  refine WP.done (by kernel_rfl) ?_
  refine NX.then_n ?_
  refine CP.seq ?_
  refine CP.seqR ?_
  refine WP.still 1 (by kernel_rfl) ?_
  refine WP.len (a := a1) (cp := c1) hR1.len (by kernel_rfl) ?_
  refine WP.still 1 (by kernel_rfl) ?_
  refine WP.done (by kernel_rfl) ?_
  refine NX.then_n ?_
  refine CP.cond (b := decide ((l1.length : Int) > 8)) (by kernel_rfl) (fun h1 => ?_) (fun h1 => ?_)
  · replace hs := of_if_t hs h1
    refine CP.seqR ?_
    replace hs := Option.bind_eq_some_iff.1 hs
    obtain ⟨q1, hk1, hs⟩ := hs
    have hcal1 := P.baizelaw35_told g0 q1 hk1
    refine WP.callC hcal1 (by kernel_rfl) ?_
    rintro _ g1 st1 rfl
    replace hR1 := hR1.mono st1 (fun x => x)
    replace tot := tot.trans st1.pure
    refine WP.still 1 (by kernel_rfl) ?_
    refine WP.done (by kernel_rfl) ?_
    refine NX.then_n ?_
    refine CP.ret ?_
    refine NX.then_r ?_
    replace hs := Option.some.inj hs
    obtain rfl := hs
    exact NX.fin (v := .bool q1) (Res.still (by kernel_rfl)) tot htL rfl
  · replace hs := of_if_f hs h1
    refine CP.skip ?_
    refine NX.then_n ?_
    refine CP.seqR ?_
    refine WP.still 1 (by kernel_rfl) ?_
    refine WP.done (by kernel_rfl) ?_
    refine NX.then_n ?_
    refine CP.seq ?_
    refine CP.seqR ?_
    refine WP.still 1 (by kernel_rfl) ?_
    refine WP.len (a := a1) (cp := c1) hR1.len (by kernel_rfl) ?_
    refine WP.still 2 (by kernel_rfl) ?_
    refine WP.done (by kernel_rfl) ?_
    refine NX.then_n ?_
    refine CP.block ?_
    generalize fuel = k1 at hs
    refine CP.loop (fun k1 tm g => ∃ (l2 : List Int) (a4 : Option Addr) (n2 : Nat) (c3 : Nat) (x4 : Int), Fr 39 [(0, .int .i64 x1), (1, .slice a1 n1 c1), (5, .slice a4 n2 c3), (6, .int .i64 x4)] tm ∧ Step (fun l => NoM l ∨ t ≤ l) g0 g ∧ RdS (Kd.int .i64) g 3 a1 n1 c1 l1 ∧ OwnS (Kd.int .i64) g (t + 2) 3 a4 n2 c3 l2 ∧ F.baizelaw35_CloseOrder.l1 x1 l1 k1 l2 x4 = some o1) k1 ?_ ?_ ?_
    · exact ⟨[], none, 0, 0, (IntKind.i64.wrap ((l1.length : Int) - 1)), ⟨by kernel_rfl, by kernel_rfl⟩, tot, hR1, (OwnS.nil _ _ _ _), hs⟩
    · rintro tm g ⟨l2, a4, n2, c3, x4, hF, tot, hR1, hR4, hs⟩
      exact absurd hs (by simp [F.baizelaw35_CloseOrder.l1])
    clear tot hs hR1
    rintro k1 tm g ⟨l2, a4, n2, c3, x4, hF, tot, hR1, hR4, hs⟩
    clear ds
    obtain ⟨ds, rfl⟩ := hF.open
    clear hF
    unfold F.baizelaw35_CloseOrder.l1 at hs
    refine CP.seq ?_
    refine CP.seqR ?_
    refine WP.still 2 (by kernel_rfl) ?_
    refine WP.done (by kernel_rfl) ?_
    refine NX.then_n ?_
    refine CP.cond (b := decide (x4 ≥ 0)) (by kernel_rfl) (fun h6 => ?_) (fun h6 => ?_)
    · replace hs := of_if_t hs h6
      refine CP.skip ?_
      refine NX.then_n ?_
      refine CP.seq ?_
      refine CP.block ?_
      refine CP.region ?_
      refine WP.still 3 (by kernel_rfl) ?_
      by_cases hc5 : 0 ≤ x4 ∧ x4 < (l1.length : Int)
      case neg => rw [if_neg hc5] at hs; cases hs
      replace hs := of_if_p hs hc5
      obtain ⟨b3, u3, ha3⟩ := hR1.at hc5
      refine WP.indexA (t := 22) (e := 3) (sz := 1) (cap := c1) (k := .i64) (i := x4) hR1.len ha3 (by kernel_rfl) (by kernel_rfl) hc5 ?_
      obtain ⟨cs3, hcR3, hcV3⟩ := hR1.src.view (getI_some hc5) ha3
      replace hcR3 := Kd.o_int hcR3
      refine WP.loadV [[.int .i64 (getI l1 x4)]] [1] hcV3 hcR3 rfl (f := 0) (ty := 3) (agg := false) (size := 1) (rs := [[.int .i64 (getI l1 x4)]]) (v := .int .i64 (getI l1 x4)) (by kernel_rfl) (by kernel_rfl) (by kernel_rfl) (by kernel_rfl) ?_
      refine WP.mkSl (kd := (Kd.int .i64)) (t := 22) (e := 3) (bytes := 8) (t + 4) [.int .i64 (getI l1 x4)] [(getI l1 x4)] (by kernel_rfl) (by kernel_rfl) (Nat.le_of_ble_eq_true rfl) (Nat.le_of_ble_eq_true rfl) (all_cons rfl all_nil) (⟨_, _, rfl, (by exact rfl), rfl⟩) rfl ?_
      intro g13 a8 st13 hR8
      replace hR1 := hR1.mono st13 (fun x => x)
      replace hR4 := hR4.mono st13 (fun x => x) (fun x => x)
      replace tot := tot.trans st13.pure
      by_cases hc6 : l2.length + ([(getI l1 x4)]).length ≤ 17592186044416
      case neg => rw [if_neg hc6] at hs; cases hs
      replace hs := of_if_p hs hc6
      refine WP.append (kd := (Kd.int .i64)) (t := 22) (e := 3) (bytes := 8) (a2 := a8) (c2 := 1) hR4 hR8.src hR8.len (by kernel_rfl) (by kernel_rfl) (by omega) (by simp only [maxLen]; omega) (by omega) ?_
      intro g14 a9 c6 st14 hR9
      replace hR1 := hR1.mono st14 (WL.no1 (by omega))
      replace hR8 := hR8.mono st14 (WL.no1 (by omega)) (WL.no1 (by omega))
      replace tot := tot.trans (st14.up1 (.inr (by omega)))
      refine WP.still 1 (by kernel_rfl) ?_
      refine WP.done (by kernel_rfl) ?_
      refine NX.block_n ?_
      refine NX.then_n ?_
      refine CP.region ?_
      refine WP.still 3 (by kernel_rfl) ?_
      refine WP.done (by kernel_rfl) ?_
      refine NX.post ?_
      exact ⟨(l2 ++ [(getI l1 x4)]), a9, (n2 + 1), c6, (IntKind.i64.wrap (x4 - 1)), ⟨by kernel_rfl, by kernel_rfl⟩, tot, hR1, hR9, hs⟩
    · replace hs := of_if_f hs h6
      refine CP.exit ?_
      refine NX.then_e ?_
      refine NX.then_e ?_
      refine NX.block_s ?_
      refine NX.then_n ?_
      refine CP.cut (fun tm g => ∃ (q7 : Bool), Fr 39 [(4, .bool q7)] tm ∧ Step (fun l => NoM l ∨ t ≤ l) g0 g ∧ (F.baizelaw35_CloseOrder.c1 q7) = some o1) ?_ ?_
      · refine CP.region ?_
        refine WP.still 2 (by kernel_rfl) ?_
        refine WP.len (a := a1) (cp := c1) hR1.len (by kernel_rfl) ?_
        refine WP.still 1 (by kernel_rfl) ?_
        replace hs := Option.bind_eq_some_iff.1 hs
        obtain ⟨x10, hk11, hs⟩ := hs
        have hcal11 := P.close_Adds g x1 (l1.length : Int) l1 a1 n1 c1 hR1 x10 hk11
        refine WP.callC hcal11 (by kernel_rfl) ?_
        rintro _ g19 st19 rfl
        replace hR1 := hR1.mono st19 (fun x => x)
        replace hR4 := hR4.mono st19 (fun x => x) (fun x => x)
        replace tot := tot.trans st19.pure
        refine WP.still 2 (by kernel_rfl) ?_
        refine WP.len (a := a1) (cp := c1) hR1.len (by kernel_rfl) ?_
        refine WP.still 1 (by kernel_rfl) ?_
        replace hs := Option.bind_eq_some_iff.1 hs
        obtain ⟨x11, hk12, hs⟩ := hs
        obtain ⟨g21, hw3, st21, hnew⟩ := hR4.freeze (by omega)
        refine WP.regw hw3 ?_
        replace hR1 := hR1.mono st21 (WL.no1 (by omega))
        replace tot := tot.trans (st21.up1 (.inr (by omega)))
        clear hR4
        have hR4 := hnew
        clear hnew
        have hcal12 := P.close_Adds g21 x1 (l1.length : Int) l2 a4 n2 c3 hR4 x11 hk12
        refine WP.callC hcal12 (by kernel_rfl) ?_
        rintro _ g20 st20 rfl
        replace hR1 := hR1.mono st20 (fun x => x)
        replace hR4 := hR4.mono st20 (fun x => x)
        replace tot := tot.trans st20.pure
        refine WP.still 2 (by kernel_rfl) ?_
        refine WP.guard 36 (b := (x10 == x11)) (by kernel_rfl) (fun h8 => ?_) (fun h8 => ?_)
        · replace hs := of_if_t hs h8
          replace hs := Option.bind_eq_some_iff.1 hs
          obtain ⟨q8, hk13, hs⟩ := hs
          have hcal13 := P.baizelaw35_told g20 q8 hk13
          refine WP.callC hcal13 (by kernel_rfl) ?_
          rintro _ g22 st22 rfl
          replace hR1 := hR1.mono st22 (fun x => x)
          replace hR4 := hR4.mono st22 (fun x => x)
          replace tot := tot.trans st22.pure
          refine WP.still 2 (by kernel_rfl) ?_
          refine WP.done (by kernel_rfl) ?_
          refine NX.post ?_
          exact ⟨q8, ⟨by kernel_rfl, by kernel_rfl⟩, tot, hs⟩
        · replace hs := of_if_f hs h8
          refine WP.still 3 (by kernel_rfl) ?_
          refine WP.done (by kernel_rfl) ?_
          refine NX.post ?_
          exact ⟨false, ⟨by kernel_rfl, by kernel_rfl⟩, tot, hs⟩
      · clear tot hs hR1 hR4
        rintro tm g ⟨q7, hF, tot, hs⟩
        clear ds
        obtain ⟨ds, rfl⟩ := hF.open
        clear hF
        unfold F.baizelaw35_CloseOrder.c1 at hs
        refine CP.ret ?_
        replace hs := Option.some.inj hs
        obtain rfl := hs
        exact NX.fin (v := .bool q7) (Res.still (by kernel_rfl)) tot htL rfl
def wf_S_baizelaw35_Loss (x : S_baizelaw35_Loss) : Prop := (Lit.int .i64 x.f1).wf = true ∧ (Lit.int .i64 x.f2).wf = true ∧ (x.f3.length ≤ maxLen ∧ ∀ y ∈ x.f3, True)
end Go.Proofs.Ytahpmlekenbafaa
