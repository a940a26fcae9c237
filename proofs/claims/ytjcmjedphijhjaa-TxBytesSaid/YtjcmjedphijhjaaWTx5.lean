/-
  Walks, written by program: each Go function computes the plain function of its name, in whatever world its arguments' facts hold.
-/
import Derived.Test.YtjcmjedphijhjaaWTx4
namespace Go.Proofs.Ytjcmjedphijhjaa
open Go.RowKit Go.Lab
attribute [local irreducible] WP CP NX wpList Code.wp Calls
set_option maxRecDepth 100000
set_option maxHeartbeats 4000000
set_option linter.unusedVariables false

def F.baizelaw25_TxBytes.c2 (q3 : Bool) : Option (Bool) := (some q3)
def F.baizelaw25_TxBytes.c3 (q9 : Bool) : Option (Bool) := (some q9)
def N.baizelaw25_TxBytes_0 : List (List Nat) := [[], [0], [0, 1], [0, 1], [0, 1, 3], [0, 1, 3, 4], [0, 1, 2, 3, 4, 5], [0, 1, 2, 3, 4, 5, 6], [0, 1, 2, 3, 4, 5, 6, 7], [0, 1, 2, 3, 4, 5, 6, 7, 8], [0, 1, 2, 3, 4, 5, 6, 7, 8, 9], [0, 1, 2, 3, 4, 5, 6, 7, 8, 9, 10], [0, 1, 2, 3, 4, 5, 6, 7, 8, 9, 10, 11], [0, 1, 2, 3, 4, 5, 6, 7, 8, 9, 10, 11, 12], [0, 1, 2, 3, 4, 5, 6, 7, 8, 9, 10, 11, 12], [0, 1, 2, 3, 4, 5, 6, 7, 8, 9, 10, 11, 12, 13, 14], [0, 1, 2, 3, 4, 5, 6, 7, 8, 9, 10, 11, 12, 13, 14, 15], [0, 1, 2, 3, 4, 5, 6, 7, 8, 9, 10, 11, 12, 13, 14, 15, 16], [0, 1, 2, 3, 4, 5, 6, 7, 8, 9, 10, 11, 12, 13, 14, 15, 16, 17], [0, 1, 2, 3, 4, 5, 6, 7, 8, 9, 10, 11, 12, 13, 14, 15, 16, 17, 18], [0, 1, 2, 3, 4, 5, 6, 7, 8, 9, 10, 11, 12, 13, 14, 15, 16, 17], [0, 1, 2, 3, 4, 5, 6, 7, 8, 9, 10, 11, 12, 13, 14, 15, 16, 17, 18, 19, 20], [0, 1, 2, 3, 4, 5, 6, 7, 8, 9, 10, 11, 12, 13, 14, 15, 16, 17, 18, 19, 20, 21], [0, 1, 2, 3, 4, 5, 6, 7, 8, 9, 10, 11, 12, 13, 14, 15, 16, 17, 18, 19, 20, 21, 22], [0, 1, 2, 3, 4, 5, 6, 7, 8, 9, 10, 11, 12, 13, 14, 15, 16, 17, 18, 19, 20, 21, 22, 23]]
def F.baizelaw25_TxBytes.c1 (d2 : Arr Int 8) (x4 : Int) (x5 : Int) (x6 : Int) (l3 : List Int) (l4 : List Int) (x10 : Int) (l7 : List Int) (q1 : Bool) : Option (Bool) := (if q1 = true then (some false) else (if (x10 != 0) = true then ((F.baizelaw25_known).bind fun q4 => (if q4 = true then (F.baizelaw25_TxBytes.c2 ((l7.length : Int) == 0)) else (F.baizelaw25_TxBytes.c2 false))) else ((F.tx_Decode l7).bind fun (d4, x13, x14, x15, l8, l9, x16) => ((F.baizelaw25_known).bind fun q10 => (if q10 = true then ((F.baizelaw25_Of d2 x4 x5 x6 l3 l4).bind fun (d8, x26, x27, x28, l17, l18) => ((F.baizeref25_Bytes d8 x26 x27 x28 l17 l18).bind fun l19 => ((F.baizeref01_Same l7 l19).bind fun q11 => (if q11 = true then (if (x16 == 0) = true then ((F.tx_Tx_Same d4 x13 x14 x15 l8 l9 d2 x4 x5 x6 l3 l4).bind fun q12 => (if q12 = true then ((F.baizelaw25_Of d4 x13 x14 x15 l8 l9).bind fun (d9, x29, x30, x31, l20, l21) => ((F.baizelaw25_Of d2 x4 x5 x6 l3 l4).bind fun (d10, x32, x33, x34, l22, l23) => ((F.baizeref25_Same d9 x29 x30 x31 l20 l21 d10 x32 x33 x34 l22 l23).bind fun q13 => (F.baizelaw25_TxBytes.c3 q13)))) else (F.baizelaw25_TxBytes.c3 false))) else (F.baizelaw25_TxBytes.c3 false)) else (F.baizelaw25_TxBytes.c3 false))))) else (F.baizelaw25_TxBytes.c3 false))))))
def F.baizelaw25_TxBytes (d1 : Arr Int 8) (x1 : Int) (x2 : Int) (x3 : Int) (l1 : List Int) (l2 : List Int) : Option (Bool) := ((F.baizelaw25_Cut d1 x1 x2 x3 l1 l2).bind fun (d2, x4, x5, x6, l3, l4) => ((F.baizelaw25_Of d2 x4 x5 x6 l3 l4).bind fun (d3, x7, x8, x9, l5, l6) => ((F.baizeref25_Check d3 x7 x8 x9 l5 l6).bind fun x10 => ((F.tx_Tx_Encode d2 x4 x5 x6 l3 l4).bind fun (l7, x11) => ((F.tx_Tx_Check d2 x4 x5 x6 l3 l4).bind fun x35 => (if (x35 != x10) = true then (F.baizelaw25_TxBytes.c1 d2 x4 x5 x6 l3 l4 x10 l7 true) else (F.baizelaw25_TxBytes.c1 d2 x4 x5 x6 l3 l4 x10 l7 (x11 != x10))))))))
theorem P.baizelaw25_TxBytes (g0 : GW) (d1 : Arr Int 8) (x1 : Int) (x2 : Int) (x3 : Int) (l1 : List Int) (l2 : List Int) (a1 : Option Addr) (n1 : Nat) (c1 : Nat) (a2 : Option Addr) (n2 : Nat) (c2 : Nat) (hR1 : RdS (Kd.int .u8) g0 5 a1 n1 c1 l1) (hR2 : RdS (Kd.int .u8) g0 5 a2 n2 c2 l2) (o1 : Bool) (hs : F.baizelaw25_TxBytes d1 x1 x2 x3 l1 l2 = some o1) :
    Calls Try.prog 7 #[AG [encA .u8 d1, [.int .i64 x1], [.int .i64 x2], [.int .i64 x3], [.slice a1 n1 c1], [.slice a2 n2 c2]]] g0.w (Ret NoM g0 fun v g => v = .bool o1) := by
  refine calls_of (args := [AG [encA .u8 d1, [.int .i64 x1], [.int .i64 x2], [.int .i64 x3], [.slice a1 n1 c1], [.slice a2 n2 c2]]]) Try.func7 rfl (0) ?_
  intro t ht htL
  refine ⟨_, rfl, ?_⟩
  refine CP.refr 64 [(0, AG [encA .u8 d1, [.int .i64 x1], [.int .i64 x2], [.int .i64 x3], [.slice a1 n1 c1], [.slice a2 n2 c2]])] (by kernel_rfl) (by kernel_rfl) ?_
  intro ds
  have tot : Step (fun l => NoM l ∨ t ≤ l) g0 g0 := Step.refl _ _
  unfold F.baizelaw25_TxBytes at hs
  refine CP.seqR ?_
  refine WP.alloc (T := 26) (t + 1) [encA .u8 d1, [.int .i64 x1], [.int .i64 x2], [.int .i64 x3], [.slice a1 n1 c1], [.slice a2 n2 c2]] [8, 1, 1, 1, 1, 1] (by kernel_rfl) (by simp [len_encA]) ?_
  intro g1 b1 st1 hB1
  replace hR1 := hR1.mono st1 (fun x => x)
  replace hR2 := hR2.mono st1 (fun x => x)
  replace tot := tot.trans st1.pure
  refine WP.still 1 (by kernel_rfl) ?_
  refine WP.done (by kernel_rfl) ?_
  refine NX.then_n ?_
  refine CP.seqR ?_
  refine WP.loadB (v := AG [encA .u8 d1, [.int .i64 x1], [.int .i64 x2], [.int .i64 x3], [.slice a1 n1 c1], [.slice a2 n2 c2]]) hB1 (by kernel_rfl) (by kernel_rfl) ?_
  replace hs := Option.bind_eq_some_iff.1 hs
  obtain ⟨⟨d2, x4, x5, x6, l3, l4⟩, hk1, hs⟩ := hs
  dsimp only at hs
  have hcal1 := P.baizelaw25_Cut g1 d1 x1 x2 x3 l1 l2 a1 n1 c1 a2 n2 c2 hR1 hR2 d2 x4 x5 x6 l3 l4 hk1
  refine WP.callC hcal1 (by kernel_rfl) ?_
  rintro _ g2 st2 ⟨a3, n3, c3, a4, n4, c4, rfl, hR3, hR4⟩
  replace hB1 := hB1.mono st2 (fun x => x)
  replace hR1 := hR1.mono st2 (fun x => x)
  replace hR2 := hR2.mono st2 (fun x => x)
  replace tot := tot.trans st2.pure
  refine WP.storeB (ty := 26) (off := 0) (v := AG [encA .u8 d2, [.int .i64 x4], [.int .i64 x5], [.int .i64 x6], [.slice a3 n3 c3], [.slice a4 n4 c4]]) hB1 [encA .u8 d2, [.int .i64 x4], [.int .i64 x5], [.int .i64 x6], [.slice a3 n3 c3], [.slice a4 n4 c4]] [8, 1, 1, 1, 1, 1] (by kernel_rfl) (by kernel_rfl) (by simp [len_encA]) (by kernel_rfl) [encA .u8 d2, [.int .i64 x4], [.int .i64 x5], [.int .i64 x6], [.slice a3 n3 c3], [.slice a4 n4 c4]] (by kernel_rfl) (.arr (.one rfl (.one rfl (.one rfl (.one rfl (.one rfl .nil)))))) ?_
  intro g3 st3 hB2
  replace hR3 := hR3.mono st3 (WL.no1 (by omega))
  replace hR4 := hR4.mono st3 (WL.no1 (by omega))
  replace hR1 := hR1.mono st3 (WL.no1 (by omega))
  replace hR2 := hR2.mono st3 (WL.no1 (by omega))
  replace tot := tot.trans (st3.up1 (.inr (by omega)))
  clear hB1
  have hB1 := hB2
  clear hB2
  refine WP.done (by kernel_rfl) ?_
  refine NX.then_n ?_
  refine CP.seqR ?_
  refine WP.loadB (v := AG [encA .u8 d2, [.int .i64 x4], [.int .i64 x5], [.int .i64 x6], [.slice a3 n3 c3], [.slice a4 n4 c4]]) hB1 (by kernel_rfl) (by kernel_rfl) ?_
  replace hs := Option.bind_eq_some_iff.1 hs
  obtain ⟨⟨d3, x7, x8, x9, l5, l6⟩, hk2, hs⟩ := hs
  dsimp only at hs
  have hcal2 := P.baizelaw25_Of g3 d2 x4 x5 x6 l3 l4 a3 n3 c3 a4 n4 c4 hR3 hR4 d3 x7 x8 x9 l5 l6 hk2
  refine WP.callC hcal2 (by kernel_rfl) ?_
  rintro _ g4 st4 ⟨a5, n5, c5, a6, n6, c6, rfl, hR5, hR6⟩
  replace hB1 := hB1.mono st4 (fun x => x)
  replace hR3 := hR3.mono st4 (fun x => x)
  replace hR4 := hR4.mono st4 (fun x => x)
  replace tot := tot.trans st4.pure
  replace hs := Option.bind_eq_some_iff.1 hs
  obtain ⟨x10, hk3, hs⟩ := hs
  have hcal3 := P.baizeref25_Check g4 d3 x7 x8 x9 l5 l6 a5 n5 c5 a6 n6 c6 hR5 hR6 x10 hk3
  refine WP.callC hcal3 (by kernel_rfl) ?_
  rintro _ g5 st5 rfl
  replace hB1 := hB1.mono st5 (fun x => x)
  replace hR3 := hR3.mono st5 (fun x => x)
  replace hR4 := hR4.mono st5 (fun x => x)
  replace hR5 := hR5.mono st5 (fun x => x)
  replace hR6 := hR6.mono st5 (fun x => x)
  replace tot := tot.trans st5.pure
  refine WP.still 1 (by kernel_rfl) ?_
  refine WP.done (by kernel_rfl) ?_
  refine NX.then_n ?_
  refine CP.seqR ?_
  refine WP.loadB (v := AG [encA .u8 d2, [.int .i64 x4], [.int .i64 x5], [.int .i64 x6], [.slice a3 n3 c3], [.slice a4 n4 c4]]) hB1 (by kernel_rfl) (by kernel_rfl) ?_
  replace hs := Option.bind_eq_some_iff.1 hs
  obtain ⟨⟨l7, x11⟩, hk4, hs⟩ := hs
  dsimp only at hs
  have hcal4 := P.tx_Tx_Encode g5 (t + 2) d2 x4 x5 x6 l3 l4 a3 n3 c3 a4 n4 c4 hR3 hR4 l7 x11 hk4
  refine WP.callC hcal4 (by kernel_rfl) ?_
  rintro _ g6 st6 ⟨a7, n7, c7, rfl, hR7⟩
  replace hB1 := hB1.mono st6 (fun x => x)
  replace hR3 := hR3.mono st6 (fun x => x)
  replace hR4 := hR4.mono st6 (fun x => x)
  replace tot := tot.trans st6.pure
  refine WP.still 5 (by kernel_rfl) ?_
  refine WP.done (by kernel_rfl) ?_
  refine NX.then_n ?_
  refine CP.refr 64 [(1, .pointer (some ⟨b1, 0, none⟩)), (3, .int .i64 x10), (4, .slice a7 n7 c7), (5, .int .i64 x11)] (by kernel_rfl) (by kernel_rfl) ?_
  clear ds
  intro ds
  refine CP.seq ?_
  refine CP.cut (fun tm g => ∃ (q1 : Bool), Fr 64 [(1, .pointer (some ⟨b1, 0, none⟩)), (3, .int .i64 x10), (4, .slice a7 n7 c7), (26, .bool q1)] tm ∧ Step (fun l => NoM l ∨ t ≤ l) g0 g ∧ Box g (t + 1) b1 26 [encA .u8 d2, [.int .i64 x4], [.int .i64 x5], [.int .i64 x6], [.slice a3 n3 c3], [.slice a4 n4 c4]] [8, 1, 1, 1, 1, 1] ∧ RdS (Kd.int .u8) g 5 a3 n3 c3 l3 ∧ RdS (Kd.int .u8) g 5 a4 n4 c4 l4 ∧ OwnS (Kd.int .u8) g (t + 2) 5 a7 n7 c7 l7 ∧ (F.baizelaw25_TxBytes.c1 d2 x4 x5 x6 l3 l4 x10 l7 q1) = some o1) ?_ ?_
  · refine CP.region ?_
    refine WP.loadB (v := AG [encA .u8 d2, [.int .i64 x4], [.int .i64 x5], [.int .i64 x6], [.slice a3 n3 c3], [.slice a4 n4 c4]]) hB1 (by kernel_rfl) (by kernel_rfl) ?_
    replace hs := Option.bind_eq_some_iff.1 hs
    obtain ⟨x35, hk25, hs⟩ := hs
    have hcal25 := P.tx_Tx_Check g6 d2 x4 x5 x6 l3 l4 a3 n3 c3 a4 n4 c4 hR3 hR4 x35 hk25
    refine WP.callC hcal25 (by kernel_rfl) ?_
    rintro _ g37 st37 rfl
    replace hB1 := hB1.mono st37 (fun x => x)
    replace hR3 := hR3.mono st37 (fun x => x)
    replace hR4 := hR4.mono st37 (fun x => x)
    replace hR7 := hR7.mono st37 (fun x => x) (fun x => x)
    replace tot := tot.trans st37.pure
    refine WP.still 3 (by kernel_rfl) ?_
    refine WP.guard 22 (b := (x35 != x10)) (by kernel_rfl) (fun h14 => ?_) (fun h14 => ?_)
    · replace hs := of_if_t hs h14
      refine WP.still 4 (by kernel_rfl) ?_
      refine WP.done (by kernel_rfl) ?_
      refine NX.post ?_
      exact ⟨true, ⟨by kernel_rfl, by kernel_rfl⟩, tot, hB1, hR3, hR4, hR7, hs⟩
    replace hs := of_if_f hs h14
    refine WP.still 4 (by kernel_rfl) ?_
    refine WP.done (by kernel_rfl) ?_
    refine NX.post ?_
    exact ⟨(x11 != x10), ⟨by kernel_rfl, by kernel_rfl⟩, tot, hB1, hR3, hR4, hR7, hs⟩
  clear tot hs hB1 hR3 hR4 hR7
  rintro tm g ⟨q1, hF, tot, hB1, hR3, hR4, hR7, hs⟩
  clear ds
  obtain ⟨ds, rfl⟩ := hF.open
  clear hF
  unfold F.baizelaw25_TxBytes.c1 at hs
  refine CP.cond (b := q1) (by kernel_rfl) (fun h2 => ?_) (fun h2 => ?_)
  · replace hs := of_if_t hs h2
    refine CP.seqR ?_
    refine WP.still 1 (by kernel_rfl) ?_
    refine WP.done (by kernel_rfl) ?_
    refine NX.then_n ?_
    refine CP.ret ?_
    refine NX.then_r ?_
    replace hs := Option.some.inj hs
    obtain rfl := hs
    exact NX.fin (v := .bool false) (Res.still (by kernel_rfl)) tot htL rfl
  replace hs := of_if_f hs h2
  refine CP.skip ?_
  refine NX.then_n ?_
  refine CP.seq ?_
  refine CP.seqR ?_
  refine WP.still 2 (by kernel_rfl) ?_
  refine WP.done (by kernel_rfl) ?_
  refine NX.then_n ?_
  refine CP.cond (b := (x10 != 0)) (by kernel_rfl) (fun h3 => ?_) (fun h3 => ?_)
  · replace hs := of_if_t hs h3
    refine CP.cut (fun tm g => ∃ (q3 : Bool), Fr 64 [(2, .bool q3)] tm ∧ Step (fun l => NoM l ∨ t ≤ l) g0 g ∧ (F.baizelaw25_TxBytes.c2 q3) = some o1) ?_ ?_
    · refine CP.region ?_
      replace hs := Option.bind_eq_some_iff.1 hs
      obtain ⟨q4, hk7, hs⟩ := hs
      have hcal7 := P.baizelaw25_known g q4 hk7
      refine WP.callC hcal7 (by kernel_rfl) ?_
      rintro _ g9 st9 rfl
      replace hB1 := hB1.mono st9 (fun x => x)
      replace hR3 := hR3.mono st9 (fun x => x)
      replace hR4 := hR4.mono st9 (fun x => x)
      replace hR7 := hR7.mono st9 (fun x => x) (fun x => x)
      replace tot := tot.trans st9.pure
      refine WP.still 1 (by kernel_rfl) ?_
      refine WP.guard 30 (b := q4) (by kernel_rfl) (fun h5 => ?_) (fun h5 => ?_)
      · replace hs := of_if_t hs h5
        refine WP.still 1 (by kernel_rfl) ?_
        refine WP.len (a := a7) (cp := c7) hR7.len (by kernel_rfl) ?_
        refine WP.still 3 (by kernel_rfl) ?_
        refine WP.done (by kernel_rfl) ?_
        refine NX.post ?_
        exact ⟨((l7.length : Int) == 0), ⟨by kernel_rfl, by kernel_rfl⟩, tot, hs⟩
      replace hs := of_if_f hs h5
      refine WP.still 5 (by kernel_rfl) ?_
      refine WP.done (by kernel_rfl) ?_
      refine NX.post ?_
      exact ⟨false, ⟨by kernel_rfl, by kernel_rfl⟩, tot, hs⟩
    clear tot hs hB1 hR3 hR4 hR7
    rintro tm g ⟨q3, hF, tot, hs⟩
    clear ds
    obtain ⟨ds, rfl⟩ := hF.open
    clear hF
    unfold F.baizelaw25_TxBytes.c2 at hs
    refine CP.ret ?_
    refine NX.then_r ?_
    replace hs := Option.some.inj hs
    obtain rfl := hs
    exact NX.fin (v := .bool q3) (Res.still (by kernel_rfl)) tot htL rfl
  replace hs := of_if_f hs h3
  refine CP.skip ?_
  refine NX.then_n ?_
  refine CP.seqR ?_
  refine WP.still 1 (by kernel_rfl) ?_
  replace hs := Option.bind_eq_some_iff.1 hs
  obtain ⟨⟨d4, x13, x14, x15, l8, l9, x16⟩, hk8, hs⟩ := hs
  dsimp only at hs
  obtain ⟨g11, hw1, st11, hnew⟩ := hR7.freeze (by omega)
  refine WP.regw hw1 ?_
  replace hB1 := hB1.mono st11 (WL.no1 (by omega))
  replace hR3 := hR3.mono st11 (WL.no1 (by omega))
  replace hR4 := hR4.mono st11 (WL.no1 (by omega))
  replace tot := tot.trans (st11.up1 (.inr (by omega)))
  clear hR7
  have hR7 := hnew
  clear hnew
  have hcal8 := P.tx_Decode g11 l7 a7 n7 c7 hR7 d4 x13 x14 x15 l8 l9 x16 hk8
  refine WP.callC hcal8 (by kernel_rfl) ?_
  rintro _ g10 st10 ⟨a8, n8, c8, a9, n9, c9, rfl, hR8, hR9⟩
  replace hB1 := hB1.mono st10 (fun x => x)
  replace hR3 := hR3.mono st10 (fun x => x)
  replace hR4 := hR4.mono st10 (fun x => x)
  replace hR7 := hR7.mono st10 (fun x => x)
  replace tot := tot.trans st10.pure
  refine WP.still 3 (by kernel_rfl) ?_
  refine WP.alloc (T := 26) (t + 3) [encA .u8 (zA 8), [.int .i64 0], [.int .i64 0], [.int .i64 0], [.slice none 0 0], [.slice none 0 0]] [8, 1, 1, 1, 1, 1] (by kernel_rfl) (by simp [len_encA]) ?_
  intro g12 b2 st12 hB3
  replace hB1 := hB1.mono st12 (fun x => x)
  replace hR3 := hR3.mono st12 (fun x => x)
  replace hR4 := hR4.mono st12 (fun x => x)
  replace hR7 := hR7.mono st12 (fun x => x)
  replace hR8 := hR8.mono st12 (fun x => x)
  replace hR9 := hR9.mono st12 (fun x => x)
  replace tot := tot.trans st12.pure
  refine WP.storeB (ty := 26) (off := 0) (v := AG [encA .u8 d4, [.int .i64 x13], [.int .i64 x14], [.int .i64 x15], [.slice a8 n8 c8], [.slice a9 n9 c9]]) hB3 [encA .u8 d4, [.int .i64 x13], [.int .i64 x14], [.int .i64 x15], [.slice a8 n8 c8], [.slice a9 n9 c9]] [8, 1, 1, 1, 1, 1] (by kernel_rfl) (by kernel_rfl) (by simp [len_encA]) (by kernel_rfl) [encA .u8 d4, [.int .i64 x13], [.int .i64 x14], [.int .i64 x15], [.slice a8 n8 c8], [.slice a9 n9 c9]] (by kernel_rfl) (.arr (.one rfl (.one rfl (.one rfl (.one rfl (.one rfl .nil)))))) ?_
  intro g13 st13 hB4
  replace hB1 := hB1.mono st13 (WL.no1 (by omega))
  replace hR3 := hR3.mono st13 (WL.no1 (by omega))
  replace hR4 := hR4.mono st13 (WL.no1 (by omega))
  replace hR7 := hR7.mono st13 (WL.no1 (by omega))
  replace hR8 := hR8.mono st13 (WL.no1 (by omega))
  replace hR9 := hR9.mono st13 (WL.no1 (by omega))
  replace tot := tot.trans (st13.up1 (.inr (by omega)))
  clear hB3
  have hB3 := hB4
  clear hB4
  refine WP.still 1 (by kernel_rfl) ?_
  refine WP.done (by kernel_rfl) ?_
  refine NX.then_n ?_
  refine CP.cut (fun tm g => ∃ (q9 : Bool), Fr 64 [(2, .bool q9)] tm ∧ Step (fun l => NoM l ∨ t ≤ l) g0 g ∧ (F.baizelaw25_TxBytes.c3 q9) = some o1) ?_ ?_
  · replace hs := Option.bind_eq_some_iff.1 hs
    obtain ⟨q10, hk17, hs⟩ := hs
    refine bool_split (b := q10) (fun h10 => ?_) (fun h10 => ?_)
    · replace hs := of_if_t hs h10
      replace hs := Option.bind_eq_some_iff.1 hs
      obtain ⟨⟨d8, x26, x27, x28, l17, l18⟩, hk18, hs⟩ := hs
      dsimp only at hs
      replace hs := Option.bind_eq_some_iff.1 hs
      obtain ⟨l19, hk19, hs⟩ := hs
      replace hs := Option.bind_eq_some_iff.1 hs
      obtain ⟨q11, hk20, hs⟩ := hs
      refine bool_split (b := q11) (fun h11 => ?_) (fun h11 => ?_)
      · replace hs := of_if_t hs h11
        refine bool_split (b := (x16 == 0)) (fun h12 => ?_) (fun h12 => ?_)
        · replace hs := of_if_t hs h12
          replace hs := Option.bind_eq_some_iff.1 hs
          obtain ⟨q12, hk21, hs⟩ := hs
          refine bool_split (b := q12) (fun h13 => ?_) (fun h13 => ?_)
          · replace hs := of_if_t hs h13
            replace hs := Option.bind_eq_some_iff.1 hs
            obtain ⟨⟨d9, x29, x30, x31, l20, l21⟩, hk22, hs⟩ := hs
            dsimp only at hs
            replace hs := Option.bind_eq_some_iff.1 hs
            obtain ⟨⟨d10, x32, x33, x34, l22, l23⟩, hk23, hs⟩ := hs
            dsimp only at hs
            replace hs := Option.bind_eq_some_iff.1 hs
            obtain ⟨q13, hk24, hs⟩ := hs
            refine CP.drawL (by kernel_rfl) [0, 1, 3, 4, 5, 6, 8, 12, 13, 14, 15, 17, 18, 19, 20, 21, 22] N.baizelaw25_TxBytes_0 [⟨none, [], [], fun l g => Box g (t + 1) b1 26 [encA .u8 d2, [.int .i64 x4], [.int .i64 x5], [.int .i64 x6], [.slice a3 n3 c3], [.slice a4 n4 c4]] [8, 1, 1, 1, 1, 1]⟩, ⟨none, [], [], fun l g => RdS (Kd.int .u8) g 5 a3 n3 c3 l3⟩, ⟨none, [], [], fun l g => RdS (Kd.int .u8) g 5 a4 n4 c4 l4⟩, ⟨none, [], [], fun l g => RdS (Kd.int .u8) g 5 a7 n7 c7 l7⟩, ⟨none, [], [], fun l g => Box g (t + 3) b2 26 [encA .u8 d4, [.int .i64 x13], [.int .i64 x14], [.int .i64 x15], [.slice a8 n8 c8], [.slice a9 n9 c9]] [8, 1, 1, 1, 1, 1]⟩, ⟨none, [], [], fun l g => RdS (Kd.int .u8) g 5 a8 n8 c8 l8⟩, ⟨none, [], [], fun l g => RdS (Kd.int .u8) g 5 a9 n9 c9 l9⟩, ⟨some 0, [], [0], fun l g => l.getD 0 undef = .bool q10⟩, ⟨some 1, [], [1], fun l g => l.getD 0 undef = .bool true⟩, ⟨some 2, [], [2], fun l g => l.getD 0 undef = AG [encA .u8 d2, [.int .i64 x4], [.int .i64 x5], [.int .i64 x6], [.slice a3 n3 c3], [.slice a4 n4 c4]]⟩, ⟨some 3, [], [3], fun l g => ∃ (a17 : Option Addr) (c17 : Nat) (a18 : Option Addr) (c18 : Nat), l.getD 0 undef = AG [encA .u8 d8, [.int .i64 x26], [.int .i64 x27], [.int .i64 x28], [.slice a17 l17.length c17], [.slice a18 l18.length c18]] ∧ RdS (Kd.int .u8) g 5 a17 l17.length c17 l17 ∧ RdS (Kd.int .u8) g 5 a18 l18.length c18 l18⟩, ⟨some 4, [0], [4], fun l g => ∃ (a19 : Option Addr) (c19 : Nat), l.getD 0 undef = .slice a19 l19.length c19 ∧ OwnS (Kd.int .u8) g (t + 5) 5 a19 l19.length c19 l19⟩, ⟨some 5, [], [5], fun l g => l.getD 0 undef = .bool q11⟩, ⟨some 5, [0], [4], fun l g => ∃ (a19 : Option Addr) (c19 : Nat), l.getD 0 undef = .slice a19 l19.length c19 ∧ OwnS (Kd.int .u8) g (t + 5) 5 a19 l19.length c19 l19⟩, ⟨some 6, [], [6], fun l g => l.getD 0 undef = .bool true⟩, ⟨some 7, [], [7], fun l g => l.getD 0 undef = .bool true⟩, ⟨some 8, [], [8], fun l g => l.getD 0 undef = AG [encA .u8 d4, [.int .i64 x13], [.int .i64 x14], [.int .i64 x15], [.slice a8 n8 c8], [.slice a9 n9 c9]]⟩, ⟨some 9, [], [9], fun l g => l.getD 0 undef = AG [encA .u8 d2, [.int .i64 x4], [.int .i64 x5], [.int .i64 x6], [.slice a3 n3 c3], [.slice a4 n4 c4]]⟩, ⟨some 10, [], [10], fun l g => l.getD 0 undef = .bool q12⟩, ⟨some 11, [], [11], fun l g => l.getD 0 undef = .bool true⟩, ⟨some 12, [], [12], fun l g => l.getD 0 undef = AG [encA .u8 d4, [.int .i64 x13], [.int .i64 x14], [.int .i64 x15], [.slice a8 n8 c8], [.slice a9 n9 c9]]⟩, ⟨some 13, [], [13], fun l g => ∃ (a20 : Option Addr) (c20 : Nat) (a21 : Option Addr) (c21 : Nat), l.getD 0 undef = AG [encA .u8 d9, [.int .i64 x29], [.int .i64 x30], [.int .i64 x31], [.slice a20 l20.length c20], [.slice a21 l21.length c21]] ∧ RdS (Kd.int .u8) g 5 a20 l20.length c20 l20 ∧ RdS (Kd.int .u8) g 5 a21 l21.length c21 l21⟩, ⟨some 14, [], [14], fun l g => l.getD 0 undef = AG [encA .u8 d2, [.int .i64 x4], [.int .i64 x5], [.int .i64 x6], [.slice a3 n3 c3], [.slice a4 n4 c4]]⟩, ⟨some 15, [], [15], fun l g => ∃ (a22 : Option Addr) (c22 : Nat) (a23 : Option Addr) (c23 : Nat), l.getD 0 undef = AG [encA .u8 d10, [.int .i64 x32], [.int .i64 x33], [.int .i64 x34], [.slice a22 l22.length c22], [.slice a23 l23.length c23]] ∧ RdS (Kd.int .u8) g 5 a22 l22.length c22 l22 ∧ RdS (Kd.int .u8) g 5 a23 l23.length c23 l23⟩, ⟨some 16, [], [16], fun l g => l.getD 0 undef = .bool q13⟩] [[], [], [], [], [], [0], [], [], [], [], [], [], [], [], [], [], []] [(t + 5)] [] [2, 7, 9, 10, 11, 16, 23, 24] (by kernel_rfl) (by simp <;> omega) (by simp) ⟨fun _ _ _ _ st h0 hl hj hB1 => (hB1.mono st (fun h => absurd (hl _ h) (by simp <;> omega))), fun _ _ _ _ st h0 hl hj hR3 => (RdS.mono (e := 5) hR3 st h0), fun _ _ _ _ st h0 hl hj hR4 => (RdS.mono (e := 5) hR4 st h0), fun _ _ _ _ st h0 hl hj hR7 => (RdS.mono (e := 5) hR7 st h0), fun _ _ _ _ st h0 hl hj hB3 => (hB3.mono st (fun h => absurd (hl _ h) (by simp <;> omega))), fun _ _ _ _ st h0 hl hj hR8 => (RdS.mono (e := 5) hR8 st h0), fun _ _ _ _ st h0 hl hj hR9 => (RdS.mono (e := 5) hR9 st h0), fun _ _ _ _ st h0 hl hj e => e, fun _ _ _ _ st h0 hl hj e => e, fun _ _ _ _ st h0 hl hj e => e, fun _ _ _ _ st h0 hl hj ⟨a17, c17, a18, c18, e, hR17, hR18⟩ => ⟨a17, c17, a18, c18, e, (RdS.mono (e := 5) hR17 st h0), (RdS.mono (e := 5) hR18 st h0)⟩, fun _ _ _ _ st h0 hl hj ⟨a19, c19, e, hR19⟩ => ⟨a19, c19, e, (hR19.mono st h0 (hj 0 (by simp) _ rfl))⟩, fun _ _ _ _ st h0 hl hj e => e, fun _ _ _ _ st h0 hl hj ⟨a19, c19, e, hR19⟩ => ⟨a19, c19, e, (hR19.mono st h0 (hj 0 (by simp) _ rfl))⟩, fun _ _ _ _ st h0 hl hj e => e, fun _ _ _ _ st h0 hl hj e => e, fun _ _ _ _ st h0 hl hj e => e, fun _ _ _ _ st h0 hl hj e => e, fun _ _ _ _ st h0 hl hj e => e, fun _ _ _ _ st h0 hl hj e => e, fun _ _ _ _ st h0 hl hj e => e, fun _ _ _ _ st h0 hl hj ⟨a20, c20, a21, c21, e, hR20, hR21⟩ => ⟨a20, c20, a21, c21, e, (RdS.mono (e := 5) hR20 st h0), (RdS.mono (e := 5) hR21 st h0)⟩, fun _ _ _ _ st h0 hl hj e => e, fun _ _ _ _ st h0 hl hj ⟨a22, c22, a23, c23, e, hR22, hR23⟩ => ⟨a22, c22, a23, c23, e, (RdS.mono (e := 5) hR22 st h0), (RdS.mono (e := 5) hR23 st h0)⟩, fun _ _ _ _ st h0 hl hj e => e, trivial⟩ ⟨hB1, hR3, hR4, hR7, hB3, hR8, hR9, trivial, trivial, trivial, trivial, trivial, trivial, trivial, trivial, trivial, trivial, trivial, trivial, trivial, trivial, trivial, trivial, trivial, trivial, trivial⟩ (by kernel_rfl) (fun vs => by kernel_rfl) ?_ ?_ ?_
            · intro j hj
              have hq : j = 0 ∨ j = 1 ∨ j = 2 ∨ j = 3 ∨ j = 4 ∨ j = 5 ∨ j = 6 ∨ j = 7 := by have h : j < 8 := hj; omega
              rcases hq with rfl | rfl | rfl | rfl | rfl | rfl | rfl | rfl
              · intro vs gq stq hl hf
                replace hl : vs.length = 17 := hl
                obtain ⟨v0, vs0, rfl, hl0⟩ := len_succ hl
                obtain ⟨v1, vs1, rfl, hl1⟩ := len_succ hl0
                obtain ⟨v2, vs2, rfl, hl2⟩ := len_succ hl1
                obtain ⟨v3, vs3, rfl, hl3⟩ := len_succ hl2
                obtain ⟨v4, vs4, rfl, hl4⟩ := len_succ hl3
                obtain ⟨v5, vs5, rfl, hl5⟩ := len_succ hl4
                obtain ⟨v6, vs6, rfl, hl6⟩ := len_succ hl5
                obtain ⟨v7, vs7, rfl, hl7⟩ := len_succ hl6
                obtain ⟨v8, vs8, rfl, hl8⟩ := len_succ hl7
                obtain ⟨v9, vs9, rfl, hl9⟩ := len_succ hl8
                obtain ⟨v10, vs10, rfl, hl10⟩ := len_succ hl9
                obtain ⟨v11, vs11, rfl, hl11⟩ := len_succ hl10
                obtain ⟨v12, vs12, rfl, hl12⟩ := len_succ hl11
                obtain ⟨v13, vs13, rfl, hl13⟩ := len_succ hl12
                obtain ⟨v14, vs14, rfl, hl14⟩ := len_succ hl13
                obtain ⟨v15, vs15, rfl, hl15⟩ := len_succ hl14
                obtain ⟨v16, vs16, rfl, hl16⟩ := len_succ hl15
                obtain rfl := len_zero hl16
                have e := (show v1 = .bool true from hf _ (List.mem_of_getElem? (i := 8) rfl) (by kernel_rfl))
                subst e
                show Option.isSome _ = true
                kernel_rfl
              · intro vs gq stq hl hf
                replace hl : vs.length = 17 := hl
                obtain ⟨v0, vs0, rfl, hl0⟩ := len_succ hl
                obtain ⟨v1, vs1, rfl, hl1⟩ := len_succ hl0
                obtain ⟨v2, vs2, rfl, hl2⟩ := len_succ hl1
                obtain ⟨v3, vs3, rfl, hl3⟩ := len_succ hl2
                obtain ⟨v4, vs4, rfl, hl4⟩ := len_succ hl3
                obtain ⟨v5, vs5, rfl, hl5⟩ := len_succ hl4
                obtain ⟨v6, vs6, rfl, hl6⟩ := len_succ hl5
                obtain ⟨v7, vs7, rfl, hl7⟩ := len_succ hl6
                obtain ⟨v8, vs8, rfl, hl8⟩ := len_succ hl7
                obtain ⟨v9, vs9, rfl, hl9⟩ := len_succ hl8
                obtain ⟨v10, vs10, rfl, hl10⟩ := len_succ hl9
                obtain ⟨v11, vs11, rfl, hl11⟩ := len_succ hl10
                obtain ⟨v12, vs12, rfl, hl12⟩ := len_succ hl11
                obtain ⟨v13, vs13, rfl, hl13⟩ := len_succ hl12
                obtain ⟨v14, vs14, rfl, hl14⟩ := len_succ hl13
                obtain ⟨v15, vs15, rfl, hl15⟩ := len_succ hl14
                obtain ⟨v16, vs16, rfl, hl16⟩ := len_succ hl15
                obtain rfl := len_zero hl16
                have e := (show v1 = .bool true from hf _ (List.mem_of_getElem? (i := 8) rfl) (by kernel_rfl))
                subst e
                have e := (show v5 = .bool q11 from hf _ (List.mem_of_getElem? (i := 12) rfl) (by kernel_rfl))
                subst e
                show Option.isSome _ = true
                kernel_rfl
              · intro vs gq stq hl hf
                replace hl : vs.length = 17 := hl
                obtain ⟨v0, vs0, rfl, hl0⟩ := len_succ hl
                obtain ⟨v1, vs1, rfl, hl1⟩ := len_succ hl0
                obtain ⟨v2, vs2, rfl, hl2⟩ := len_succ hl1
                obtain ⟨v3, vs3, rfl, hl3⟩ := len_succ hl2
                obtain ⟨v4, vs4, rfl, hl4⟩ := len_succ hl3
                obtain ⟨v5, vs5, rfl, hl5⟩ := len_succ hl4
                obtain ⟨v6, vs6, rfl, hl6⟩ := len_succ hl5
                obtain ⟨v7, vs7, rfl, hl7⟩ := len_succ hl6
                obtain ⟨v8, vs8, rfl, hl8⟩ := len_succ hl7
                obtain ⟨v9, vs9, rfl, hl9⟩ := len_succ hl8
                obtain ⟨v10, vs10, rfl, hl10⟩ := len_succ hl9
                obtain ⟨v11, vs11, rfl, hl11⟩ := len_succ hl10
                obtain ⟨v12, vs12, rfl, hl12⟩ := len_succ hl11
                obtain ⟨v13, vs13, rfl, hl13⟩ := len_succ hl12
                obtain ⟨v14, vs14, rfl, hl14⟩ := len_succ hl13
                obtain ⟨v15, vs15, rfl, hl15⟩ := len_succ hl14
                obtain ⟨v16, vs16, rfl, hl16⟩ := len_succ hl15
                obtain rfl := len_zero hl16
                have e := (show v6 = .bool true from hf _ (List.mem_of_getElem? (i := 14) rfl) (by kernel_rfl))
                subst e
                show Option.isSome _ = true
                kernel_rfl
              · intro vs gq stq hl hf
                replace hl : vs.length = 17 := hl
                obtain ⟨v0, vs0, rfl, hl0⟩ := len_succ hl
                obtain ⟨v1, vs1, rfl, hl1⟩ := len_succ hl0
                obtain ⟨v2, vs2, rfl, hl2⟩ := len_succ hl1
                obtain ⟨v3, vs3, rfl, hl3⟩ := len_succ hl2
                obtain ⟨v4, vs4, rfl, hl4⟩ := len_succ hl3
                obtain ⟨v5, vs5, rfl, hl5⟩ := len_succ hl4
                obtain ⟨v6, vs6, rfl, hl6⟩ := len_succ hl5
                obtain ⟨v7, vs7, rfl, hl7⟩ := len_succ hl6
                obtain ⟨v8, vs8, rfl, hl8⟩ := len_succ hl7
                obtain ⟨v9, vs9, rfl, hl9⟩ := len_succ hl8
                obtain ⟨v10, vs10, rfl, hl10⟩ := len_succ hl9
                obtain ⟨v11, vs11, rfl, hl11⟩ := len_succ hl10
                obtain ⟨v12, vs12, rfl, hl12⟩ := len_succ hl11
                obtain ⟨v13, vs13, rfl, hl13⟩ := len_succ hl12
                obtain ⟨v14, vs14, rfl, hl14⟩ := len_succ hl13
                obtain ⟨v15, vs15, rfl, hl15⟩ := len_succ hl14
                obtain ⟨v16, vs16, rfl, hl16⟩ := len_succ hl15
                obtain rfl := len_zero hl16
                have e := (show v6 = .bool true from hf _ (List.mem_of_getElem? (i := 14) rfl) (by kernel_rfl))
                subst e
                show Option.isSome _ = true
                kernel_rfl
              · intro vs gq stq hl hf
                replace hl : vs.length = 17 := hl
                obtain ⟨v0, vs0, rfl, hl0⟩ := len_succ hl
                obtain ⟨v1, vs1, rfl, hl1⟩ := len_succ hl0
                obtain ⟨v2, vs2, rfl, hl2⟩ := len_succ hl1
                obtain ⟨v3, vs3, rfl, hl3⟩ := len_succ hl2
                obtain ⟨v4, vs4, rfl, hl4⟩ := len_succ hl3
                obtain ⟨v5, vs5, rfl, hl5⟩ := len_succ hl4
                obtain ⟨v6, vs6, rfl, hl6⟩ := len_succ hl5
                obtain ⟨v7, vs7, rfl, hl7⟩ := len_succ hl6
                obtain ⟨v8, vs8, rfl, hl8⟩ := len_succ hl7
                obtain ⟨v9, vs9, rfl, hl9⟩ := len_succ hl8
                obtain ⟨v10, vs10, rfl, hl10⟩ := len_succ hl9
                obtain ⟨v11, vs11, rfl, hl11⟩ := len_succ hl10
                obtain ⟨v12, vs12, rfl, hl12⟩ := len_succ hl11
                obtain ⟨v13, vs13, rfl, hl13⟩ := len_succ hl12
                obtain ⟨v14, vs14, rfl, hl14⟩ := len_succ hl13
                obtain ⟨v15, vs15, rfl, hl15⟩ := len_succ hl14
                obtain ⟨v16, vs16, rfl, hl16⟩ := len_succ hl15
                obtain rfl := len_zero hl16
                have e := (show v6 = .bool true from hf _ (List.mem_of_getElem? (i := 14) rfl) (by kernel_rfl))
                subst e
                show Option.isSome _ = true
                kernel_rfl
              · intro vs gq stq hl hf
                replace hl : vs.length = 17 := hl
                obtain ⟨v0, vs0, rfl, hl0⟩ := len_succ hl
                obtain ⟨v1, vs1, rfl, hl1⟩ := len_succ hl0
                obtain ⟨v2, vs2, rfl, hl2⟩ := len_succ hl1
                obtain ⟨v3, vs3, rfl, hl3⟩ := len_succ hl2
                obtain ⟨v4, vs4, rfl, hl4⟩ := len_succ hl3
                obtain ⟨v5, vs5, rfl, hl5⟩ := len_succ hl4
                obtain ⟨v6, vs6, rfl, hl6⟩ := len_succ hl5
                obtain ⟨v7, vs7, rfl, hl7⟩ := len_succ hl6
                obtain ⟨v8, vs8, rfl, hl8⟩ := len_succ hl7
                obtain ⟨v9, vs9, rfl, hl9⟩ := len_succ hl8
                obtain ⟨v10, vs10, rfl, hl10⟩ := len_succ hl9
                obtain ⟨v11, vs11, rfl, hl11⟩ := len_succ hl10
                obtain ⟨v12, vs12, rfl, hl12⟩ := len_succ hl11
                obtain ⟨v13, vs13, rfl, hl13⟩ := len_succ hl12
                obtain ⟨v14, vs14, rfl, hl14⟩ := len_succ hl13
                obtain ⟨v15, vs15, rfl, hl15⟩ := len_succ hl14
                obtain ⟨v16, vs16, rfl, hl16⟩ := len_succ hl15
                obtain rfl := len_zero hl16
                have e := (show v7 = .bool true from hf _ (List.mem_of_getElem? (i := 15) rfl) (by kernel_rfl))
                subst e
                have e := (show v10 = .bool q12 from hf _ (List.mem_of_getElem? (i := 18) rfl) (by kernel_rfl))
                subst e
                show Option.isSome _ = true
                kernel_rfl
              · intro vs gq stq hl hf
                replace hl : vs.length = 17 := hl
                obtain ⟨v0, vs0, rfl, hl0⟩ := len_succ hl
                obtain ⟨v1, vs1, rfl, hl1⟩ := len_succ hl0
                obtain ⟨v2, vs2, rfl, hl2⟩ := len_succ hl1
                obtain ⟨v3, vs3, rfl, hl3⟩ := len_succ hl2
                obtain ⟨v4, vs4, rfl, hl4⟩ := len_succ hl3
                obtain ⟨v5, vs5, rfl, hl5⟩ := len_succ hl4
                obtain ⟨v6, vs6, rfl, hl6⟩ := len_succ hl5
                obtain ⟨v7, vs7, rfl, hl7⟩ := len_succ hl6
                obtain ⟨v8, vs8, rfl, hl8⟩ := len_succ hl7
                obtain ⟨v9, vs9, rfl, hl9⟩ := len_succ hl8
                obtain ⟨v10, vs10, rfl, hl10⟩ := len_succ hl9
                obtain ⟨v11, vs11, rfl, hl11⟩ := len_succ hl10
                obtain ⟨v12, vs12, rfl, hl12⟩ := len_succ hl11
                obtain ⟨v13, vs13, rfl, hl13⟩ := len_succ hl12
                obtain ⟨v14, vs14, rfl, hl14⟩ := len_succ hl13
                obtain ⟨v15, vs15, rfl, hl15⟩ := len_succ hl14
                obtain ⟨v16, vs16, rfl, hl16⟩ := len_succ hl15
                obtain rfl := len_zero hl16
                have e := (show v11 = .bool true from hf _ (List.mem_of_getElem? (i := 19) rfl) (by kernel_rfl))
                subst e
                have e := (show v16 = .bool q13 from hf _ (List.mem_of_getElem? (i := 24) rfl) (by kernel_rfl))
                subst e
                show Option.isSome _ = true
                kernel_rfl
              · intro vs gq stq hl hf
                replace hl : vs.length = 17 := hl
                obtain ⟨v0, vs0, rfl, hl0⟩ := len_succ hl
                obtain ⟨v1, vs1, rfl, hl1⟩ := len_succ hl0
                obtain ⟨v2, vs2, rfl, hl2⟩ := len_succ hl1
                obtain ⟨v3, vs3, rfl, hl3⟩ := len_succ hl2
                obtain ⟨v4, vs4, rfl, hl4⟩ := len_succ hl3
                obtain ⟨v5, vs5, rfl, hl5⟩ := len_succ hl4
                obtain ⟨v6, vs6, rfl, hl6⟩ := len_succ hl5
                obtain ⟨v7, vs7, rfl, hl7⟩ := len_succ hl6
                obtain ⟨v8, vs8, rfl, hl8⟩ := len_succ hl7
                obtain ⟨v9, vs9, rfl, hl9⟩ := len_succ hl8
                obtain ⟨v10, vs10, rfl, hl10⟩ := len_succ hl9
                obtain ⟨v11, vs11, rfl, hl11⟩ := len_succ hl10
                obtain ⟨v12, vs12, rfl, hl12⟩ := len_succ hl11
                obtain ⟨v13, vs13, rfl, hl13⟩ := len_succ hl12
                obtain ⟨v14, vs14, rfl, hl14⟩ := len_succ hl13
                obtain ⟨v15, vs15, rfl, hl15⟩ := len_succ hl14
                obtain ⟨v16, vs16, rfl, hl16⟩ := len_succ hl15
                obtain rfl := len_zero hl16
                have e := (show v11 = .bool true from hf _ (List.mem_of_getElem? (i := 19) rfl) (by kernel_rfl))
                subst e
                have e := (show v16 = .bool q13 from hf _ (List.mem_of_getElem? (i := 24) rfl) (by kernel_rfl))
                subst e
                show Option.isSome _ = true
                kernel_rfl
            · intro j hj
              have hq : j = 0 ∨ j = 1 ∨ j = 2 ∨ j = 3 ∨ j = 4 ∨ j = 5 ∨ j = 6 ∨ j = 7 ∨ j = 8 ∨ j = 9 ∨ j = 10 ∨ j = 11 ∨ j = 12 ∨ j = 13 ∨ j = 14 ∨ j = 15 ∨ j = 16 := by have h : j < 17 := hj; omega
              rcases hq with rfl | rfl | rfl | rfl | rfl | rfl | rfl | rfl | rfl | rfl | rfl | rfl | rfl | rfl | rfl | rfl | rfl
              · intro vs gq stq hl hf
                replace hl : vs.length = 17 := hl
                obtain ⟨v0, vs0, rfl, hl0⟩ := len_succ hl
                obtain ⟨v1, vs1, rfl, hl1⟩ := len_succ hl0
                obtain ⟨v2, vs2, rfl, hl2⟩ := len_succ hl1
                obtain ⟨v3, vs3, rfl, hl3⟩ := len_succ hl2
                obtain ⟨v4, vs4, rfl, hl4⟩ := len_succ hl3
                obtain ⟨v5, vs5, rfl, hl5⟩ := len_succ hl4
                obtain ⟨v6, vs6, rfl, hl6⟩ := len_succ hl5
                obtain ⟨v7, vs7, rfl, hl7⟩ := len_succ hl6
                obtain ⟨v8, vs8, rfl, hl8⟩ := len_succ hl7
                obtain ⟨v9, vs9, rfl, hl9⟩ := len_succ hl8
                obtain ⟨v10, vs10, rfl, hl10⟩ := len_succ hl9
                obtain ⟨v11, vs11, rfl, hl11⟩ := len_succ hl10
                obtain ⟨v12, vs12, rfl, hl12⟩ := len_succ hl11
                obtain ⟨v13, vs13, rfl, hl13⟩ := len_succ hl12
                obtain ⟨v14, vs14, rfl, hl14⟩ := len_succ hl13
                obtain ⟨v15, vs15, rfl, hl15⟩ := len_succ hl14
                obtain ⟨v16, vs16, rfl, hl16⟩ := len_succ hl15
                obtain rfl := len_zero hl16
                have hcal17 := P.baizelaw25_known gq q10 hk17
                refine WP.callC hcal17 (by kernel_rfl) ?_
                rintro _ g23 st23 rfl
                refine WP.done (by kernel_rfl) (Shown.ok (v := .bool q10) (by kernel_rfl) st23.pure ?_)
                exact ⟨trivial, trivial, trivial, trivial, trivial, trivial, trivial, rfl, trivial, trivial, trivial, trivial, trivial, trivial, trivial, trivial, trivial, trivial, trivial, trivial, trivial, trivial, trivial, trivial, trivial, trivial⟩
              · intro vs gq stq hl hf
                replace hl : vs.length = 17 := hl
                obtain ⟨v0, vs0, rfl, hl0⟩ := len_succ hl
                obtain ⟨v1, vs1, rfl, hl1⟩ := len_succ hl0
                obtain ⟨v2, vs2, rfl, hl2⟩ := len_succ hl1
                obtain ⟨v3, vs3, rfl, hl3⟩ := len_succ hl2
                obtain ⟨v4, vs4, rfl, hl4⟩ := len_succ hl3
                obtain ⟨v5, vs5, rfl, hl5⟩ := len_succ hl4
                obtain ⟨v6, vs6, rfl, hl6⟩ := len_succ hl5
                obtain ⟨v7, vs7, rfl, hl7⟩ := len_succ hl6
                obtain ⟨v8, vs8, rfl, hl8⟩ := len_succ hl7
                obtain ⟨v9, vs9, rfl, hl9⟩ := len_succ hl8
                obtain ⟨v10, vs10, rfl, hl10⟩ := len_succ hl9
                obtain ⟨v11, vs11, rfl, hl11⟩ := len_succ hl10
                obtain ⟨v12, vs12, rfl, hl12⟩ := len_succ hl11
                obtain ⟨v13, vs13, rfl, hl13⟩ := len_succ hl12
                obtain ⟨v14, vs14, rfl, hl14⟩ := len_succ hl13
                obtain ⟨v15, vs15, rfl, hl15⟩ := len_succ hl14
                obtain ⟨v16, vs16, rfl, hl16⟩ := len_succ hl15
                obtain rfl := len_zero hl16
                have e := (show v0 = .bool q10 from hf _ (List.mem_of_getElem? (i := 7) rfl) (by kernel_rfl))
                subst e
                refine WP.still 1 (by kernel_rfl) ?_
                refine WP.done (by kernel_rfl) (Shown.ok (v := .bool q10) (by kernel_rfl) (Step.refl _ _) ?_)
                exact ⟨trivial, trivial, trivial, trivial, trivial, trivial, trivial, trivial, congrArg Value.bool h10, trivial, trivial, trivial, trivial, trivial, trivial, trivial, trivial, trivial, trivial, trivial, trivial, trivial, trivial, trivial, trivial, trivial⟩
              · intro vs gq stq hl hf
                replace hl : vs.length = 17 := hl
                obtain ⟨v0, vs0, rfl, hl0⟩ := len_succ hl
                obtain ⟨v1, vs1, rfl, hl1⟩ := len_succ hl0
                obtain ⟨v2, vs2, rfl, hl2⟩ := len_succ hl1
                obtain ⟨v3, vs3, rfl, hl3⟩ := len_succ hl2
                obtain ⟨v4, vs4, rfl, hl4⟩ := len_succ hl3
                obtain ⟨v5, vs5, rfl, hl5⟩ := len_succ hl4
                obtain ⟨v6, vs6, rfl, hl6⟩ := len_succ hl5
                obtain ⟨v7, vs7, rfl, hl7⟩ := len_succ hl6
                obtain ⟨v8, vs8, rfl, hl8⟩ := len_succ hl7
                obtain ⟨v9, vs9, rfl, hl9⟩ := len_succ hl8
                obtain ⟨v10, vs10, rfl, hl10⟩ := len_succ hl9
                obtain ⟨v11, vs11, rfl, hl11⟩ := len_succ hl10
                obtain ⟨v12, vs12, rfl, hl12⟩ := len_succ hl11
                obtain ⟨v13, vs13, rfl, hl13⟩ := len_succ hl12
                obtain ⟨v14, vs14, rfl, hl14⟩ := len_succ hl13
                obtain ⟨v15, vs15, rfl, hl15⟩ := len_succ hl14
                obtain ⟨v16, vs16, rfl, hl16⟩ := len_succ hl15
                obtain rfl := len_zero hl16
                have hB1 := (show Box gq (t + 1) b1 26 [encA .u8 d2, [.int .i64 x4], [.int .i64 x5], [.int .i64 x6], [.slice a3 n3 c3], [.slice a4 n4 c4]] [8, 1, 1, 1, 1, 1] from hf _ (List.mem_of_getElem? (i := 0) rfl) (by kernel_rfl))
                have hR3 := (show RdS (Kd.int .u8) gq 5 a3 n3 c3 l3 from hf _ (List.mem_of_getElem? (i := 1) rfl) (by kernel_rfl))
                have hR4 := (show RdS (Kd.int .u8) gq 5 a4 n4 c4 l4 from hf _ (List.mem_of_getElem? (i := 2) rfl) (by kernel_rfl))
                have e := (show v1 = .bool true from hf _ (List.mem_of_getElem? (i := 8) rfl) (by kernel_rfl))
                subst e
                refine WP.loadB (v := AG [encA .u8 d2, [.int .i64 x4], [.int .i64 x5], [.int .i64 x6], [.slice a3 n3 c3], [.slice a4 n4 c4]]) hB1 (by kernel_rfl) (by kernel_rfl) ?_
                refine WP.done (by kernel_rfl) (Shown.ok (v := AG [encA .u8 d2, [.int .i64 x4], [.int .i64 x5], [.int .i64 x6], [.slice a3 n3 c3], [.slice a4 n4 c4]]) (by kernel_rfl) (Step.refl _ _) ?_)
                exact ⟨trivial, trivial, trivial, trivial, trivial, trivial, trivial, trivial, trivial, rfl, trivial, trivial, trivial, trivial, trivial, trivial, trivial, trivial, trivial, trivial, trivial, trivial, trivial, trivial, trivial, trivial⟩
              · intro vs gq stq hl hf
                replace hl : vs.length = 17 := hl
                obtain ⟨v0, vs0, rfl, hl0⟩ := len_succ hl
                obtain ⟨v1, vs1, rfl, hl1⟩ := len_succ hl0
                obtain ⟨v2, vs2, rfl, hl2⟩ := len_succ hl1
                obtain ⟨v3, vs3, rfl, hl3⟩ := len_succ hl2
                obtain ⟨v4, vs4, rfl, hl4⟩ := len_succ hl3
                obtain ⟨v5, vs5, rfl, hl5⟩ := len_succ hl4
                obtain ⟨v6, vs6, rfl, hl6⟩ := len_succ hl5
                obtain ⟨v7, vs7, rfl, hl7⟩ := len_succ hl6
                obtain ⟨v8, vs8, rfl, hl8⟩ := len_succ hl7
                obtain ⟨v9, vs9, rfl, hl9⟩ := len_succ hl8
                obtain ⟨v10, vs10, rfl, hl10⟩ := len_succ hl9
                obtain ⟨v11, vs11, rfl, hl11⟩ := len_succ hl10
                obtain ⟨v12, vs12, rfl, hl12⟩ := len_succ hl11
                obtain ⟨v13, vs13, rfl, hl13⟩ := len_succ hl12
                obtain ⟨v14, vs14, rfl, hl14⟩ := len_succ hl13
                obtain ⟨v15, vs15, rfl, hl15⟩ := len_succ hl14
                obtain ⟨v16, vs16, rfl, hl16⟩ := len_succ hl15
                obtain rfl := len_zero hl16
                have hR3 := (show RdS (Kd.int .u8) gq 5 a3 n3 c3 l3 from hf _ (List.mem_of_getElem? (i := 1) rfl) (by kernel_rfl))
                have hR4 := (show RdS (Kd.int .u8) gq 5 a4 n4 c4 l4 from hf _ (List.mem_of_getElem? (i := 2) rfl) (by kernel_rfl))
                have e := (show v1 = .bool true from hf _ (List.mem_of_getElem? (i := 8) rfl) (by kernel_rfl))
                subst e
                have e := (show v2 = AG [encA .u8 d2, [.int .i64 x4], [.int .i64 x5], [.int .i64 x6], [.slice a3 n3 c3], [.slice a4 n4 c4]] from hf _ (List.mem_of_getElem? (i := 9) rfl) (by kernel_rfl))
                subst e
                have hcal18 := P.baizelaw25_Of gq d2 x4 x5 x6 l3 l4 a3 n3 c3 a4 n4 c4 hR3 hR4 d8 x26 x27 x28 l17 l18 hk18
                refine WP.callC hcal18 (by kernel_rfl) ?_
                rintro _ g24 st24 ⟨a17, n17, c17, a18, n18, c18, rfl, hR17, hR18⟩
                obtain rfl := hR17.len
                obtain rfl := hR18.len
                refine WP.done (by kernel_rfl) (Shown.ok (v := AG [encA .u8 d8, [.int .i64 x26], [.int .i64 x27], [.int .i64 x28], [.slice a17 l17.length c17], [.slice a18 l18.length c18]]) (by kernel_rfl) st24.pure ?_)
                exact ⟨trivial, trivial, trivial, trivial, trivial, trivial, trivial, trivial, trivial, trivial, ⟨a17, c17, a18, c18, rfl, hR17, hR18⟩, trivial, trivial, trivial, trivial, trivial, trivial, trivial, trivial, trivial, trivial, trivial, trivial, trivial, trivial, trivial⟩
              · intro vs gq stq hl hf
                replace hl : vs.length = 17 := hl
                obtain ⟨v0, vs0, rfl, hl0⟩ := len_succ hl
                obtain ⟨v1, vs1, rfl, hl1⟩ := len_succ hl0
                obtain ⟨v2, vs2, rfl, hl2⟩ := len_succ hl1
                obtain ⟨v3, vs3, rfl, hl3⟩ := len_succ hl2
                obtain ⟨v4, vs4, rfl, hl4⟩ := len_succ hl3
                obtain ⟨v5, vs5, rfl, hl5⟩ := len_succ hl4
                obtain ⟨v6, vs6, rfl, hl6⟩ := len_succ hl5
                obtain ⟨v7, vs7, rfl, hl7⟩ := len_succ hl6
                obtain ⟨v8, vs8, rfl, hl8⟩ := len_succ hl7
                obtain ⟨v9, vs9, rfl, hl9⟩ := len_succ hl8
                obtain ⟨v10, vs10, rfl, hl10⟩ := len_succ hl9
                obtain ⟨v11, vs11, rfl, hl11⟩ := len_succ hl10
                obtain ⟨v12, vs12, rfl, hl12⟩ := len_succ hl11
                obtain ⟨v13, vs13, rfl, hl13⟩ := len_succ hl12
                obtain ⟨v14, vs14, rfl, hl14⟩ := len_succ hl13
                obtain ⟨v15, vs15, rfl, hl15⟩ := len_succ hl14
                obtain ⟨v16, vs16, rfl, hl16⟩ := len_succ hl15
                obtain rfl := len_zero hl16
                have e := (show v1 = .bool true from hf _ (List.mem_of_getElem? (i := 8) rfl) (by kernel_rfl))
                subst e
                obtain ⟨a17, c17, a18, c18, e, hR17, hR18⟩ := (show ∃ (a17 : Option Addr) (c17 : Nat) (a18 : Option Addr) (c18 : Nat), v3 = AG [encA .u8 d8, [.int .i64 x26], [.int .i64 x27], [.int .i64 x28], [.slice a17 l17.length c17], [.slice a18 l18.length c18]] ∧ RdS (Kd.int .u8) gq 5 a17 l17.length c17 l17 ∧ RdS (Kd.int .u8) gq 5 a18 l18.length c18 l18 from hf _ (List.mem_of_getElem? (i := 10) rfl) (by kernel_rfl))
                subst e
                have hcal19 := P.baizeref25_Bytes gq (t + 5) d8 x26 x27 x28 l17 l18 a17 l17.length c17 a18 l18.length c18 hR17 hR18 l19 hk19
                refine WP.callC hcal19 (by kernel_rfl) ?_
                rintro _ g25 st25 ⟨a19, n19, c19, rfl, hR19⟩
                obtain rfl := hR19.len
                refine WP.done (by kernel_rfl) (Shown.ok (v := .slice a19 l19.length c19) (by kernel_rfl) st25.pure ?_)
                exact ⟨trivial, trivial, trivial, trivial, trivial, trivial, trivial, trivial, trivial, trivial, trivial, ⟨a19, c19, rfl, hR19⟩, trivial, trivial, trivial, trivial, trivial, trivial, trivial, trivial, trivial, trivial, trivial, trivial, trivial, trivial⟩
              · intro vs gq stq hl hf
                replace hl : vs.length = 17 := hl
                obtain ⟨v0, vs0, rfl, hl0⟩ := len_succ hl
                obtain ⟨v1, vs1, rfl, hl1⟩ := len_succ hl0
                obtain ⟨v2, vs2, rfl, hl2⟩ := len_succ hl1
                obtain ⟨v3, vs3, rfl, hl3⟩ := len_succ hl2
                obtain ⟨v4, vs4, rfl, hl4⟩ := len_succ hl3
                obtain ⟨v5, vs5, rfl, hl5⟩ := len_succ hl4
                obtain ⟨v6, vs6, rfl, hl6⟩ := len_succ hl5
                obtain ⟨v7, vs7, rfl, hl7⟩ := len_succ hl6
                obtain ⟨v8, vs8, rfl, hl8⟩ := len_succ hl7
                obtain ⟨v9, vs9, rfl, hl9⟩ := len_succ hl8
                obtain ⟨v10, vs10, rfl, hl10⟩ := len_succ hl9
                obtain ⟨v11, vs11, rfl, hl11⟩ := len_succ hl10
                obtain ⟨v12, vs12, rfl, hl12⟩ := len_succ hl11
                obtain ⟨v13, vs13, rfl, hl13⟩ := len_succ hl12
                obtain ⟨v14, vs14, rfl, hl14⟩ := len_succ hl13
                obtain ⟨v15, vs15, rfl, hl15⟩ := len_succ hl14
                obtain ⟨v16, vs16, rfl, hl16⟩ := len_succ hl15
                obtain rfl := len_zero hl16
                have hR7 := (show RdS (Kd.int .u8) gq 5 a7 n7 c7 l7 from hf _ (List.mem_of_getElem? (i := 3) rfl) (by kernel_rfl))
                have e := (show v1 = .bool true from hf _ (List.mem_of_getElem? (i := 8) rfl) (by kernel_rfl))
                subst e
                obtain ⟨a19, c19, e, hR19⟩ := (show ∃ (a19 : Option Addr) (c19 : Nat), v4 = .slice a19 l19.length c19 ∧ OwnS (Kd.int .u8) gq (t + 5) 5 a19 l19.length c19 l19 from hf _ (List.mem_of_getElem? (i := 11) rfl) (by kernel_rfl))
                subst e
                have hS2 : 0 ∉ ([(t + 5)] : List Nat) := by simp <;> omega
                have stl2 := GW.lend_step gq [(t + 5)]
                have hRl2 := hR19.lendTo hS2 (by simp)
                refine WP.regw (g' := GW.lend gq [(t + 5)]) rfl ?_
                have hcal20 := P.baizeref01_Same (GW.lend gq [(t + 5)]) l7 l19 a7 n7 c7 a19 l19.length c19 (hR7.mono stl2 (WL.no (by simp <;> omega))) hRl2 q11 hk20
                refine WP.callC hcal20 (by kernel_rfl) ?_
                rintro _ g26 st26 rfl
                have st27 := (GW.back_step st26).lentS
                have hO2 := hR19.backTo hS2 (by simp) st26 (fun x => x)
                refine WP.regw (g' := GW.back gq g26 [(t + 5)]) rfl ?_
                generalize GW.back gq g26 [(t + 5)] = g27 at *
                refine WP.done (by kernel_rfl) (Shown.ok (v := .bool q11) (by kernel_rfl) st27 ?_)
                exact ⟨trivial, trivial, trivial, trivial, trivial, trivial, trivial, trivial, trivial, trivial, trivial, trivial, rfl, ⟨a19, c19, rfl, hO2⟩, trivial, trivial, trivial, trivial, trivial, trivial, trivial, trivial, trivial, trivial, trivial, trivial⟩
              · intro vs gq stq hl hf
                replace hl : vs.length = 17 := hl
                obtain ⟨v0, vs0, rfl, hl0⟩ := len_succ hl
                obtain ⟨v1, vs1, rfl, hl1⟩ := len_succ hl0
                obtain ⟨v2, vs2, rfl, hl2⟩ := len_succ hl1
                obtain ⟨v3, vs3, rfl, hl3⟩ := len_succ hl2
                obtain ⟨v4, vs4, rfl, hl4⟩ := len_succ hl3
                obtain ⟨v5, vs5, rfl, hl5⟩ := len_succ hl4
                obtain ⟨v6, vs6, rfl, hl6⟩ := len_succ hl5
                obtain ⟨v7, vs7, rfl, hl7⟩ := len_succ hl6
                obtain ⟨v8, vs8, rfl, hl8⟩ := len_succ hl7
                obtain ⟨v9, vs9, rfl, hl9⟩ := len_succ hl8
                obtain ⟨v10, vs10, rfl, hl10⟩ := len_succ hl9
                obtain ⟨v11, vs11, rfl, hl11⟩ := len_succ hl10
                obtain ⟨v12, vs12, rfl, hl12⟩ := len_succ hl11
                obtain ⟨v13, vs13, rfl, hl13⟩ := len_succ hl12
                obtain ⟨v14, vs14, rfl, hl14⟩ := len_succ hl13
                obtain ⟨v15, vs15, rfl, hl15⟩ := len_succ hl14
                obtain ⟨v16, vs16, rfl, hl16⟩ := len_succ hl15
                obtain rfl := len_zero hl16
                have e := (show v1 = .bool true from hf _ (List.mem_of_getElem? (i := 8) rfl) (by kernel_rfl))
                subst e
                have e := (show v5 = .bool q11 from hf _ (List.mem_of_getElem? (i := 12) rfl) (by kernel_rfl))
                subst e
                refine WP.still 1 (by kernel_rfl) ?_
                refine WP.done (by kernel_rfl) (Shown.ok (v := .bool q11) (by kernel_rfl) (Step.refl _ _) ?_)
                exact ⟨trivial, trivial, trivial, trivial, trivial, trivial, trivial, trivial, trivial, trivial, trivial, trivial, trivial, trivial, congrArg Value.bool h11, trivial, trivial, trivial, trivial, trivial, trivial, trivial, trivial, trivial, trivial, trivial⟩
              · intro vs gq stq hl hf
                replace hl : vs.length = 17 := hl
                obtain ⟨v0, vs0, rfl, hl0⟩ := len_succ hl
                obtain ⟨v1, vs1, rfl, hl1⟩ := len_succ hl0
                obtain ⟨v2, vs2, rfl, hl2⟩ := len_succ hl1
                obtain ⟨v3, vs3, rfl, hl3⟩ := len_succ hl2
                obtain ⟨v4, vs4, rfl, hl4⟩ := len_succ hl3
                obtain ⟨v5, vs5, rfl, hl5⟩ := len_succ hl4
                obtain ⟨v6, vs6, rfl, hl6⟩ := len_succ hl5
                obtain ⟨v7, vs7, rfl, hl7⟩ := len_succ hl6
                obtain ⟨v8, vs8, rfl, hl8⟩ := len_succ hl7
                obtain ⟨v9, vs9, rfl, hl9⟩ := len_succ hl8
                obtain ⟨v10, vs10, rfl, hl10⟩ := len_succ hl9
                obtain ⟨v11, vs11, rfl, hl11⟩ := len_succ hl10
                obtain ⟨v12, vs12, rfl, hl12⟩ := len_succ hl11
                obtain ⟨v13, vs13, rfl, hl13⟩ := len_succ hl12
                obtain ⟨v14, vs14, rfl, hl14⟩ := len_succ hl13
                obtain ⟨v15, vs15, rfl, hl15⟩ := len_succ hl14
                obtain ⟨v16, vs16, rfl, hl16⟩ := len_succ hl15
                obtain rfl := len_zero hl16
                have e := (show v6 = .bool true from hf _ (List.mem_of_getElem? (i := 14) rfl) (by kernel_rfl))
                subst e
                refine WP.still 1 (by kernel_rfl) ?_
                refine WP.done (by kernel_rfl) (Shown.ok (v := .bool (x16 == 0)) (by kernel_rfl) (Step.refl _ _) ?_)
                exact ⟨trivial, trivial, trivial, trivial, trivial, trivial, trivial, trivial, trivial, trivial, trivial, trivial, trivial, trivial, trivial, congrArg Value.bool h12, trivial, trivial, trivial, trivial, trivial, trivial, trivial, trivial, trivial, trivial⟩
              · intro vs gq stq hl hf
                replace hl : vs.length = 17 := hl
                obtain ⟨v0, vs0, rfl, hl0⟩ := len_succ hl
                obtain ⟨v1, vs1, rfl, hl1⟩ := len_succ hl0
                obtain ⟨v2, vs2, rfl, hl2⟩ := len_succ hl1
                obtain ⟨v3, vs3, rfl, hl3⟩ := len_succ hl2
                obtain ⟨v4, vs4, rfl, hl4⟩ := len_succ hl3
                obtain ⟨v5, vs5, rfl, hl5⟩ := len_succ hl4
                obtain ⟨v6, vs6, rfl, hl6⟩ := len_succ hl5
                obtain ⟨v7, vs7, rfl, hl7⟩ := len_succ hl6
                obtain ⟨v8, vs8, rfl, hl8⟩ := len_succ hl7
                obtain ⟨v9, vs9, rfl, hl9⟩ := len_succ hl8
                obtain ⟨v10, vs10, rfl, hl10⟩ := len_succ hl9
                obtain ⟨v11, vs11, rfl, hl11⟩ := len_succ hl10
                obtain ⟨v12, vs12, rfl, hl12⟩ := len_succ hl11
                obtain ⟨v13, vs13, rfl, hl13⟩ := len_succ hl12
                obtain ⟨v14, vs14, rfl, hl14⟩ := len_succ hl13
                obtain ⟨v15, vs15, rfl, hl15⟩ := len_succ hl14
                obtain ⟨v16, vs16, rfl, hl16⟩ := len_succ hl15
                obtain rfl := len_zero hl16
                have hB3 := (show Box gq (t + 3) b2 26 [encA .u8 d4, [.int .i64 x13], [.int .i64 x14], [.int .i64 x15], [.slice a8 n8 c8], [.slice a9 n9 c9]] [8, 1, 1, 1, 1, 1] from hf _ (List.mem_of_getElem? (i := 4) rfl) (by kernel_rfl))
                have hR8 := (show RdS (Kd.int .u8) gq 5 a8 n8 c8 l8 from hf _ (List.mem_of_getElem? (i := 5) rfl) (by kernel_rfl))
                have hR9 := (show RdS (Kd.int .u8) gq 5 a9 n9 c9 l9 from hf _ (List.mem_of_getElem? (i := 6) rfl) (by kernel_rfl))
                have e := (show v7 = .bool true from hf _ (List.mem_of_getElem? (i := 15) rfl) (by kernel_rfl))
                subst e
                refine WP.loadB (v := AG [encA .u8 d4, [.int .i64 x13], [.int .i64 x14], [.int .i64 x15], [.slice a8 n8 c8], [.slice a9 n9 c9]]) hB3 (by kernel_rfl) (by kernel_rfl) ?_
                refine WP.done (by kernel_rfl) (Shown.ok (v := AG [encA .u8 d4, [.int .i64 x13], [.int .i64 x14], [.int .i64 x15], [.slice a8 n8 c8], [.slice a9 n9 c9]]) (by kernel_rfl) (Step.refl _ _) ?_)
                exact ⟨trivial, trivial, trivial, trivial, trivial, trivial, trivial, trivial, trivial, trivial, trivial, trivial, trivial, trivial, trivial, trivial, rfl, trivial, trivial, trivial, trivial, trivial, trivial, trivial, trivial, trivial⟩
              · intro vs gq stq hl hf
                replace hl : vs.length = 17 := hl
                obtain ⟨v0, vs0, rfl, hl0⟩ := len_succ hl
                obtain ⟨v1, vs1, rfl, hl1⟩ := len_succ hl0
                obtain ⟨v2, vs2, rfl, hl2⟩ := len_succ hl1
                obtain ⟨v3, vs3, rfl, hl3⟩ := len_succ hl2
                obtain ⟨v4, vs4, rfl, hl4⟩ := len_succ hl3
                obtain ⟨v5, vs5, rfl, hl5⟩ := len_succ hl4
                obtain ⟨v6, vs6, rfl, hl6⟩ := len_succ hl5
                obtain ⟨v7, vs7, rfl, hl7⟩ := len_succ hl6
                obtain ⟨v8, vs8, rfl, hl8⟩ := len_succ hl7
                obtain ⟨v9, vs9, rfl, hl9⟩ := len_succ hl8
                obtain ⟨v10, vs10, rfl, hl10⟩ := len_succ hl9
                obtain ⟨v11, vs11, rfl, hl11⟩ := len_succ hl10
                obtain ⟨v12, vs12, rfl, hl12⟩ := len_succ hl11
                obtain ⟨v13, vs13, rfl, hl13⟩ := len_succ hl12
                obtain ⟨v14, vs14, rfl, hl14⟩ := len_succ hl13
                obtain ⟨v15, vs15, rfl, hl15⟩ := len_succ hl14
                obtain ⟨v16, vs16, rfl, hl16⟩ := len_succ hl15
                obtain rfl := len_zero hl16
                have hB1 := (show Box gq (t + 1) b1 26 [encA .u8 d2, [.int .i64 x4], [.int .i64 x5], [.int .i64 x6], [.slice a3 n3 c3], [.slice a4 n4 c4]] [8, 1, 1, 1, 1, 1] from hf _ (List.mem_of_getElem? (i := 0) rfl) (by kernel_rfl))
                have hR3 := (show RdS (Kd.int .u8) gq 5 a3 n3 c3 l3 from hf _ (List.mem_of_getElem? (i := 1) rfl) (by kernel_rfl))
                have hR4 := (show RdS (Kd.int .u8) gq 5 a4 n4 c4 l4 from hf _ (List.mem_of_getElem? (i := 2) rfl) (by kernel_rfl))
                have e := (show v7 = .bool true from hf _ (List.mem_of_getElem? (i := 15) rfl) (by kernel_rfl))
                subst e
                refine WP.loadB (v := AG [encA .u8 d2, [.int .i64 x4], [.int .i64 x5], [.int .i64 x6], [.slice a3 n3 c3], [.slice a4 n4 c4]]) hB1 (by kernel_rfl) (by kernel_rfl) ?_
                refine WP.done (by kernel_rfl) (Shown.ok (v := AG [encA .u8 d2, [.int .i64 x4], [.int .i64 x5], [.int .i64 x6], [.slice a3 n3 c3], [.slice a4 n4 c4]]) (by kernel_rfl) (Step.refl _ _) ?_)
                exact ⟨trivial, trivial, trivial, trivial, trivial, trivial, trivial, trivial, trivial, trivial, trivial, trivial, trivial, trivial, trivial, trivial, trivial, rfl, trivial, trivial, trivial, trivial, trivial, trivial, trivial, trivial⟩
              · intro vs gq stq hl hf
                replace hl : vs.length = 17 := hl
                obtain ⟨v0, vs0, rfl, hl0⟩ := len_succ hl
                obtain ⟨v1, vs1, rfl, hl1⟩ := len_succ hl0
                obtain ⟨v2, vs2, rfl, hl2⟩ := len_succ hl1
                obtain ⟨v3, vs3, rfl, hl3⟩ := len_succ hl2
                obtain ⟨v4, vs4, rfl, hl4⟩ := len_succ hl3
                obtain ⟨v5, vs5, rfl, hl5⟩ := len_succ hl4
                obtain ⟨v6, vs6, rfl, hl6⟩ := len_succ hl5
                obtain ⟨v7, vs7, rfl, hl7⟩ := len_succ hl6
                obtain ⟨v8, vs8, rfl, hl8⟩ := len_succ hl7
                obtain ⟨v9, vs9, rfl, hl9⟩ := len_succ hl8
                obtain ⟨v10, vs10, rfl, hl10⟩ := len_succ hl9
                obtain ⟨v11, vs11, rfl, hl11⟩ := len_succ hl10
                obtain ⟨v12, vs12, rfl, hl12⟩ := len_succ hl11
                obtain ⟨v13, vs13, rfl, hl13⟩ := len_succ hl12
                obtain ⟨v14, vs14, rfl, hl14⟩ := len_succ hl13
                obtain ⟨v15, vs15, rfl, hl15⟩ := len_succ hl14
                obtain ⟨v16, vs16, rfl, hl16⟩ := len_succ hl15
                obtain rfl := len_zero hl16
                have hR3 := (show RdS (Kd.int .u8) gq 5 a3 n3 c3 l3 from hf _ (List.mem_of_getElem? (i := 1) rfl) (by kernel_rfl))
                have hR4 := (show RdS (Kd.int .u8) gq 5 a4 n4 c4 l4 from hf _ (List.mem_of_getElem? (i := 2) rfl) (by kernel_rfl))
                have hR8 := (show RdS (Kd.int .u8) gq 5 a8 n8 c8 l8 from hf _ (List.mem_of_getElem? (i := 5) rfl) (by kernel_rfl))
                have hR9 := (show RdS (Kd.int .u8) gq 5 a9 n9 c9 l9 from hf _ (List.mem_of_getElem? (i := 6) rfl) (by kernel_rfl))
                have e := (show v7 = .bool true from hf _ (List.mem_of_getElem? (i := 15) rfl) (by kernel_rfl))
                subst e
                have e := (show v8 = AG [encA .u8 d4, [.int .i64 x13], [.int .i64 x14], [.int .i64 x15], [.slice a8 n8 c8], [.slice a9 n9 c9]] from hf _ (List.mem_of_getElem? (i := 16) rfl) (by kernel_rfl))
                subst e
                have e := (show v9 = AG [encA .u8 d2, [.int .i64 x4], [.int .i64 x5], [.int .i64 x6], [.slice a3 n3 c3], [.slice a4 n4 c4]] from hf _ (List.mem_of_getElem? (i := 17) rfl) (by kernel_rfl))
                subst e
                have hcal21 := P.tx_Tx_Same gq d4 x13 x14 x15 l8 l9 d2 x4 x5 x6 l3 l4 a8 n8 c8 a9 n9 c9 a3 n3 c3 a4 n4 c4 hR8 hR9 hR3 hR4 q12 hk21
                refine WP.callC hcal21 (by kernel_rfl) ?_
                rintro _ g28 st28 rfl
                refine WP.done (by kernel_rfl) (Shown.ok (v := .bool q12) (by kernel_rfl) st28.pure ?_)
                exact ⟨trivial, trivial, trivial, trivial, trivial, trivial, trivial, trivial, trivial, trivial, trivial, trivial, trivial, trivial, trivial, trivial, trivial, trivial, rfl, trivial, trivial, trivial, trivial, trivial, trivial, trivial⟩
              · intro vs gq stq hl hf
                replace hl : vs.length = 17 := hl
                obtain ⟨v0, vs0, rfl, hl0⟩ := len_succ hl
                obtain ⟨v1, vs1, rfl, hl1⟩ := len_succ hl0
                obtain ⟨v2, vs2, rfl, hl2⟩ := len_succ hl1
                obtain ⟨v3, vs3, rfl, hl3⟩ := len_succ hl2
                obtain ⟨v4, vs4, rfl, hl4⟩ := len_succ hl3
                obtain ⟨v5, vs5, rfl, hl5⟩ := len_succ hl4
                obtain ⟨v6, vs6, rfl, hl6⟩ := len_succ hl5
                obtain ⟨v7, vs7, rfl, hl7⟩ := len_succ hl6
                obtain ⟨v8, vs8, rfl, hl8⟩ := len_succ hl7
                obtain ⟨v9, vs9, rfl, hl9⟩ := len_succ hl8
                obtain ⟨v10, vs10, rfl, hl10⟩ := len_succ hl9
                obtain ⟨v11, vs11, rfl, hl11⟩ := len_succ hl10
                obtain ⟨v12, vs12, rfl, hl12⟩ := len_succ hl11
                obtain ⟨v13, vs13, rfl, hl13⟩ := len_succ hl12
                obtain ⟨v14, vs14, rfl, hl14⟩ := len_succ hl13
                obtain ⟨v15, vs15, rfl, hl15⟩ := len_succ hl14
                obtain ⟨v16, vs16, rfl, hl16⟩ := len_succ hl15
                obtain rfl := len_zero hl16
                have e := (show v7 = .bool true from hf _ (List.mem_of_getElem? (i := 15) rfl) (by kernel_rfl))
                subst e
                have e := (show v10 = .bool q12 from hf _ (List.mem_of_getElem? (i := 18) rfl) (by kernel_rfl))
                subst e
                refine WP.still 1 (by kernel_rfl) ?_
                refine WP.done (by kernel_rfl) (Shown.ok (v := .bool q12) (by kernel_rfl) (Step.refl _ _) ?_)
                exact ⟨trivial, trivial, trivial, trivial, trivial, trivial, trivial, trivial, trivial, trivial, trivial, trivial, trivial, trivial, trivial, trivial, trivial, trivial, trivial, congrArg Value.bool h13, trivial, trivial, trivial, trivial, trivial, trivial⟩
              · intro vs gq stq hl hf
                replace hl : vs.length = 17 := hl
                obtain ⟨v0, vs0, rfl, hl0⟩ := len_succ hl
                obtain ⟨v1, vs1, rfl, hl1⟩ := len_succ hl0
                obtain ⟨v2, vs2, rfl, hl2⟩ := len_succ hl1
                obtain ⟨v3, vs3, rfl, hl3⟩ := len_succ hl2
                obtain ⟨v4, vs4, rfl, hl4⟩ := len_succ hl3
                obtain ⟨v5, vs5, rfl, hl5⟩ := len_succ hl4
                obtain ⟨v6, vs6, rfl, hl6⟩ := len_succ hl5
                obtain ⟨v7, vs7, rfl, hl7⟩ := len_succ hl6
                obtain ⟨v8, vs8, rfl, hl8⟩ := len_succ hl7
                obtain ⟨v9, vs9, rfl, hl9⟩ := len_succ hl8
                obtain ⟨v10, vs10, rfl, hl10⟩ := len_succ hl9
                obtain ⟨v11, vs11, rfl, hl11⟩ := len_succ hl10
                obtain ⟨v12, vs12, rfl, hl12⟩ := len_succ hl11
                obtain ⟨v13, vs13, rfl, hl13⟩ := len_succ hl12
                obtain ⟨v14, vs14, rfl, hl14⟩ := len_succ hl13
                obtain ⟨v15, vs15, rfl, hl15⟩ := len_succ hl14
                obtain ⟨v16, vs16, rfl, hl16⟩ := len_succ hl15
                obtain rfl := len_zero hl16
                have hB3 := (show Box gq (t + 3) b2 26 [encA .u8 d4, [.int .i64 x13], [.int .i64 x14], [.int .i64 x15], [.slice a8 n8 c8], [.slice a9 n9 c9]] [8, 1, 1, 1, 1, 1] from hf _ (List.mem_of_getElem? (i := 4) rfl) (by kernel_rfl))
                have hR8 := (show RdS (Kd.int .u8) gq 5 a8 n8 c8 l8 from hf _ (List.mem_of_getElem? (i := 5) rfl) (by kernel_rfl))
                have hR9 := (show RdS (Kd.int .u8) gq 5 a9 n9 c9 l9 from hf _ (List.mem_of_getElem? (i := 6) rfl) (by kernel_rfl))
                have e := (show v11 = .bool true from hf _ (List.mem_of_getElem? (i := 19) rfl) (by kernel_rfl))
                subst e
                refine WP.loadB (v := AG [encA .u8 d4, [.int .i64 x13], [.int .i64 x14], [.int .i64 x15], [.slice a8 n8 c8], [.slice a9 n9 c9]]) hB3 (by kernel_rfl) (by kernel_rfl) ?_
                refine WP.done (by kernel_rfl) (Shown.ok (v := AG [encA .u8 d4, [.int .i64 x13], [.int .i64 x14], [.int .i64 x15], [.slice a8 n8 c8], [.slice a9 n9 c9]]) (by kernel_rfl) (Step.refl _ _) ?_)
                exact ⟨trivial, trivial, trivial, trivial, trivial, trivial, trivial, trivial, trivial, trivial, trivial, trivial, trivial, trivial, trivial, trivial, trivial, trivial, trivial, trivial, rfl, trivial, trivial, trivial, trivial, trivial⟩
              · intro vs gq stq hl hf
                replace hl : vs.length = 17 := hl
                obtain ⟨v0, vs0, rfl, hl0⟩ := len_succ hl
                obtain ⟨v1, vs1, rfl, hl1⟩ := len_succ hl0
                obtain ⟨v2, vs2, rfl, hl2⟩ := len_succ hl1
                obtain ⟨v3, vs3, rfl, hl3⟩ := len_succ hl2
                obtain ⟨v4, vs4, rfl, hl4⟩ := len_succ hl3
                obtain ⟨v5, vs5, rfl, hl5⟩ := len_succ hl4
                obtain ⟨v6, vs6, rfl, hl6⟩ := len_succ hl5
                obtain ⟨v7, vs7, rfl, hl7⟩ := len_succ hl6
                obtain ⟨v8, vs8, rfl, hl8⟩ := len_succ hl7
                obtain ⟨v9, vs9, rfl, hl9⟩ := len_succ hl8
                obtain ⟨v10, vs10, rfl, hl10⟩ := len_succ hl9
                obtain ⟨v11, vs11, rfl, hl11⟩ := len_succ hl10
                obtain ⟨v12, vs12, rfl, hl12⟩ := len_succ hl11
                obtain ⟨v13, vs13, rfl, hl13⟩ := len_succ hl12
                obtain ⟨v14, vs14, rfl, hl14⟩ := len_succ hl13
                obtain ⟨v15, vs15, rfl, hl15⟩ := len_succ hl14
                obtain ⟨v16, vs16, rfl, hl16⟩ := len_succ hl15
                obtain rfl := len_zero hl16
                have hR8 := (show RdS (Kd.int .u8) gq 5 a8 n8 c8 l8 from hf _ (List.mem_of_getElem? (i := 5) rfl) (by kernel_rfl))
                have hR9 := (show RdS (Kd.int .u8) gq 5 a9 n9 c9 l9 from hf _ (List.mem_of_getElem? (i := 6) rfl) (by kernel_rfl))
                have e := (show v11 = .bool true from hf _ (List.mem_of_getElem? (i := 19) rfl) (by kernel_rfl))
                subst e
                have e := (show v12 = AG [encA .u8 d4, [.int .i64 x13], [.int .i64 x14], [.int .i64 x15], [.slice a8 n8 c8], [.slice a9 n9 c9]] from hf _ (List.mem_of_getElem? (i := 20) rfl) (by kernel_rfl))
                subst e
                have hcal22 := P.baizelaw25_Of gq d4 x13 x14 x15 l8 l9 a8 n8 c8 a9 n9 c9 hR8 hR9 d9 x29 x30 x31 l20 l21 hk22
                refine WP.callC hcal22 (by kernel_rfl) ?_
                rintro _ g29 st29 ⟨a20, n20, c20, a21, n21, c21, rfl, hR20, hR21⟩
                obtain rfl := hR20.len
                obtain rfl := hR21.len
                refine WP.done (by kernel_rfl) (Shown.ok (v := AG [encA .u8 d9, [.int .i64 x29], [.int .i64 x30], [.int .i64 x31], [.slice a20 l20.length c20], [.slice a21 l21.length c21]]) (by kernel_rfl) st29.pure ?_)
                exact ⟨trivial, trivial, trivial, trivial, trivial, trivial, trivial, trivial, trivial, trivial, trivial, trivial, trivial, trivial, trivial, trivial, trivial, trivial, trivial, trivial, trivial, ⟨a20, c20, a21, c21, rfl, hR20, hR21⟩, trivial, trivial, trivial, trivial⟩
              · intro vs gq stq hl hf
                replace hl : vs.length = 17 := hl
                obtain ⟨v0, vs0, rfl, hl0⟩ := len_succ hl
                obtain ⟨v1, vs1, rfl, hl1⟩ := len_succ hl0
                obtain ⟨v2, vs2, rfl, hl2⟩ := len_succ hl1
                obtain ⟨v3, vs3, rfl, hl3⟩ := len_succ hl2
                obtain ⟨v4, vs4, rfl, hl4⟩ := len_succ hl3
                obtain ⟨v5, vs5, rfl, hl5⟩ := len_succ hl4
                obtain ⟨v6, vs6, rfl, hl6⟩ := len_succ hl5
                obtain ⟨v7, vs7, rfl, hl7⟩ := len_succ hl6
                obtain ⟨v8, vs8, rfl, hl8⟩ := len_succ hl7
                obtain ⟨v9, vs9, rfl, hl9⟩ := len_succ hl8
                obtain ⟨v10, vs10, rfl, hl10⟩ := len_succ hl9
                obtain ⟨v11, vs11, rfl, hl11⟩ := len_succ hl10
                obtain ⟨v12, vs12, rfl, hl12⟩ := len_succ hl11
                obtain ⟨v13, vs13, rfl, hl13⟩ := len_succ hl12
                obtain ⟨v14, vs14, rfl, hl14⟩ := len_succ hl13
                obtain ⟨v15, vs15, rfl, hl15⟩ := len_succ hl14
                obtain ⟨v16, vs16, rfl, hl16⟩ := len_succ hl15
                obtain rfl := len_zero hl16
                have hB1 := (show Box gq (t + 1) b1 26 [encA .u8 d2, [.int .i64 x4], [.int .i64 x5], [.int .i64 x6], [.slice a3 n3 c3], [.slice a4 n4 c4]] [8, 1, 1, 1, 1, 1] from hf _ (List.mem_of_getElem? (i := 0) rfl) (by kernel_rfl))
                have hR3 := (show RdS (Kd.int .u8) gq 5 a3 n3 c3 l3 from hf _ (List.mem_of_getElem? (i := 1) rfl) (by kernel_rfl))
                have hR4 := (show RdS (Kd.int .u8) gq 5 a4 n4 c4 l4 from hf _ (List.mem_of_getElem? (i := 2) rfl) (by kernel_rfl))
                have e := (show v11 = .bool true from hf _ (List.mem_of_getElem? (i := 19) rfl) (by kernel_rfl))
                subst e
                refine WP.loadB (v := AG [encA .u8 d2, [.int .i64 x4], [.int .i64 x5], [.int .i64 x6], [.slice a3 n3 c3], [.slice a4 n4 c4]]) hB1 (by kernel_rfl) (by kernel_rfl) ?_
                refine WP.done (by kernel_rfl) (Shown.ok (v := AG [encA .u8 d2, [.int .i64 x4], [.int .i64 x5], [.int .i64 x6], [.slice a3 n3 c3], [.slice a4 n4 c4]]) (by kernel_rfl) (Step.refl _ _) ?_)
                exact ⟨trivial, trivial, trivial, trivial, trivial, trivial, trivial, trivial, trivial, trivial, trivial, trivial, trivial, trivial, trivial, trivial, trivial, trivial, trivial, trivial, trivial, trivial, rfl, trivial, trivial, trivial⟩
              · intro vs gq stq hl hf
                replace hl : vs.length = 17 := hl
                obtain ⟨v0, vs0, rfl, hl0⟩ := len_succ hl
                obtain ⟨v1, vs1, rfl, hl1⟩ := len_succ hl0
                obtain ⟨v2, vs2, rfl, hl2⟩ := len_succ hl1
                obtain ⟨v3, vs3, rfl, hl3⟩ := len_succ hl2
                obtain ⟨v4, vs4, rfl, hl4⟩ := len_succ hl3
                obtain ⟨v5, vs5, rfl, hl5⟩ := len_succ hl4
                obtain ⟨v6, vs6, rfl, hl6⟩ := len_succ hl5
                obtain ⟨v7, vs7, rfl, hl7⟩ := len_succ hl6
                obtain ⟨v8, vs8, rfl, hl8⟩ := len_succ hl7
                obtain ⟨v9, vs9, rfl, hl9⟩ := len_succ hl8
                obtain ⟨v10, vs10, rfl, hl10⟩ := len_succ hl9
                obtain ⟨v11, vs11, rfl, hl11⟩ := len_succ hl10
                obtain ⟨v12, vs12, rfl, hl12⟩ := len_succ hl11
                obtain ⟨v13, vs13, rfl, hl13⟩ := len_succ hl12
                obtain ⟨v14, vs14, rfl, hl14⟩ := len_succ hl13
                obtain ⟨v15, vs15, rfl, hl15⟩ := len_succ hl14
                obtain ⟨v16, vs16, rfl, hl16⟩ := len_succ hl15
                obtain rfl := len_zero hl16
                have hR3 := (show RdS (Kd.int .u8) gq 5 a3 n3 c3 l3 from hf _ (List.mem_of_getElem? (i := 1) rfl) (by kernel_rfl))
                have hR4 := (show RdS (Kd.int .u8) gq 5 a4 n4 c4 l4 from hf _ (List.mem_of_getElem? (i := 2) rfl) (by kernel_rfl))
                have e := (show v11 = .bool true from hf _ (List.mem_of_getElem? (i := 19) rfl) (by kernel_rfl))
                subst e
                have e := (show v14 = AG [encA .u8 d2, [.int .i64 x4], [.int .i64 x5], [.int .i64 x6], [.slice a3 n3 c3], [.slice a4 n4 c4]] from hf _ (List.mem_of_getElem? (i := 22) rfl) (by kernel_rfl))
                subst e
                have hcal23 := P.baizelaw25_Of gq d2 x4 x5 x6 l3 l4 a3 n3 c3 a4 n4 c4 hR3 hR4 d10 x32 x33 x34 l22 l23 hk23
                refine WP.callC hcal23 (by kernel_rfl) ?_
                rintro _ g30 st30 ⟨a22, n22, c22, a23, n23, c23, rfl, hR22, hR23⟩
                obtain rfl := hR22.len
                obtain rfl := hR23.len
                refine WP.done (by kernel_rfl) (Shown.ok (v := AG [encA .u8 d10, [.int .i64 x32], [.int .i64 x33], [.int .i64 x34], [.slice a22 l22.length c22], [.slice a23 l23.length c23]]) (by kernel_rfl) st30.pure ?_)
                exact ⟨trivial, trivial, trivial, trivial, trivial, trivial, trivial, trivial, trivial, trivial, trivial, trivial, trivial, trivial, trivial, trivial, trivial, trivial, trivial, trivial, trivial, trivial, trivial, ⟨a22, c22, a23, c23, rfl, hR22, hR23⟩, trivial, trivial⟩
              · intro vs gq stq hl hf
                replace hl : vs.length = 17 := hl
                obtain ⟨v0, vs0, rfl, hl0⟩ := len_succ hl
                obtain ⟨v1, vs1, rfl, hl1⟩ := len_succ hl0
                obtain ⟨v2, vs2, rfl, hl2⟩ := len_succ hl1
                obtain ⟨v3, vs3, rfl, hl3⟩ := len_succ hl2
                obtain ⟨v4, vs4, rfl, hl4⟩ := len_succ hl3
                obtain ⟨v5, vs5, rfl, hl5⟩ := len_succ hl4
                obtain ⟨v6, vs6, rfl, hl6⟩ := len_succ hl5
                obtain ⟨v7, vs7, rfl, hl7⟩ := len_succ hl6
                obtain ⟨v8, vs8, rfl, hl8⟩ := len_succ hl7
                obtain ⟨v9, vs9, rfl, hl9⟩ := len_succ hl8
                obtain ⟨v10, vs10, rfl, hl10⟩ := len_succ hl9
                obtain ⟨v11, vs11, rfl, hl11⟩ := len_succ hl10
                obtain ⟨v12, vs12, rfl, hl12⟩ := len_succ hl11
                obtain ⟨v13, vs13, rfl, hl13⟩ := len_succ hl12
                obtain ⟨v14, vs14, rfl, hl14⟩ := len_succ hl13
                obtain ⟨v15, vs15, rfl, hl15⟩ := len_succ hl14
                obtain ⟨v16, vs16, rfl, hl16⟩ := len_succ hl15
                obtain rfl := len_zero hl16
                have e := (show v11 = .bool true from hf _ (List.mem_of_getElem? (i := 19) rfl) (by kernel_rfl))
                subst e
                obtain ⟨a20, c20, a21, c21, e, hR20, hR21⟩ := (show ∃ (a20 : Option Addr) (c20 : Nat) (a21 : Option Addr) (c21 : Nat), v13 = AG [encA .u8 d9, [.int .i64 x29], [.int .i64 x30], [.int .i64 x31], [.slice a20 l20.length c20], [.slice a21 l21.length c21]] ∧ RdS (Kd.int .u8) gq 5 a20 l20.length c20 l20 ∧ RdS (Kd.int .u8) gq 5 a21 l21.length c21 l21 from hf _ (List.mem_of_getElem? (i := 21) rfl) (by kernel_rfl))
                subst e
                obtain ⟨a22, c22, a23, c23, e, hR22, hR23⟩ := (show ∃ (a22 : Option Addr) (c22 : Nat) (a23 : Option Addr) (c23 : Nat), v15 = AG [encA .u8 d10, [.int .i64 x32], [.int .i64 x33], [.int .i64 x34], [.slice a22 l22.length c22], [.slice a23 l23.length c23]] ∧ RdS (Kd.int .u8) gq 5 a22 l22.length c22 l22 ∧ RdS (Kd.int .u8) gq 5 a23 l23.length c23 l23 from hf _ (List.mem_of_getElem? (i := 23) rfl) (by kernel_rfl))
                subst e
                have hcal24 := P.baizeref25_Same gq d9 x29 x30 x31 l20 l21 d10 x32 x33 x34 l22 l23 a20 l20.length c20 a21 l21.length c21 a22 l22.length c22 a23 l23.length c23 hR20 hR21 hR22 hR23 q13 hk24
                refine WP.callC hcal24 (by kernel_rfl) ?_
                rintro _ g31 st31 rfl
                refine WP.done (by kernel_rfl) (Shown.ok (v := .bool q13) (by kernel_rfl) st31.pure ?_)
                exact ⟨trivial, trivial, trivial, trivial, trivial, trivial, trivial, trivial, trivial, trivial, trivial, trivial, trivial, trivial, trivial, trivial, trivial, trivial, trivial, trivial, trivial, trivial, trivial, trivial, rfl, trivial⟩
            intro vs g32 st32 hl hf
            replace hl : vs.length = 17 := hl
            obtain ⟨v0, vs0, rfl, hl0⟩ := len_succ hl
            obtain ⟨v1, vs1, rfl, hl1⟩ := len_succ hl0
            obtain ⟨v2, vs2, rfl, hl2⟩ := len_succ hl1
            obtain ⟨v3, vs3, rfl, hl3⟩ := len_succ hl2
            obtain ⟨v4, vs4, rfl, hl4⟩ := len_succ hl3
            obtain ⟨v5, vs5, rfl, hl5⟩ := len_succ hl4
            obtain ⟨v6, vs6, rfl, hl6⟩ := len_succ hl5
            obtain ⟨v7, vs7, rfl, hl7⟩ := len_succ hl6
            obtain ⟨v8, vs8, rfl, hl8⟩ := len_succ hl7
            obtain ⟨v9, vs9, rfl, hl9⟩ := len_succ hl8
            obtain ⟨v10, vs10, rfl, hl10⟩ := len_succ hl9
            obtain ⟨v11, vs11, rfl, hl11⟩ := len_succ hl10
            obtain ⟨v12, vs12, rfl, hl12⟩ := len_succ hl11
            obtain ⟨v13, vs13, rfl, hl13⟩ := len_succ hl12
            obtain ⟨v14, vs14, rfl, hl14⟩ := len_succ hl13
            obtain ⟨v15, vs15, rfl, hl15⟩ := len_succ hl14
            obtain ⟨v16, vs16, rfl, hl16⟩ := len_succ hl15
            obtain rfl := len_zero hl16
            have e := (show v11 = .bool true from hf _ (List.mem_of_getElem? (i := 19) rfl) (by kernel_rfl))
            subst e
            have e := (show v16 = .bool q13 from hf _ (List.mem_of_getElem? (i := 24) rfl) (by kernel_rfl))
            subst e
            replace tot := tot.trans (st32.up1 (.inr (by omega)))
            refine NX.post ?_
            exact ⟨q13, ⟨by kernel_rfl, by kernel_rfl⟩, tot, hs⟩
          replace hs := of_if_f hs h13
          refine CP.drawL (by kernel_rfl) [0, 1, 3, 4, 5, 6, 8, 12, 13, 14, 15, 17] N.baizelaw25_TxBytes_0 [⟨none, [], [], fun l g => Box g (t + 1) b1 26 [encA .u8 d2, [.int .i64 x4], [.int .i64 x5], [.int .i64 x6], [.slice a3 n3 c3], [.slice a4 n4 c4]] [8, 1, 1, 1, 1, 1]⟩, ⟨none, [], [], fun l g => RdS (Kd.int .u8) g 5 a3 n3 c3 l3⟩, ⟨none, [], [], fun l g => RdS (Kd.int .u8) g 5 a4 n4 c4 l4⟩, ⟨none, [], [], fun l g => RdS (Kd.int .u8) g 5 a7 n7 c7 l7⟩, ⟨none, [], [], fun l g => Box g (t + 3) b2 26 [encA .u8 d4, [.int .i64 x13], [.int .i64 x14], [.int .i64 x15], [.slice a8 n8 c8], [.slice a9 n9 c9]] [8, 1, 1, 1, 1, 1]⟩, ⟨none, [], [], fun l g => RdS (Kd.int .u8) g 5 a8 n8 c8 l8⟩, ⟨none, [], [], fun l g => RdS (Kd.int .u8) g 5 a9 n9 c9 l9⟩, ⟨some 0, [], [0], fun l g => l.getD 0 undef = .bool q10⟩, ⟨some 1, [], [1], fun l g => l.getD 0 undef = .bool true⟩, ⟨some 2, [], [2], fun l g => l.getD 0 undef = AG [encA .u8 d2, [.int .i64 x4], [.int .i64 x5], [.int .i64 x6], [.slice a3 n3 c3], [.slice a4 n4 c4]]⟩, ⟨some 3, [], [3], fun l g => ∃ (a17 : Option Addr) (c17 : Nat) (a18 : Option Addr) (c18 : Nat), l.getD 0 undef = AG [encA .u8 d8, [.int .i64 x26], [.int .i64 x27], [.int .i64 x28], [.slice a17 l17.length c17], [.slice a18 l18.length c18]] ∧ RdS (Kd.int .u8) g 5 a17 l17.length c17 l17 ∧ RdS (Kd.int .u8) g 5 a18 l18.length c18 l18⟩, ⟨some 4, [0], [4], fun l g => ∃ (a19 : Option Addr) (c19 : Nat), l.getD 0 undef = .slice a19 l19.length c19 ∧ OwnS (Kd.int .u8) g (t + 5) 5 a19 l19.length c19 l19⟩, ⟨some 5, [], [5], fun l g => l.getD 0 undef = .bool q11⟩, ⟨some 5, [0], [4], fun l g => ∃ (a19 : Option Addr) (c19 : Nat), l.getD 0 undef = .slice a19 l19.length c19 ∧ OwnS (Kd.int .u8) g (t + 5) 5 a19 l19.length c19 l19⟩, ⟨some 6, [], [6], fun l g => l.getD 0 undef = .bool true⟩, ⟨some 7, [], [7], fun l g => l.getD 0 undef = .bool true⟩, ⟨some 8, [], [8], fun l g => l.getD 0 undef = AG [encA .u8 d4, [.int .i64 x13], [.int .i64 x14], [.int .i64 x15], [.slice a8 n8 c8], [.slice a9 n9 c9]]⟩, ⟨some 9, [], [9], fun l g => l.getD 0 undef = AG [encA .u8 d2, [.int .i64 x4], [.int .i64 x5], [.int .i64 x6], [.slice a3 n3 c3], [.slice a4 n4 c4]]⟩, ⟨some 10, [], [10], fun l g => l.getD 0 undef = .bool q12⟩, ⟨some 11, [], [11], fun l g => l.getD 0 undef = .bool false⟩] [[], [], [], [], [], [0], [], [], [], [], [], []] [(t + 5)] [] [2, 7, 9, 10, 11, 16, 18, 19, 20, 21, 22, 23, 24] (by kernel_rfl) (by simp <;> omega) (by simp) ⟨fun _ _ _ _ st h0 hl hj hB1 => (hB1.mono st (fun h => absurd (hl _ h) (by simp <;> omega))), fun _ _ _ _ st h0 hl hj hR3 => (RdS.mono (e := 5) hR3 st h0), fun _ _ _ _ st h0 hl hj hR4 => (RdS.mono (e := 5) hR4 st h0), fun _ _ _ _ st h0 hl hj hR7 => (RdS.mono (e := 5) hR7 st h0), fun _ _ _ _ st h0 hl hj hB3 => (hB3.mono st (fun h => absurd (hl _ h) (by simp <;> omega))), fun _ _ _ _ st h0 hl hj hR8 => (RdS.mono (e := 5) hR8 st h0), fun _ _ _ _ st h0 hl hj hR9 => (RdS.mono (e := 5) hR9 st h0), fun _ _ _ _ st h0 hl hj e => e, fun _ _ _ _ st h0 hl hj e => e, fun _ _ _ _ st h0 hl hj e => e, fun _ _ _ _ st h0 hl hj ⟨a17, c17, a18, c18, e, hR17, hR18⟩ => ⟨a17, c17, a18, c18, e, (RdS.mono (e := 5) hR17 st h0), (RdS.mono (e := 5) hR18 st h0)⟩, fun _ _ _ _ st h0 hl hj ⟨a19, c19, e, hR19⟩ => ⟨a19, c19, e, (hR19.mono st h0 (hj 0 (by simp) _ rfl))⟩, fun _ _ _ _ st h0 hl hj e => e, fun _ _ _ _ st h0 hl hj ⟨a19, c19, e, hR19⟩ => ⟨a19, c19, e, (hR19.mono st h0 (hj 0 (by simp) _ rfl))⟩, fun _ _ _ _ st h0 hl hj e => e, fun _ _ _ _ st h0 hl hj e => e, fun _ _ _ _ st h0 hl hj e => e, fun _ _ _ _ st h0 hl hj e => e, fun _ _ _ _ st h0 hl hj e => e, fun _ _ _ _ st h0 hl hj e => e, trivial⟩ ⟨hB1, hR3, hR4, hR7, hB3, hR8, hR9, trivial, trivial, trivial, trivial, trivial, trivial, trivial, trivial, trivial, trivial, trivial, trivial, trivial, trivial⟩ (by kernel_rfl) (fun vs => by kernel_rfl) ?_ ?_ ?_
          · intro j hj
            have hq : j = 0 ∨ j = 1 ∨ j = 2 ∨ j = 3 ∨ j = 4 ∨ j = 5 ∨ j = 6 ∨ j = 7 ∨ j = 8 ∨ j = 9 ∨ j = 10 ∨ j = 11 ∨ j = 12 := by have h : j < 13 := hj; omega
            rcases hq with rfl | rfl | rfl | rfl | rfl | rfl | rfl | rfl | rfl | rfl | rfl | rfl | rfl
            · intro vs gq stq hl hf
              replace hl : vs.length = 12 := hl
              obtain ⟨v0, vs0, rfl, hl0⟩ := len_succ hl
              obtain ⟨v1, vs1, rfl, hl1⟩ := len_succ hl0
              obtain ⟨v2, vs2, rfl, hl2⟩ := len_succ hl1
              obtain ⟨v3, vs3, rfl, hl3⟩ := len_succ hl2
              obtain ⟨v4, vs4, rfl, hl4⟩ := len_succ hl3
              obtain ⟨v5, vs5, rfl, hl5⟩ := len_succ hl4
              obtain ⟨v6, vs6, rfl, hl6⟩ := len_succ hl5
              obtain ⟨v7, vs7, rfl, hl7⟩ := len_succ hl6
              obtain ⟨v8, vs8, rfl, hl8⟩ := len_succ hl7
              obtain ⟨v9, vs9, rfl, hl9⟩ := len_succ hl8
              obtain ⟨v10, vs10, rfl, hl10⟩ := len_succ hl9
              obtain ⟨v11, vs11, rfl, hl11⟩ := len_succ hl10
              obtain rfl := len_zero hl11
              have e := (show v1 = .bool true from hf _ (List.mem_of_getElem? (i := 8) rfl) (by kernel_rfl))
              subst e
              show Option.isSome _ = true
              kernel_rfl
            · intro vs gq stq hl hf
              replace hl : vs.length = 12 := hl
              obtain ⟨v0, vs0, rfl, hl0⟩ := len_succ hl
              obtain ⟨v1, vs1, rfl, hl1⟩ := len_succ hl0
              obtain ⟨v2, vs2, rfl, hl2⟩ := len_succ hl1
              obtain ⟨v3, vs3, rfl, hl3⟩ := len_succ hl2
              obtain ⟨v4, vs4, rfl, hl4⟩ := len_succ hl3
              obtain ⟨v5, vs5, rfl, hl5⟩ := len_succ hl4
              obtain ⟨v6, vs6, rfl, hl6⟩ := len_succ hl5
              obtain ⟨v7, vs7, rfl, hl7⟩ := len_succ hl6
              obtain ⟨v8, vs8, rfl, hl8⟩ := len_succ hl7
              obtain ⟨v9, vs9, rfl, hl9⟩ := len_succ hl8
              obtain ⟨v10, vs10, rfl, hl10⟩ := len_succ hl9
              obtain ⟨v11, vs11, rfl, hl11⟩ := len_succ hl10
              obtain rfl := len_zero hl11
              have e := (show v1 = .bool true from hf _ (List.mem_of_getElem? (i := 8) rfl) (by kernel_rfl))
              subst e
              have e := (show v5 = .bool q11 from hf _ (List.mem_of_getElem? (i := 12) rfl) (by kernel_rfl))
              subst e
              show Option.isSome _ = true
              kernel_rfl
            · intro vs gq stq hl hf
              replace hl : vs.length = 12 := hl
              obtain ⟨v0, vs0, rfl, hl0⟩ := len_succ hl
              obtain ⟨v1, vs1, rfl, hl1⟩ := len_succ hl0
              obtain ⟨v2, vs2, rfl, hl2⟩ := len_succ hl1
              obtain ⟨v3, vs3, rfl, hl3⟩ := len_succ hl2
              obtain ⟨v4, vs4, rfl, hl4⟩ := len_succ hl3
              obtain ⟨v5, vs5, rfl, hl5⟩ := len_succ hl4
              obtain ⟨v6, vs6, rfl, hl6⟩ := len_succ hl5
              obtain ⟨v7, vs7, rfl, hl7⟩ := len_succ hl6
              obtain ⟨v8, vs8, rfl, hl8⟩ := len_succ hl7
              obtain ⟨v9, vs9, rfl, hl9⟩ := len_succ hl8
              obtain ⟨v10, vs10, rfl, hl10⟩ := len_succ hl9
              obtain ⟨v11, vs11, rfl, hl11⟩ := len_succ hl10
              obtain rfl := len_zero hl11
              have e := (show v6 = .bool true from hf _ (List.mem_of_getElem? (i := 14) rfl) (by kernel_rfl))
              subst e
              show Option.isSome _ = true
              kernel_rfl
            · intro vs gq stq hl hf
              replace hl : vs.length = 12 := hl
              obtain ⟨v0, vs0, rfl, hl0⟩ := len_succ hl
              obtain ⟨v1, vs1, rfl, hl1⟩ := len_succ hl0
              obtain ⟨v2, vs2, rfl, hl2⟩ := len_succ hl1
              obtain ⟨v3, vs3, rfl, hl3⟩ := len_succ hl2
              obtain ⟨v4, vs4, rfl, hl4⟩ := len_succ hl3
              obtain ⟨v5, vs5, rfl, hl5⟩ := len_succ hl4
              obtain ⟨v6, vs6, rfl, hl6⟩ := len_succ hl5
              obtain ⟨v7, vs7, rfl, hl7⟩ := len_succ hl6
              obtain ⟨v8, vs8, rfl, hl8⟩ := len_succ hl7
              obtain ⟨v9, vs9, rfl, hl9⟩ := len_succ hl8
              obtain ⟨v10, vs10, rfl, hl10⟩ := len_succ hl9
              obtain ⟨v11, vs11, rfl, hl11⟩ := len_succ hl10
              obtain rfl := len_zero hl11
              have e := (show v6 = .bool true from hf _ (List.mem_of_getElem? (i := 14) rfl) (by kernel_rfl))
              subst e
              show Option.isSome _ = true
              kernel_rfl
            · intro vs gq stq hl hf
              replace hl : vs.length = 12 := hl
              obtain ⟨v0, vs0, rfl, hl0⟩ := len_succ hl
              obtain ⟨v1, vs1, rfl, hl1⟩ := len_succ hl0
              obtain ⟨v2, vs2, rfl, hl2⟩ := len_succ hl1
              obtain ⟨v3, vs3, rfl, hl3⟩ := len_succ hl2
              obtain ⟨v4, vs4, rfl, hl4⟩ := len_succ hl3
              obtain ⟨v5, vs5, rfl, hl5⟩ := len_succ hl4
              obtain ⟨v6, vs6, rfl, hl6⟩ := len_succ hl5
              obtain ⟨v7, vs7, rfl, hl7⟩ := len_succ hl6
              obtain ⟨v8, vs8, rfl, hl8⟩ := len_succ hl7
              obtain ⟨v9, vs9, rfl, hl9⟩ := len_succ hl8
              obtain ⟨v10, vs10, rfl, hl10⟩ := len_succ hl9
              obtain ⟨v11, vs11, rfl, hl11⟩ := len_succ hl10
              obtain rfl := len_zero hl11
              have e := (show v6 = .bool true from hf _ (List.mem_of_getElem? (i := 14) rfl) (by kernel_rfl))
              subst e
              show Option.isSome _ = true
              kernel_rfl
            · intro vs gq stq hl hf
              replace hl : vs.length = 12 := hl
              obtain ⟨v0, vs0, rfl, hl0⟩ := len_succ hl
              obtain ⟨v1, vs1, rfl, hl1⟩ := len_succ hl0
              obtain ⟨v2, vs2, rfl, hl2⟩ := len_succ hl1
              obtain ⟨v3, vs3, rfl, hl3⟩ := len_succ hl2
              obtain ⟨v4, vs4, rfl, hl4⟩ := len_succ hl3
              obtain ⟨v5, vs5, rfl, hl5⟩ := len_succ hl4
              obtain ⟨v6, vs6, rfl, hl6⟩ := len_succ hl5
              obtain ⟨v7, vs7, rfl, hl7⟩ := len_succ hl6
              obtain ⟨v8, vs8, rfl, hl8⟩ := len_succ hl7
              obtain ⟨v9, vs9, rfl, hl9⟩ := len_succ hl8
              obtain ⟨v10, vs10, rfl, hl10⟩ := len_succ hl9
              obtain ⟨v11, vs11, rfl, hl11⟩ := len_succ hl10
              obtain rfl := len_zero hl11
              have e := (show v7 = .bool true from hf _ (List.mem_of_getElem? (i := 15) rfl) (by kernel_rfl))
              subst e
              have e := (show v10 = .bool q12 from hf _ (List.mem_of_getElem? (i := 18) rfl) (by kernel_rfl))
              subst e
              show Option.isSome _ = true
              kernel_rfl
            · intro vs gq stq hl hf
              replace hl : vs.length = 12 := hl
              obtain ⟨v0, vs0, rfl, hl0⟩ := len_succ hl
              obtain ⟨v1, vs1, rfl, hl1⟩ := len_succ hl0
              obtain ⟨v2, vs2, rfl, hl2⟩ := len_succ hl1
              obtain ⟨v3, vs3, rfl, hl3⟩ := len_succ hl2
              obtain ⟨v4, vs4, rfl, hl4⟩ := len_succ hl3
              obtain ⟨v5, vs5, rfl, hl5⟩ := len_succ hl4
              obtain ⟨v6, vs6, rfl, hl6⟩ := len_succ hl5
              obtain ⟨v7, vs7, rfl, hl7⟩ := len_succ hl6
              obtain ⟨v8, vs8, rfl, hl8⟩ := len_succ hl7
              obtain ⟨v9, vs9, rfl, hl9⟩ := len_succ hl8
              obtain ⟨v10, vs10, rfl, hl10⟩ := len_succ hl9
              obtain ⟨v11, vs11, rfl, hl11⟩ := len_succ hl10
              obtain rfl := len_zero hl11
              have e := (show v11 = .bool false from hf _ (List.mem_of_getElem? (i := 19) rfl) (by kernel_rfl))
              subst e
              show Option.isSome _ = true
              kernel_rfl
            · intro vs gq stq hl hf
              replace hl : vs.length = 12 := hl
              obtain ⟨v0, vs0, rfl, hl0⟩ := len_succ hl
              obtain ⟨v1, vs1, rfl, hl1⟩ := len_succ hl0
              obtain ⟨v2, vs2, rfl, hl2⟩ := len_succ hl1
              obtain ⟨v3, vs3, rfl, hl3⟩ := len_succ hl2
              obtain ⟨v4, vs4, rfl, hl4⟩ := len_succ hl3
              obtain ⟨v5, vs5, rfl, hl5⟩ := len_succ hl4
              obtain ⟨v6, vs6, rfl, hl6⟩ := len_succ hl5
              obtain ⟨v7, vs7, rfl, hl7⟩ := len_succ hl6
              obtain ⟨v8, vs8, rfl, hl8⟩ := len_succ hl7
              obtain ⟨v9, vs9, rfl, hl9⟩ := len_succ hl8
              obtain ⟨v10, vs10, rfl, hl10⟩ := len_succ hl9
              obtain ⟨v11, vs11, rfl, hl11⟩ := len_succ hl10
              obtain rfl := len_zero hl11
              have e := (show v11 = .bool false from hf _ (List.mem_of_getElem? (i := 19) rfl) (by kernel_rfl))
              subst e
              show Option.isSome _ = true
              kernel_rfl
            · intro vs gq stq hl hf
              replace hl : vs.length = 12 := hl
              obtain ⟨v0, vs0, rfl, hl0⟩ := len_succ hl
              obtain ⟨v1, vs1, rfl, hl1⟩ := len_succ hl0
              obtain ⟨v2, vs2, rfl, hl2⟩ := len_succ hl1
              obtain ⟨v3, vs3, rfl, hl3⟩ := len_succ hl2
              obtain ⟨v4, vs4, rfl, hl4⟩ := len_succ hl3
              obtain ⟨v5, vs5, rfl, hl5⟩ := len_succ hl4
              obtain ⟨v6, vs6, rfl, hl6⟩ := len_succ hl5
              obtain ⟨v7, vs7, rfl, hl7⟩ := len_succ hl6
              obtain ⟨v8, vs8, rfl, hl8⟩ := len_succ hl7
              obtain ⟨v9, vs9, rfl, hl9⟩ := len_succ hl8
              obtain ⟨v10, vs10, rfl, hl10⟩ := len_succ hl9
              obtain ⟨v11, vs11, rfl, hl11⟩ := len_succ hl10
              obtain rfl := len_zero hl11
              have e := (show v11 = .bool false from hf _ (List.mem_of_getElem? (i := 19) rfl) (by kernel_rfl))
              subst e
              show Option.isSome _ = true
              kernel_rfl
            · intro vs gq stq hl hf
              replace hl : vs.length = 12 := hl
              obtain ⟨v0, vs0, rfl, hl0⟩ := len_succ hl
              obtain ⟨v1, vs1, rfl, hl1⟩ := len_succ hl0
              obtain ⟨v2, vs2, rfl, hl2⟩ := len_succ hl1
              obtain ⟨v3, vs3, rfl, hl3⟩ := len_succ hl2
              obtain ⟨v4, vs4, rfl, hl4⟩ := len_succ hl3
              obtain ⟨v5, vs5, rfl, hl5⟩ := len_succ hl4
              obtain ⟨v6, vs6, rfl, hl6⟩ := len_succ hl5
              obtain ⟨v7, vs7, rfl, hl7⟩ := len_succ hl6
              obtain ⟨v8, vs8, rfl, hl8⟩ := len_succ hl7
              obtain ⟨v9, vs9, rfl, hl9⟩ := len_succ hl8
              obtain ⟨v10, vs10, rfl, hl10⟩ := len_succ hl9
              obtain ⟨v11, vs11, rfl, hl11⟩ := len_succ hl10
              obtain rfl := len_zero hl11
              have e := (show v11 = .bool false from hf _ (List.mem_of_getElem? (i := 19) rfl) (by kernel_rfl))
              subst e
              show Option.isSome _ = true
              kernel_rfl
            · intro vs gq stq hl hf
              replace hl : vs.length = 12 := hl
              obtain ⟨v0, vs0, rfl, hl0⟩ := len_succ hl
              obtain ⟨v1, vs1, rfl, hl1⟩ := len_succ hl0
              obtain ⟨v2, vs2, rfl, hl2⟩ := len_succ hl1
              obtain ⟨v3, vs3, rfl, hl3⟩ := len_succ hl2
              obtain ⟨v4, vs4, rfl, hl4⟩ := len_succ hl3
              obtain ⟨v5, vs5, rfl, hl5⟩ := len_succ hl4
              obtain ⟨v6, vs6, rfl, hl6⟩ := len_succ hl5
              obtain ⟨v7, vs7, rfl, hl7⟩ := len_succ hl6
              obtain ⟨v8, vs8, rfl, hl8⟩ := len_succ hl7
              obtain ⟨v9, vs9, rfl, hl9⟩ := len_succ hl8
              obtain ⟨v10, vs10, rfl, hl10⟩ := len_succ hl9
              obtain ⟨v11, vs11, rfl, hl11⟩ := len_succ hl10
              obtain rfl := len_zero hl11
              have e := (show v11 = .bool false from hf _ (List.mem_of_getElem? (i := 19) rfl) (by kernel_rfl))
              subst e
              show Option.isSome _ = true
              kernel_rfl
            · intro vs gq stq hl hf
              replace hl : vs.length = 12 := hl
              obtain ⟨v0, vs0, rfl, hl0⟩ := len_succ hl
              obtain ⟨v1, vs1, rfl, hl1⟩ := len_succ hl0
              obtain ⟨v2, vs2, rfl, hl2⟩ := len_succ hl1
              obtain ⟨v3, vs3, rfl, hl3⟩ := len_succ hl2
              obtain ⟨v4, vs4, rfl, hl4⟩ := len_succ hl3
              obtain ⟨v5, vs5, rfl, hl5⟩ := len_succ hl4
              obtain ⟨v6, vs6, rfl, hl6⟩ := len_succ hl5
              obtain ⟨v7, vs7, rfl, hl7⟩ := len_succ hl6
              obtain ⟨v8, vs8, rfl, hl8⟩ := len_succ hl7
              obtain ⟨v9, vs9, rfl, hl9⟩ := len_succ hl8
              obtain ⟨v10, vs10, rfl, hl10⟩ := len_succ hl9
              obtain ⟨v11, vs11, rfl, hl11⟩ := len_succ hl10
              obtain rfl := len_zero hl11
              have e := (show v11 = .bool false from hf _ (List.mem_of_getElem? (i := 19) rfl) (by kernel_rfl))
              subst e
              show Option.isSome _ = true
              kernel_rfl
            · intro vs gq stq hl hf
              replace hl : vs.length = 12 := hl
              obtain ⟨v0, vs0, rfl, hl0⟩ := len_succ hl
              obtain ⟨v1, vs1, rfl, hl1⟩ := len_succ hl0
              obtain ⟨v2, vs2, rfl, hl2⟩ := len_succ hl1
              obtain ⟨v3, vs3, rfl, hl3⟩ := len_succ hl2
              obtain ⟨v4, vs4, rfl, hl4⟩ := len_succ hl3
              obtain ⟨v5, vs5, rfl, hl5⟩ := len_succ hl4
              obtain ⟨v6, vs6, rfl, hl6⟩ := len_succ hl5
              obtain ⟨v7, vs7, rfl, hl7⟩ := len_succ hl6
              obtain ⟨v8, vs8, rfl, hl8⟩ := len_succ hl7
              obtain ⟨v9, vs9, rfl, hl9⟩ := len_succ hl8
              obtain ⟨v10, vs10, rfl, hl10⟩ := len_succ hl9
              obtain ⟨v11, vs11, rfl, hl11⟩ := len_succ hl10
              obtain rfl := len_zero hl11
              have e := (show v11 = .bool false from hf _ (List.mem_of_getElem? (i := 19) rfl) (by kernel_rfl))
              subst e
              show Option.isSome _ = true
              kernel_rfl
          · intro j hj
            have hq : j = 0 ∨ j = 1 ∨ j = 2 ∨ j = 3 ∨ j = 4 ∨ j = 5 ∨ j = 6 ∨ j = 7 ∨ j = 8 ∨ j = 9 ∨ j = 10 ∨ j = 11 := by have h : j < 12 := hj; omega
            rcases hq with rfl | rfl | rfl | rfl | rfl | rfl | rfl | rfl | rfl | rfl | rfl | rfl
            · intro vs gq stq hl hf
              replace hl : vs.length = 12 := hl
              obtain ⟨v0, vs0, rfl, hl0⟩ := len_succ hl
              obtain ⟨v1, vs1, rfl, hl1⟩ := len_succ hl0
              obtain ⟨v2, vs2, rfl, hl2⟩ := len_succ hl1
              obtain ⟨v3, vs3, rfl, hl3⟩ := len_succ hl2
              obtain ⟨v4, vs4, rfl, hl4⟩ := len_succ hl3
              obtain ⟨v5, vs5, rfl, hl5⟩ := len_succ hl4
              obtain ⟨v6, vs6, rfl, hl6⟩ := len_succ hl5
              obtain ⟨v7, vs7, rfl, hl7⟩ := len_succ hl6
              obtain ⟨v8, vs8, rfl, hl8⟩ := len_succ hl7
              obtain ⟨v9, vs9, rfl, hl9⟩ := len_succ hl8
              obtain ⟨v10, vs10, rfl, hl10⟩ := len_succ hl9
              obtain ⟨v11, vs11, rfl, hl11⟩ := len_succ hl10
              obtain rfl := len_zero hl11
              have hcal17 := P.baizelaw25_known gq q10 hk17
              refine WP.callC hcal17 (by kernel_rfl) ?_
              rintro _ g23 st23 rfl
              refine WP.done (by kernel_rfl) (Shown.ok (v := .bool q10) (by kernel_rfl) st23.pure ?_)
              exact ⟨trivial, trivial, trivial, trivial, trivial, trivial, trivial, rfl, trivial, trivial, trivial, trivial, trivial, trivial, trivial, trivial, trivial, trivial, trivial, trivial, trivial⟩
            · intro vs gq stq hl hf
              replace hl : vs.length = 12 := hl
              obtain ⟨v0, vs0, rfl, hl0⟩ := len_succ hl
              obtain ⟨v1, vs1, rfl, hl1⟩ := len_succ hl0
              obtain ⟨v2, vs2, rfl, hl2⟩ := len_succ hl1
              obtain ⟨v3, vs3, rfl, hl3⟩ := len_succ hl2
              obtain ⟨v4, vs4, rfl, hl4⟩ := len_succ hl3
              obtain ⟨v5, vs5, rfl, hl5⟩ := len_succ hl4
              obtain ⟨v6, vs6, rfl, hl6⟩ := len_succ hl5
              obtain ⟨v7, vs7, rfl, hl7⟩ := len_succ hl6
              obtain ⟨v8, vs8, rfl, hl8⟩ := len_succ hl7
              obtain ⟨v9, vs9, rfl, hl9⟩ := len_succ hl8
              obtain ⟨v10, vs10, rfl, hl10⟩ := len_succ hl9
              obtain ⟨v11, vs11, rfl, hl11⟩ := len_succ hl10
              obtain rfl := len_zero hl11
              have e := (show v0 = .bool q10 from hf _ (List.mem_of_getElem? (i := 7) rfl) (by kernel_rfl))
              subst e
              refine WP.still 1 (by kernel_rfl) ?_
              refine WP.done (by kernel_rfl) (Shown.ok (v := .bool q10) (by kernel_rfl) (Step.refl _ _) ?_)
              exact ⟨trivial, trivial, trivial, trivial, trivial, trivial, trivial, trivial, congrArg Value.bool h10, trivial, trivial, trivial, trivial, trivial, trivial, trivial, trivial, trivial, trivial, trivial, trivial⟩
            · intro vs gq stq hl hf
              replace hl : vs.length = 12 := hl
              obtain ⟨v0, vs0, rfl, hl0⟩ := len_succ hl
              obtain ⟨v1, vs1, rfl, hl1⟩ := len_succ hl0
              obtain ⟨v2, vs2, rfl, hl2⟩ := len_succ hl1
              obtain ⟨v3, vs3, rfl, hl3⟩ := len_succ hl2
              obtain ⟨v4, vs4, rfl, hl4⟩ := len_succ hl3
              obtain ⟨v5, vs5, rfl, hl5⟩ := len_succ hl4
              obtain ⟨v6, vs6, rfl, hl6⟩ := len_succ hl5
              obtain ⟨v7, vs7, rfl, hl7⟩ := len_succ hl6
              obtain ⟨v8, vs8, rfl, hl8⟩ := len_succ hl7
              obtain ⟨v9, vs9, rfl, hl9⟩ := len_succ hl8
              obtain ⟨v10, vs10, rfl, hl10⟩ := len_succ hl9
              obtain ⟨v11, vs11, rfl, hl11⟩ := len_succ hl10
              obtain rfl := len_zero hl11
              have hB1 := (show Box gq (t + 1) b1 26 [encA .u8 d2, [.int .i64 x4], [.int .i64 x5], [.int .i64 x6], [.slice a3 n3 c3], [.slice a4 n4 c4]] [8, 1, 1, 1, 1, 1] from hf _ (List.mem_of_getElem? (i := 0) rfl) (by kernel_rfl))
              have hR3 := (show RdS (Kd.int .u8) gq 5 a3 n3 c3 l3 from hf _ (List.mem_of_getElem? (i := 1) rfl) (by kernel_rfl))
              have hR4 := (show RdS (Kd.int .u8) gq 5 a4 n4 c4 l4 from hf _ (List.mem_of_getElem? (i := 2) rfl) (by kernel_rfl))
              have e := (show v1 = .bool true from hf _ (List.mem_of_getElem? (i := 8) rfl) (by kernel_rfl))
              subst e
              refine WP.loadB (v := AG [encA .u8 d2, [.int .i64 x4], [.int .i64 x5], [.int .i64 x6], [.slice a3 n3 c3], [.slice a4 n4 c4]]) hB1 (by kernel_rfl) (by kernel_rfl) ?_
              refine WP.done (by kernel_rfl) (Shown.ok (v := AG [encA .u8 d2, [.int .i64 x4], [.int .i64 x5], [.int .i64 x6], [.slice a3 n3 c3], [.slice a4 n4 c4]]) (by kernel_rfl) (Step.refl _ _) ?_)
              exact ⟨trivial, trivial, trivial, trivial, trivial, trivial, trivial, trivial, trivial, rfl, trivial, trivial, trivial, trivial, trivial, trivial, trivial, trivial, trivial, trivial, trivial⟩
            · intro vs gq stq hl hf
              replace hl : vs.length = 12 := hl
              obtain ⟨v0, vs0, rfl, hl0⟩ := len_succ hl
              obtain ⟨v1, vs1, rfl, hl1⟩ := len_succ hl0
              obtain ⟨v2, vs2, rfl, hl2⟩ := len_succ hl1
              obtain ⟨v3, vs3, rfl, hl3⟩ := len_succ hl2
              obtain ⟨v4, vs4, rfl, hl4⟩ := len_succ hl3
              obtain ⟨v5, vs5, rfl, hl5⟩ := len_succ hl4
              obtain ⟨v6, vs6, rfl, hl6⟩ := len_succ hl5
              obtain ⟨v7, vs7, rfl, hl7⟩ := len_succ hl6
              obtain ⟨v8, vs8, rfl, hl8⟩ := len_succ hl7
              obtain ⟨v9, vs9, rfl, hl9⟩ := len_succ hl8
              obtain ⟨v10, vs10, rfl, hl10⟩ := len_succ hl9
              obtain ⟨v11, vs11, rfl, hl11⟩ := len_succ hl10
              obtain rfl := len_zero hl11
              have hR3 := (show RdS (Kd.int .u8) gq 5 a3 n3 c3 l3 from hf _ (List.mem_of_getElem? (i := 1) rfl) (by kernel_rfl))
              have hR4 := (show RdS (Kd.int .u8) gq 5 a4 n4 c4 l4 from hf _ (List.mem_of_getElem? (i := 2) rfl) (by kernel_rfl))
              have e := (show v1 = .bool true from hf _ (List.mem_of_getElem? (i := 8) rfl) (by kernel_rfl))
              subst e
              have e := (show v2 = AG [encA .u8 d2, [.int .i64 x4], [.int .i64 x5], [.int .i64 x6], [.slice a3 n3 c3], [.slice a4 n4 c4]] from hf _ (List.mem_of_getElem? (i := 9) rfl) (by kernel_rfl))
              subst e
              have hcal18 := P.baizelaw25_Of gq d2 x4 x5 x6 l3 l4 a3 n3 c3 a4 n4 c4 hR3 hR4 d8 x26 x27 x28 l17 l18 hk18
              refine WP.callC hcal18 (by kernel_rfl) ?_
              rintro _ g24 st24 ⟨a17, n17, c17, a18, n18, c18, rfl, hR17, hR18⟩
              obtain rfl := hR17.len
              obtain rfl := hR18.len
              refine WP.done (by kernel_rfl) (Shown.ok (v := AG [encA .u8 d8, [.int .i64 x26], [.int .i64 x27], [.int .i64 x28], [.slice a17 l17.length c17], [.slice a18 l18.length c18]]) (by kernel_rfl) st24.pure ?_)
              exact ⟨trivial, trivial, trivial, trivial, trivial, trivial, trivial, trivial, trivial, trivial, ⟨a17, c17, a18, c18, rfl, hR17, hR18⟩, trivial, trivial, trivial, trivial, trivial, trivial, trivial, trivial, trivial, trivial⟩
            · intro vs gq stq hl hf
              replace hl : vs.length = 12 := hl
              obtain ⟨v0, vs0, rfl, hl0⟩ := len_succ hl
              obtain ⟨v1, vs1, rfl, hl1⟩ := len_succ hl0
              obtain ⟨v2, vs2, rfl, hl2⟩ := len_succ hl1
              obtain ⟨v3, vs3, rfl, hl3⟩ := len_succ hl2
              obtain ⟨v4, vs4, rfl, hl4⟩ := len_succ hl3
              obtain ⟨v5, vs5, rfl, hl5⟩ := len_succ hl4
              obtain ⟨v6, vs6, rfl, hl6⟩ := len_succ hl5
              obtain ⟨v7, vs7, rfl, hl7⟩ := len_succ hl6
              obtain ⟨v8, vs8, rfl, hl8⟩ := len_succ hl7
              obtain ⟨v9, vs9, rfl, hl9⟩ := len_succ hl8
              obtain ⟨v10, vs10, rfl, hl10⟩ := len_succ hl9
              obtain ⟨v11, vs11, rfl, hl11⟩ := len_succ hl10
              obtain rfl := len_zero hl11
              have e := (show v1 = .bool true from hf _ (List.mem_of_getElem? (i := 8) rfl) (by kernel_rfl))
              subst e
              obtain ⟨a17, c17, a18, c18, e, hR17, hR18⟩ := (show ∃ (a17 : Option Addr) (c17 : Nat) (a18 : Option Addr) (c18 : Nat), v3 = AG [encA .u8 d8, [.int .i64 x26], [.int .i64 x27], [.int .i64 x28], [.slice a17 l17.length c17], [.slice a18 l18.length c18]] ∧ RdS (Kd.int .u8) gq 5 a17 l17.length c17 l17 ∧ RdS (Kd.int .u8) gq 5 a18 l18.length c18 l18 from hf _ (List.mem_of_getElem? (i := 10) rfl) (by kernel_rfl))
              subst e
              have hcal19 := P.baizeref25_Bytes gq (t + 5) d8 x26 x27 x28 l17 l18 a17 l17.length c17 a18 l18.length c18 hR17 hR18 l19 hk19
              refine WP.callC hcal19 (by kernel_rfl) ?_
              rintro _ g25 st25 ⟨a19, n19, c19, rfl, hR19⟩
              obtain rfl := hR19.len
              refine WP.done (by kernel_rfl) (Shown.ok (v := .slice a19 l19.length c19) (by kernel_rfl) st25.pure ?_)
              exact ⟨trivial, trivial, trivial, trivial, trivial, trivial, trivial, trivial, trivial, trivial, trivial, ⟨a19, c19, rfl, hR19⟩, trivial, trivial, trivial, trivial, trivial, trivial, trivial, trivial, trivial⟩
            · intro vs gq stq hl hf
              replace hl : vs.length = 12 := hl
              obtain ⟨v0, vs0, rfl, hl0⟩ := len_succ hl
              obtain ⟨v1, vs1, rfl, hl1⟩ := len_succ hl0
              obtain ⟨v2, vs2, rfl, hl2⟩ := len_succ hl1
              obtain ⟨v3, vs3, rfl, hl3⟩ := len_succ hl2
              obtain ⟨v4, vs4, rfl, hl4⟩ := len_succ hl3
              obtain ⟨v5, vs5, rfl, hl5⟩ := len_succ hl4
              obtain ⟨v6, vs6, rfl, hl6⟩ := len_succ hl5
              obtain ⟨v7, vs7, rfl, hl7⟩ := len_succ hl6
              obtain ⟨v8, vs8, rfl, hl8⟩ := len_succ hl7
              obtain ⟨v9, vs9, rfl, hl9⟩ := len_succ hl8
              obtain ⟨v10, vs10, rfl, hl10⟩ := len_succ hl9
              obtain ⟨v11, vs11, rfl, hl11⟩ := len_succ hl10
              obtain rfl := len_zero hl11
              have hR7 := (show RdS (Kd.int .u8) gq 5 a7 n7 c7 l7 from hf _ (List.mem_of_getElem? (i := 3) rfl) (by kernel_rfl))
              have e := (show v1 = .bool true from hf _ (List.mem_of_getElem? (i := 8) rfl) (by kernel_rfl))
              subst e
              obtain ⟨a19, c19, e, hR19⟩ := (show ∃ (a19 : Option Addr) (c19 : Nat), v4 = .slice a19 l19.length c19 ∧ OwnS (Kd.int .u8) gq (t + 5) 5 a19 l19.length c19 l19 from hf _ (List.mem_of_getElem? (i := 11) rfl) (by kernel_rfl))
              subst e
              have hS2 : 0 ∉ ([(t + 5)] : List Nat) := by simp <;> omega
              have stl2 := GW.lend_step gq [(t + 5)]
              have hRl2 := hR19.lendTo hS2 (by simp)
              refine WP.regw (g' := GW.lend gq [(t + 5)]) rfl ?_
              have hcal20 := P.baizeref01_Same (GW.lend gq [(t + 5)]) l7 l19 a7 n7 c7 a19 l19.length c19 (hR7.mono stl2 (WL.no (by simp <;> omega))) hRl2 q11 hk20
              refine WP.callC hcal20 (by kernel_rfl) ?_
              rintro _ g26 st26 rfl
              have st27 := (GW.back_step st26).lentS
              have hO2 := hR19.backTo hS2 (by simp) st26 (fun x => x)
              refine WP.regw (g' := GW.back gq g26 [(t + 5)]) rfl ?_
              generalize GW.back gq g26 [(t + 5)] = g27 at *
              refine WP.done (by kernel_rfl) (Shown.ok (v := .bool q11) (by kernel_rfl) st27 ?_)
              exact ⟨trivial, trivial, trivial, trivial, trivial, trivial, trivial, trivial, trivial, trivial, trivial, trivial, rfl, ⟨a19, c19, rfl, hO2⟩, trivial, trivial, trivial, trivial, trivial, trivial, trivial⟩
            · intro vs gq stq hl hf
              replace hl : vs.length = 12 := hl
              obtain ⟨v0, vs0, rfl, hl0⟩ := len_succ hl
              obtain ⟨v1, vs1, rfl, hl1⟩ := len_succ hl0
              obtain ⟨v2, vs2, rfl, hl2⟩ := len_succ hl1
              obtain ⟨v3, vs3, rfl, hl3⟩ := len_succ hl2
              obtain ⟨v4, vs4, rfl, hl4⟩ := len_succ hl3
              obtain ⟨v5, vs5, rfl, hl5⟩ := len_succ hl4
              obtain ⟨v6, vs6, rfl, hl6⟩ := len_succ hl5
              obtain ⟨v7, vs7, rfl, hl7⟩ := len_succ hl6
              obtain ⟨v8, vs8, rfl, hl8⟩ := len_succ hl7
              obtain ⟨v9, vs9, rfl, hl9⟩ := len_succ hl8
              obtain ⟨v10, vs10, rfl, hl10⟩ := len_succ hl9
              obtain ⟨v11, vs11, rfl, hl11⟩ := len_succ hl10
              obtain rfl := len_zero hl11
              have e := (show v1 = .bool true from hf _ (List.mem_of_getElem? (i := 8) rfl) (by kernel_rfl))
              subst e
              have e := (show v5 = .bool q11 from hf _ (List.mem_of_getElem? (i := 12) rfl) (by kernel_rfl))
              subst e
              refine WP.still 1 (by kernel_rfl) ?_
              refine WP.done (by kernel_rfl) (Shown.ok (v := .bool q11) (by kernel_rfl) (Step.refl _ _) ?_)
              exact ⟨trivial, trivial, trivial, trivial, trivial, trivial, trivial, trivial, trivial, trivial, trivial, trivial, trivial, trivial, congrArg Value.bool h11, trivial, trivial, trivial, trivial, trivial, trivial⟩
            · intro vs gq stq hl hf
              replace hl : vs.length = 12 := hl
              obtain ⟨v0, vs0, rfl, hl0⟩ := len_succ hl
              obtain ⟨v1, vs1, rfl, hl1⟩ := len_succ hl0
              obtain ⟨v2, vs2, rfl, hl2⟩ := len_succ hl1
              obtain ⟨v3, vs3, rfl, hl3⟩ := len_succ hl2
              obtain ⟨v4, vs4, rfl, hl4⟩ := len_succ hl3
              obtain ⟨v5, vs5, rfl, hl5⟩ := len_succ hl4
              obtain ⟨v6, vs6, rfl, hl6⟩ := len_succ hl5
              obtain ⟨v7, vs7, rfl, hl7⟩ := len_succ hl6
              obtain ⟨v8, vs8, rfl, hl8⟩ := len_succ hl7
              obtain ⟨v9, vs9, rfl, hl9⟩ := len_succ hl8
              obtain ⟨v10, vs10, rfl, hl10⟩ := len_succ hl9
              obtain ⟨v11, vs11, rfl, hl11⟩ := len_succ hl10
              obtain rfl := len_zero hl11
              have e := (show v6 = .bool true from hf _ (List.mem_of_getElem? (i := 14) rfl) (by kernel_rfl))
              subst e
              refine WP.still 1 (by kernel_rfl) ?_
              refine WP.done (by kernel_rfl) (Shown.ok (v := .bool (x16 == 0)) (by kernel_rfl) (Step.refl _ _) ?_)
              exact ⟨trivial, trivial, trivial, trivial, trivial, trivial, trivial, trivial, trivial, trivial, trivial, trivial, trivial, trivial, trivial, congrArg Value.bool h12, trivial, trivial, trivial, trivial, trivial⟩
            · intro vs gq stq hl hf
              replace hl : vs.length = 12 := hl
              obtain ⟨v0, vs0, rfl, hl0⟩ := len_succ hl
              obtain ⟨v1, vs1, rfl, hl1⟩ := len_succ hl0
              obtain ⟨v2, vs2, rfl, hl2⟩ := len_succ hl1
              obtain ⟨v3, vs3, rfl, hl3⟩ := len_succ hl2
              obtain ⟨v4, vs4, rfl, hl4⟩ := len_succ hl3
              obtain ⟨v5, vs5, rfl, hl5⟩ := len_succ hl4
              obtain ⟨v6, vs6, rfl, hl6⟩ := len_succ hl5
              obtain ⟨v7, vs7, rfl, hl7⟩ := len_succ hl6
              obtain ⟨v8, vs8, rfl, hl8⟩ := len_succ hl7
              obtain ⟨v9, vs9, rfl, hl9⟩ := len_succ hl8
              obtain ⟨v10, vs10, rfl, hl10⟩ := len_succ hl9
              obtain ⟨v11, vs11, rfl, hl11⟩ := len_succ hl10
              obtain rfl := len_zero hl11
              have hB3 := (show Box gq (t + 3) b2 26 [encA .u8 d4, [.int .i64 x13], [.int .i64 x14], [.int .i64 x15], [.slice a8 n8 c8], [.slice a9 n9 c9]] [8, 1, 1, 1, 1, 1] from hf _ (List.mem_of_getElem? (i := 4) rfl) (by kernel_rfl))
              have hR8 := (show RdS (Kd.int .u8) gq 5 a8 n8 c8 l8 from hf _ (List.mem_of_getElem? (i := 5) rfl) (by kernel_rfl))
              have hR9 := (show RdS (Kd.int .u8) gq 5 a9 n9 c9 l9 from hf _ (List.mem_of_getElem? (i := 6) rfl) (by kernel_rfl))
              have e := (show v7 = .bool true from hf _ (List.mem_of_getElem? (i := 15) rfl) (by kernel_rfl))
              subst e
              refine WP.loadB (v := AG [encA .u8 d4, [.int .i64 x13], [.int .i64 x14], [.int .i64 x15], [.slice a8 n8 c8], [.slice a9 n9 c9]]) hB3 (by kernel_rfl) (by kernel_rfl) ?_
              refine WP.done (by kernel_rfl) (Shown.ok (v := AG [encA .u8 d4, [.int .i64 x13], [.int .i64 x14], [.int .i64 x15], [.slice a8 n8 c8], [.slice a9 n9 c9]]) (by kernel_rfl) (Step.refl _ _) ?_)
              exact ⟨trivial, trivial, trivial, trivial, trivial, trivial, trivial, trivial, trivial, trivial, trivial, trivial, trivial, trivial, trivial, trivial, rfl, trivial, trivial, trivial, trivial⟩
            · intro vs gq stq hl hf
              replace hl : vs.length = 12 := hl
              obtain ⟨v0, vs0, rfl, hl0⟩ := len_succ hl
              obtain ⟨v1, vs1, rfl, hl1⟩ := len_succ hl0
              obtain ⟨v2, vs2, rfl, hl2⟩ := len_succ hl1
              obtain ⟨v3, vs3, rfl, hl3⟩ := len_succ hl2
              obtain ⟨v4, vs4, rfl, hl4⟩ := len_succ hl3
              obtain ⟨v5, vs5, rfl, hl5⟩ := len_succ hl4
              obtain ⟨v6, vs6, rfl, hl6⟩ := len_succ hl5
              obtain ⟨v7, vs7, rfl, hl7⟩ := len_succ hl6
              obtain ⟨v8, vs8, rfl, hl8⟩ := len_succ hl7
              obtain ⟨v9, vs9, rfl, hl9⟩ := len_succ hl8
              obtain ⟨v10, vs10, rfl, hl10⟩ := len_succ hl9
              obtain ⟨v11, vs11, rfl, hl11⟩ := len_succ hl10
              obtain rfl := len_zero hl11
              have hB1 := (show Box gq (t + 1) b1 26 [encA .u8 d2, [.int .i64 x4], [.int .i64 x5], [.int .i64 x6], [.slice a3 n3 c3], [.slice a4 n4 c4]] [8, 1, 1, 1, 1, 1] from hf _ (List.mem_of_getElem? (i := 0) rfl) (by kernel_rfl))
              have hR3 := (show RdS (Kd.int .u8) gq 5 a3 n3 c3 l3 from hf _ (List.mem_of_getElem? (i := 1) rfl) (by kernel_rfl))
              have hR4 := (show RdS (Kd.int .u8) gq 5 a4 n4 c4 l4 from hf _ (List.mem_of_getElem? (i := 2) rfl) (by kernel_rfl))
              have e := (show v7 = .bool true from hf _ (List.mem_of_getElem? (i := 15) rfl) (by kernel_rfl))
              subst e
              refine WP.loadB (v := AG [encA .u8 d2, [.int .i64 x4], [.int .i64 x5], [.int .i64 x6], [.slice a3 n3 c3], [.slice a4 n4 c4]]) hB1 (by kernel_rfl) (by kernel_rfl) ?_
              refine WP.done (by kernel_rfl) (Shown.ok (v := AG [encA .u8 d2, [.int .i64 x4], [.int .i64 x5], [.int .i64 x6], [.slice a3 n3 c3], [.slice a4 n4 c4]]) (by kernel_rfl) (Step.refl _ _) ?_)
              exact ⟨trivial, trivial, trivial, trivial, trivial, trivial, trivial, trivial, trivial, trivial, trivial, trivial, trivial, trivial, trivial, trivial, trivial, rfl, trivial, trivial, trivial⟩
            · intro vs gq stq hl hf
              replace hl : vs.length = 12 := hl
              obtain ⟨v0, vs0, rfl, hl0⟩ := len_succ hl
              obtain ⟨v1, vs1, rfl, hl1⟩ := len_succ hl0
              obtain ⟨v2, vs2, rfl, hl2⟩ := len_succ hl1
              obtain ⟨v3, vs3, rfl, hl3⟩ := len_succ hl2
              obtain ⟨v4, vs4, rfl, hl4⟩ := len_succ hl3
              obtain ⟨v5, vs5, rfl, hl5⟩ := len_succ hl4
              obtain ⟨v6, vs6, rfl, hl6⟩ := len_succ hl5
              obtain ⟨v7, vs7, rfl, hl7⟩ := len_succ hl6
              obtain ⟨v8, vs8, rfl, hl8⟩ := len_succ hl7
              obtain ⟨v9, vs9, rfl, hl9⟩ := len_succ hl8
              obtain ⟨v10, vs10, rfl, hl10⟩ := len_succ hl9
              obtain ⟨v11, vs11, rfl, hl11⟩ := len_succ hl10
              obtain rfl := len_zero hl11
              have hR3 := (show RdS (Kd.int .u8) gq 5 a3 n3 c3 l3 from hf _ (List.mem_of_getElem? (i := 1) rfl) (by kernel_rfl))
              have hR4 := (show RdS (Kd.int .u8) gq 5 a4 n4 c4 l4 from hf _ (List.mem_of_getElem? (i := 2) rfl) (by kernel_rfl))
              have hR8 := (show RdS (Kd.int .u8) gq 5 a8 n8 c8 l8 from hf _ (List.mem_of_getElem? (i := 5) rfl) (by kernel_rfl))
              have hR9 := (show RdS (Kd.int .u8) gq 5 a9 n9 c9 l9 from hf _ (List.mem_of_getElem? (i := 6) rfl) (by kernel_rfl))
              have e := (show v7 = .bool true from hf _ (List.mem_of_getElem? (i := 15) rfl) (by kernel_rfl))
              subst e
              have e := (show v8 = AG [encA .u8 d4, [.int .i64 x13], [.int .i64 x14], [.int .i64 x15], [.slice a8 n8 c8], [.slice a9 n9 c9]] from hf _ (List.mem_of_getElem? (i := 16) rfl) (by kernel_rfl))
              subst e
              have e := (show v9 = AG [encA .u8 d2, [.int .i64 x4], [.int .i64 x5], [.int .i64 x6], [.slice a3 n3 c3], [.slice a4 n4 c4]] from hf _ (List.mem_of_getElem? (i := 17) rfl) (by kernel_rfl))
              subst e
              have hcal21 := P.tx_Tx_Same gq d4 x13 x14 x15 l8 l9 d2 x4 x5 x6 l3 l4 a8 n8 c8 a9 n9 c9 a3 n3 c3 a4 n4 c4 hR8 hR9 hR3 hR4 q12 hk21
              refine WP.callC hcal21 (by kernel_rfl) ?_
              rintro _ g28 st28 rfl
              refine WP.done (by kernel_rfl) (Shown.ok (v := .bool q12) (by kernel_rfl) st28.pure ?_)
              exact ⟨trivial, trivial, trivial, trivial, trivial, trivial, trivial, trivial, trivial, trivial, trivial, trivial, trivial, trivial, trivial, trivial, trivial, trivial, rfl, trivial, trivial⟩
            · intro vs gq stq hl hf
              replace hl : vs.length = 12 := hl
              obtain ⟨v0, vs0, rfl, hl0⟩ := len_succ hl
              obtain ⟨v1, vs1, rfl, hl1⟩ := len_succ hl0
              obtain ⟨v2, vs2, rfl, hl2⟩ := len_succ hl1
              obtain ⟨v3, vs3, rfl, hl3⟩ := len_succ hl2
              obtain ⟨v4, vs4, rfl, hl4⟩ := len_succ hl3
              obtain ⟨v5, vs5, rfl, hl5⟩ := len_succ hl4
              obtain ⟨v6, vs6, rfl, hl6⟩ := len_succ hl5
              obtain ⟨v7, vs7, rfl, hl7⟩ := len_succ hl6
              obtain ⟨v8, vs8, rfl, hl8⟩ := len_succ hl7
              obtain ⟨v9, vs9, rfl, hl9⟩ := len_succ hl8
              obtain ⟨v10, vs10, rfl, hl10⟩ := len_succ hl9
              obtain ⟨v11, vs11, rfl, hl11⟩ := len_succ hl10
              obtain rfl := len_zero hl11
              have e := (show v7 = .bool true from hf _ (List.mem_of_getElem? (i := 15) rfl) (by kernel_rfl))
              subst e
              have e := (show v10 = .bool q12 from hf _ (List.mem_of_getElem? (i := 18) rfl) (by kernel_rfl))
              subst e
              refine WP.still 1 (by kernel_rfl) ?_
              refine WP.done (by kernel_rfl) (Shown.ok (v := .bool q12) (by kernel_rfl) (Step.refl _ _) ?_)
              exact ⟨trivial, trivial, trivial, trivial, trivial, trivial, trivial, trivial, trivial, trivial, trivial, trivial, trivial, trivial, trivial, trivial, trivial, trivial, trivial, congrArg Value.bool h13, trivial⟩
          intro vs g33 st33 hl hf
          replace hl : vs.length = 12 := hl
          obtain ⟨v0, vs0, rfl, hl0⟩ := len_succ hl
          obtain ⟨v1, vs1, rfl, hl1⟩ := len_succ hl0
          obtain ⟨v2, vs2, rfl, hl2⟩ := len_succ hl1
          obtain ⟨v3, vs3, rfl, hl3⟩ := len_succ hl2
          obtain ⟨v4, vs4, rfl, hl4⟩ := len_succ hl3
          obtain ⟨v5, vs5, rfl, hl5⟩ := len_succ hl4
          obtain ⟨v6, vs6, rfl, hl6⟩ := len_succ hl5
          obtain ⟨v7, vs7, rfl, hl7⟩ := len_succ hl6
          obtain ⟨v8, vs8, rfl, hl8⟩ := len_succ hl7
          obtain ⟨v9, vs9, rfl, hl9⟩ := len_succ hl8
          obtain ⟨v10, vs10, rfl, hl10⟩ := len_succ hl9
          obtain ⟨v11, vs11, rfl, hl11⟩ := len_succ hl10
          obtain rfl := len_zero hl11
          have e := (show v11 = .bool false from hf _ (List.mem_of_getElem? (i := 19) rfl) (by kernel_rfl))
          subst e
          replace tot := tot.trans (st33.up1 (.inr (by omega)))
          refine NX.post ?_
          exact ⟨false, ⟨by kernel_rfl, by kernel_rfl⟩, tot, hs⟩
        replace hs := of_if_f hs h12
        refine CP.drawL (by kernel_rfl) [0, 1, 3, 4, 5, 6, 8, 12] N.baizelaw25_TxBytes_0 [⟨none, [], [], fun l g => Box g (t + 1) b1 26 [encA .u8 d2, [.int .i64 x4], [.int .i64 x5], [.int .i64 x6], [.slice a3 n3 c3], [.slice a4 n4 c4]] [8, 1, 1, 1, 1, 1]⟩, ⟨none, [], [], fun l g => RdS (Kd.int .u8) g 5 a3 n3 c3 l3⟩, ⟨none, [], [], fun l g => RdS (Kd.int .u8) g 5 a4 n4 c4 l4⟩, ⟨none, [], [], fun l g => RdS (Kd.int .u8) g 5 a7 n7 c7 l7⟩, ⟨some 0, [], [0], fun l g => l.getD 0 undef = .bool q10⟩, ⟨some 1, [], [1], fun l g => l.getD 0 undef = .bool true⟩, ⟨some 2, [], [2], fun l g => l.getD 0 undef = AG [encA .u8 d2, [.int .i64 x4], [.int .i64 x5], [.int .i64 x6], [.slice a3 n3 c3], [.slice a4 n4 c4]]⟩, ⟨some 3, [], [3], fun l g => ∃ (a17 : Option Addr) (c17 : Nat) (a18 : Option Addr) (c18 : Nat), l.getD 0 undef = AG [encA .u8 d8, [.int .i64 x26], [.int .i64 x27], [.int .i64 x28], [.slice a17 l17.length c17], [.slice a18 l18.length c18]] ∧ RdS (Kd.int .u8) g 5 a17 l17.length c17 l17 ∧ RdS (Kd.int .u8) g 5 a18 l18.length c18 l18⟩, ⟨some 4, [0], [4], fun l g => ∃ (a19 : Option Addr) (c19 : Nat), l.getD 0 undef = .slice a19 l19.length c19 ∧ OwnS (Kd.int .u8) g (t + 5) 5 a19 l19.length c19 l19⟩, ⟨some 5, [], [5], fun l g => l.getD 0 undef = .bool q11⟩, ⟨some 5, [0], [4], fun l g => ∃ (a19 : Option Addr) (c19 : Nat), l.getD 0 undef = .slice a19 l19.length c19 ∧ OwnS (Kd.int .u8) g (t + 5) 5 a19 l19.length c19 l19⟩, ⟨some 6, [], [6], fun l g => l.getD 0 undef = .bool true⟩, ⟨some 7, [], [7], fun l g => l.getD 0 undef = .bool false⟩] [[], [], [], [], [], [0], [], []] [(t + 5)] [] [2, 7, 9, 10, 11, 13, 14, 15, 16, 17, 18, 19, 20, 21, 22, 23, 24] (by kernel_rfl) (by simp <;> omega) (by simp) ⟨fun _ _ _ _ st h0 hl hj hB1 => (hB1.mono st (fun h => absurd (hl _ h) (by simp <;> omega))), fun _ _ _ _ st h0 hl hj hR3 => (RdS.mono (e := 5) hR3 st h0), fun _ _ _ _ st h0 hl hj hR4 => (RdS.mono (e := 5) hR4 st h0), fun _ _ _ _ st h0 hl hj hR7 => (RdS.mono (e := 5) hR7 st h0), fun _ _ _ _ st h0 hl hj e => e, fun _ _ _ _ st h0 hl hj e => e, fun _ _ _ _ st h0 hl hj e => e, fun _ _ _ _ st h0 hl hj ⟨a17, c17, a18, c18, e, hR17, hR18⟩ => ⟨a17, c17, a18, c18, e, (RdS.mono (e := 5) hR17 st h0), (RdS.mono (e := 5) hR18 st h0)⟩, fun _ _ _ _ st h0 hl hj ⟨a19, c19, e, hR19⟩ => ⟨a19, c19, e, (hR19.mono st h0 (hj 0 (by simp) _ rfl))⟩, fun _ _ _ _ st h0 hl hj e => e, fun _ _ _ _ st h0 hl hj ⟨a19, c19, e, hR19⟩ => ⟨a19, c19, e, (hR19.mono st h0 (hj 0 (by simp) _ rfl))⟩, fun _ _ _ _ st h0 hl hj e => e, fun _ _ _ _ st h0 hl hj e => e, trivial⟩ ⟨hB1, hR3, hR4, hR7, trivial, trivial, trivial, trivial, trivial, trivial, trivial, trivial, trivial, trivial⟩ (by kernel_rfl) (fun vs => by kernel_rfl) ?_ ?_ ?_
        · intro j hj
          have hq : j = 0 ∨ j = 1 ∨ j = 2 ∨ j = 3 ∨ j = 4 ∨ j = 5 ∨ j = 6 ∨ j = 7 ∨ j = 8 ∨ j = 9 ∨ j = 10 ∨ j = 11 ∨ j = 12 ∨ j = 13 ∨ j = 14 ∨ j = 15 ∨ j = 16 := by have h : j < 17 := hj; omega
          rcases hq with rfl | rfl | rfl | rfl | rfl | rfl | rfl | rfl | rfl | rfl | rfl | rfl | rfl | rfl | rfl | rfl | rfl
          · intro vs gq stq hl hf
            replace hl : vs.length = 8 := hl
            obtain ⟨v0, vs0, rfl, hl0⟩ := len_succ hl
            obtain ⟨v1, vs1, rfl, hl1⟩ := len_succ hl0
            obtain ⟨v2, vs2, rfl, hl2⟩ := len_succ hl1
            obtain ⟨v3, vs3, rfl, hl3⟩ := len_succ hl2
            obtain ⟨v4, vs4, rfl, hl4⟩ := len_succ hl3
            obtain ⟨v5, vs5, rfl, hl5⟩ := len_succ hl4
            obtain ⟨v6, vs6, rfl, hl6⟩ := len_succ hl5
            obtain ⟨v7, vs7, rfl, hl7⟩ := len_succ hl6
            obtain rfl := len_zero hl7
            have e := (show v1 = .bool true from hf _ (List.mem_of_getElem? (i := 5) rfl) (by kernel_rfl))
            subst e
            show Option.isSome _ = true
            kernel_rfl
          · intro vs gq stq hl hf
            replace hl : vs.length = 8 := hl
            obtain ⟨v0, vs0, rfl, hl0⟩ := len_succ hl
            obtain ⟨v1, vs1, rfl, hl1⟩ := len_succ hl0
            obtain ⟨v2, vs2, rfl, hl2⟩ := len_succ hl1
            obtain ⟨v3, vs3, rfl, hl3⟩ := len_succ hl2
            obtain ⟨v4, vs4, rfl, hl4⟩ := len_succ hl3
            obtain ⟨v5, vs5, rfl, hl5⟩ := len_succ hl4
            obtain ⟨v6, vs6, rfl, hl6⟩ := len_succ hl5
            obtain ⟨v7, vs7, rfl, hl7⟩ := len_succ hl6
            obtain rfl := len_zero hl7
            have e := (show v1 = .bool true from hf _ (List.mem_of_getElem? (i := 5) rfl) (by kernel_rfl))
            subst e
            have e := (show v5 = .bool q11 from hf _ (List.mem_of_getElem? (i := 9) rfl) (by kernel_rfl))
            subst e
            show Option.isSome _ = true
            kernel_rfl
          · intro vs gq stq hl hf
            replace hl : vs.length = 8 := hl
            obtain ⟨v0, vs0, rfl, hl0⟩ := len_succ hl
            obtain ⟨v1, vs1, rfl, hl1⟩ := len_succ hl0
            obtain ⟨v2, vs2, rfl, hl2⟩ := len_succ hl1
            obtain ⟨v3, vs3, rfl, hl3⟩ := len_succ hl2
            obtain ⟨v4, vs4, rfl, hl4⟩ := len_succ hl3
            obtain ⟨v5, vs5, rfl, hl5⟩ := len_succ hl4
            obtain ⟨v6, vs6, rfl, hl6⟩ := len_succ hl5
            obtain ⟨v7, vs7, rfl, hl7⟩ := len_succ hl6
            obtain rfl := len_zero hl7
            have e := (show v6 = .bool true from hf _ (List.mem_of_getElem? (i := 11) rfl) (by kernel_rfl))
            subst e
            show Option.isSome _ = true
            kernel_rfl
          · intro vs gq stq hl hf
            replace hl : vs.length = 8 := hl
            obtain ⟨v0, vs0, rfl, hl0⟩ := len_succ hl
            obtain ⟨v1, vs1, rfl, hl1⟩ := len_succ hl0
            obtain ⟨v2, vs2, rfl, hl2⟩ := len_succ hl1
            obtain ⟨v3, vs3, rfl, hl3⟩ := len_succ hl2
            obtain ⟨v4, vs4, rfl, hl4⟩ := len_succ hl3
            obtain ⟨v5, vs5, rfl, hl5⟩ := len_succ hl4
            obtain ⟨v6, vs6, rfl, hl6⟩ := len_succ hl5
            obtain ⟨v7, vs7, rfl, hl7⟩ := len_succ hl6
            obtain rfl := len_zero hl7
            have e := (show v6 = .bool true from hf _ (List.mem_of_getElem? (i := 11) rfl) (by kernel_rfl))
            subst e
            show Option.isSome _ = true
            kernel_rfl
          · intro vs gq stq hl hf
            replace hl : vs.length = 8 := hl
            obtain ⟨v0, vs0, rfl, hl0⟩ := len_succ hl
            obtain ⟨v1, vs1, rfl, hl1⟩ := len_succ hl0
            obtain ⟨v2, vs2, rfl, hl2⟩ := len_succ hl1
            obtain ⟨v3, vs3, rfl, hl3⟩ := len_succ hl2
            obtain ⟨v4, vs4, rfl, hl4⟩ := len_succ hl3
            obtain ⟨v5, vs5, rfl, hl5⟩ := len_succ hl4
            obtain ⟨v6, vs6, rfl, hl6⟩ := len_succ hl5
            obtain ⟨v7, vs7, rfl, hl7⟩ := len_succ hl6
            obtain rfl := len_zero hl7
            have e := (show v6 = .bool true from hf _ (List.mem_of_getElem? (i := 11) rfl) (by kernel_rfl))
            subst e
            show Option.isSome _ = true
            kernel_rfl
          · intro vs gq stq hl hf
            replace hl : vs.length = 8 := hl
            obtain ⟨v0, vs0, rfl, hl0⟩ := len_succ hl
            obtain ⟨v1, vs1, rfl, hl1⟩ := len_succ hl0
            obtain ⟨v2, vs2, rfl, hl2⟩ := len_succ hl1
            obtain ⟨v3, vs3, rfl, hl3⟩ := len_succ hl2
            obtain ⟨v4, vs4, rfl, hl4⟩ := len_succ hl3
            obtain ⟨v5, vs5, rfl, hl5⟩ := len_succ hl4
            obtain ⟨v6, vs6, rfl, hl6⟩ := len_succ hl5
            obtain ⟨v7, vs7, rfl, hl7⟩ := len_succ hl6
            obtain rfl := len_zero hl7
            have e := (show v7 = .bool false from hf _ (List.mem_of_getElem? (i := 12) rfl) (by kernel_rfl))
            subst e
            show Option.isSome _ = true
            kernel_rfl
          · intro vs gq stq hl hf
            replace hl : vs.length = 8 := hl
            obtain ⟨v0, vs0, rfl, hl0⟩ := len_succ hl
            obtain ⟨v1, vs1, rfl, hl1⟩ := len_succ hl0
            obtain ⟨v2, vs2, rfl, hl2⟩ := len_succ hl1
            obtain ⟨v3, vs3, rfl, hl3⟩ := len_succ hl2
            obtain ⟨v4, vs4, rfl, hl4⟩ := len_succ hl3
            obtain ⟨v5, vs5, rfl, hl5⟩ := len_succ hl4
            obtain ⟨v6, vs6, rfl, hl6⟩ := len_succ hl5
            obtain ⟨v7, vs7, rfl, hl7⟩ := len_succ hl6
            obtain rfl := len_zero hl7
            have e := (show v7 = .bool false from hf _ (List.mem_of_getElem? (i := 12) rfl) (by kernel_rfl))
            subst e
            show Option.isSome _ = true
            kernel_rfl
          · intro vs gq stq hl hf
            replace hl : vs.length = 8 := hl
            obtain ⟨v0, vs0, rfl, hl0⟩ := len_succ hl
            obtain ⟨v1, vs1, rfl, hl1⟩ := len_succ hl0
            obtain ⟨v2, vs2, rfl, hl2⟩ := len_succ hl1
            obtain ⟨v3, vs3, rfl, hl3⟩ := len_succ hl2
            obtain ⟨v4, vs4, rfl, hl4⟩ := len_succ hl3
            obtain ⟨v5, vs5, rfl, hl5⟩ := len_succ hl4
            obtain ⟨v6, vs6, rfl, hl6⟩ := len_succ hl5
            obtain ⟨v7, vs7, rfl, hl7⟩ := len_succ hl6
            obtain rfl := len_zero hl7
            have e := (show v7 = .bool false from hf _ (List.mem_of_getElem? (i := 12) rfl) (by kernel_rfl))
            subst e
            show Option.isSome _ = true
            kernel_rfl
          · intro vs gq stq hl hf
            replace hl : vs.length = 8 := hl
            obtain ⟨v0, vs0, rfl, hl0⟩ := len_succ hl
            obtain ⟨v1, vs1, rfl, hl1⟩ := len_succ hl0
            obtain ⟨v2, vs2, rfl, hl2⟩ := len_succ hl1
            obtain ⟨v3, vs3, rfl, hl3⟩ := len_succ hl2
            obtain ⟨v4, vs4, rfl, hl4⟩ := len_succ hl3
            obtain ⟨v5, vs5, rfl, hl5⟩ := len_succ hl4
            obtain ⟨v6, vs6, rfl, hl6⟩ := len_succ hl5
            obtain ⟨v7, vs7, rfl, hl7⟩ := len_succ hl6
            obtain rfl := len_zero hl7
            have e := (show v7 = .bool false from hf _ (List.mem_of_getElem? (i := 12) rfl) (by kernel_rfl))
            subst e
            show Option.isSome _ = true
            kernel_rfl
          · intro vs gq stq hl hf
            replace hl : vs.length = 8 := hl
            obtain ⟨v0, vs0, rfl, hl0⟩ := len_succ hl
            obtain ⟨v1, vs1, rfl, hl1⟩ := len_succ hl0
            obtain ⟨v2, vs2, rfl, hl2⟩ := len_succ hl1
            obtain ⟨v3, vs3, rfl, hl3⟩ := len_succ hl2
            obtain ⟨v4, vs4, rfl, hl4⟩ := len_succ hl3
            obtain ⟨v5, vs5, rfl, hl5⟩ := len_succ hl4
            obtain ⟨v6, vs6, rfl, hl6⟩ := len_succ hl5
            obtain ⟨v7, vs7, rfl, hl7⟩ := len_succ hl6
            obtain rfl := len_zero hl7
            have e := (show v7 = .bool false from hf _ (List.mem_of_getElem? (i := 12) rfl) (by kernel_rfl))
            subst e
            show Option.isSome _ = true
            kernel_rfl
          · intro vs gq stq hl hf
            replace hl : vs.length = 8 := hl
            obtain ⟨v0, vs0, rfl, hl0⟩ := len_succ hl
            obtain ⟨v1, vs1, rfl, hl1⟩ := len_succ hl0
            obtain ⟨v2, vs2, rfl, hl2⟩ := len_succ hl1
            obtain ⟨v3, vs3, rfl, hl3⟩ := len_succ hl2
            obtain ⟨v4, vs4, rfl, hl4⟩ := len_succ hl3
            obtain ⟨v5, vs5, rfl, hl5⟩ := len_succ hl4
            obtain ⟨v6, vs6, rfl, hl6⟩ := len_succ hl5
            obtain ⟨v7, vs7, rfl, hl7⟩ := len_succ hl6
            obtain rfl := len_zero hl7
            have e := (show v7 = .bool false from hf _ (List.mem_of_getElem? (i := 12) rfl) (by kernel_rfl))
            subst e
            show Option.isSome _ = true
            kernel_rfl
          · intro vs gq stq hl hf
            replace hl : vs.length = 8 := hl
            obtain ⟨v0, vs0, rfl, hl0⟩ := len_succ hl
            obtain ⟨v1, vs1, rfl, hl1⟩ := len_succ hl0
            obtain ⟨v2, vs2, rfl, hl2⟩ := len_succ hl1
            obtain ⟨v3, vs3, rfl, hl3⟩ := len_succ hl2
            obtain ⟨v4, vs4, rfl, hl4⟩ := len_succ hl3
            obtain ⟨v5, vs5, rfl, hl5⟩ := len_succ hl4
            obtain ⟨v6, vs6, rfl, hl6⟩ := len_succ hl5
            obtain ⟨v7, vs7, rfl, hl7⟩ := len_succ hl6
            obtain rfl := len_zero hl7
            have e := (show v7 = .bool false from hf _ (List.mem_of_getElem? (i := 12) rfl) (by kernel_rfl))
            subst e
            show Option.isSome _ = true
            kernel_rfl
          · intro vs gq stq hl hf
            replace hl : vs.length = 8 := hl
            obtain ⟨v0, vs0, rfl, hl0⟩ := len_succ hl
            obtain ⟨v1, vs1, rfl, hl1⟩ := len_succ hl0
            obtain ⟨v2, vs2, rfl, hl2⟩ := len_succ hl1
            obtain ⟨v3, vs3, rfl, hl3⟩ := len_succ hl2
            obtain ⟨v4, vs4, rfl, hl4⟩ := len_succ hl3
            obtain ⟨v5, vs5, rfl, hl5⟩ := len_succ hl4
            obtain ⟨v6, vs6, rfl, hl6⟩ := len_succ hl5
            obtain ⟨v7, vs7, rfl, hl7⟩ := len_succ hl6
            obtain rfl := len_zero hl7
            have e := (show v7 = .bool false from hf _ (List.mem_of_getElem? (i := 12) rfl) (by kernel_rfl))
            subst e
            show Option.isSome _ = true
            kernel_rfl
          · intro vs gq stq hl hf
            replace hl : vs.length = 8 := hl
            obtain ⟨v0, vs0, rfl, hl0⟩ := len_succ hl
            obtain ⟨v1, vs1, rfl, hl1⟩ := len_succ hl0
            obtain ⟨v2, vs2, rfl, hl2⟩ := len_succ hl1
            obtain ⟨v3, vs3, rfl, hl3⟩ := len_succ hl2
            obtain ⟨v4, vs4, rfl, hl4⟩ := len_succ hl3
            obtain ⟨v5, vs5, rfl, hl5⟩ := len_succ hl4
            obtain ⟨v6, vs6, rfl, hl6⟩ := len_succ hl5
            obtain ⟨v7, vs7, rfl, hl7⟩ := len_succ hl6
            obtain rfl := len_zero hl7
            have e := (show v7 = .bool false from hf _ (List.mem_of_getElem? (i := 12) rfl) (by kernel_rfl))
            subst e
            show Option.isSome _ = true
            kernel_rfl
          · intro vs gq stq hl hf
            replace hl : vs.length = 8 := hl
            obtain ⟨v0, vs0, rfl, hl0⟩ := len_succ hl
            obtain ⟨v1, vs1, rfl, hl1⟩ := len_succ hl0
            obtain ⟨v2, vs2, rfl, hl2⟩ := len_succ hl1
            obtain ⟨v3, vs3, rfl, hl3⟩ := len_succ hl2
            obtain ⟨v4, vs4, rfl, hl4⟩ := len_succ hl3
            obtain ⟨v5, vs5, rfl, hl5⟩ := len_succ hl4
            obtain ⟨v6, vs6, rfl, hl6⟩ := len_succ hl5
            obtain ⟨v7, vs7, rfl, hl7⟩ := len_succ hl6
            obtain rfl := len_zero hl7
            have e := (show v7 = .bool false from hf _ (List.mem_of_getElem? (i := 12) rfl) (by kernel_rfl))
            subst e
            show Option.isSome _ = true
            kernel_rfl
          · intro vs gq stq hl hf
            replace hl : vs.length = 8 := hl
            obtain ⟨v0, vs0, rfl, hl0⟩ := len_succ hl
            obtain ⟨v1, vs1, rfl, hl1⟩ := len_succ hl0
            obtain ⟨v2, vs2, rfl, hl2⟩ := len_succ hl1
            obtain ⟨v3, vs3, rfl, hl3⟩ := len_succ hl2
            obtain ⟨v4, vs4, rfl, hl4⟩ := len_succ hl3
            obtain ⟨v5, vs5, rfl, hl5⟩ := len_succ hl4
            obtain ⟨v6, vs6, rfl, hl6⟩ := len_succ hl5
            obtain ⟨v7, vs7, rfl, hl7⟩ := len_succ hl6
            obtain rfl := len_zero hl7
            have e := (show v7 = .bool false from hf _ (List.mem_of_getElem? (i := 12) rfl) (by kernel_rfl))
            subst e
            show Option.isSome _ = true
            kernel_rfl
          · intro vs gq stq hl hf
            replace hl : vs.length = 8 := hl
            obtain ⟨v0, vs0, rfl, hl0⟩ := len_succ hl
            obtain ⟨v1, vs1, rfl, hl1⟩ := len_succ hl0
            obtain ⟨v2, vs2, rfl, hl2⟩ := len_succ hl1
            obtain ⟨v3, vs3, rfl, hl3⟩ := len_succ hl2
            obtain ⟨v4, vs4, rfl, hl4⟩ := len_succ hl3
            obtain ⟨v5, vs5, rfl, hl5⟩ := len_succ hl4
            obtain ⟨v6, vs6, rfl, hl6⟩ := len_succ hl5
            obtain ⟨v7, vs7, rfl, hl7⟩ := len_succ hl6
            obtain rfl := len_zero hl7
            have e := (show v7 = .bool false from hf _ (List.mem_of_getElem? (i := 12) rfl) (by kernel_rfl))
            subst e
            show Option.isSome _ = true
            kernel_rfl
        · intro j hj
          have hq : j = 0 ∨ j = 1 ∨ j = 2 ∨ j = 3 ∨ j = 4 ∨ j = 5 ∨ j = 6 ∨ j = 7 := by have h : j < 8 := hj; omega
          rcases hq with rfl | rfl | rfl | rfl | rfl | rfl | rfl | rfl
          · intro vs gq stq hl hf
            replace hl : vs.length = 8 := hl
            obtain ⟨v0, vs0, rfl, hl0⟩ := len_succ hl
            obtain ⟨v1, vs1, rfl, hl1⟩ := len_succ hl0
            obtain ⟨v2, vs2, rfl, hl2⟩ := len_succ hl1
            obtain ⟨v3, vs3, rfl, hl3⟩ := len_succ hl2
            obtain ⟨v4, vs4, rfl, hl4⟩ := len_succ hl3
            obtain ⟨v5, vs5, rfl, hl5⟩ := len_succ hl4
            obtain ⟨v6, vs6, rfl, hl6⟩ := len_succ hl5
            obtain ⟨v7, vs7, rfl, hl7⟩ := len_succ hl6
            obtain rfl := len_zero hl7
            have hcal17 := P.baizelaw25_known gq q10 hk17
            refine WP.callC hcal17 (by kernel_rfl) ?_
            rintro _ g23 st23 rfl
            refine WP.done (by kernel_rfl) (Shown.ok (v := .bool q10) (by kernel_rfl) st23.pure ?_)
            exact ⟨trivial, trivial, trivial, trivial, rfl, trivial, trivial, trivial, trivial, trivial, trivial, trivial, trivial, trivial⟩
          · intro vs gq stq hl hf
            replace hl : vs.length = 8 := hl
            obtain ⟨v0, vs0, rfl, hl0⟩ := len_succ hl
            obtain ⟨v1, vs1, rfl, hl1⟩ := len_succ hl0
            obtain ⟨v2, vs2, rfl, hl2⟩ := len_succ hl1
            obtain ⟨v3, vs3, rfl, hl3⟩ := len_succ hl2
            obtain ⟨v4, vs4, rfl, hl4⟩ := len_succ hl3
            obtain ⟨v5, vs5, rfl, hl5⟩ := len_succ hl4
            obtain ⟨v6, vs6, rfl, hl6⟩ := len_succ hl5
            obtain ⟨v7, vs7, rfl, hl7⟩ := len_succ hl6
            obtain rfl := len_zero hl7
            have e := (show v0 = .bool q10 from hf _ (List.mem_of_getElem? (i := 4) rfl) (by kernel_rfl))
            subst e
            refine WP.still 1 (by kernel_rfl) ?_
            refine WP.done (by kernel_rfl) (Shown.ok (v := .bool q10) (by kernel_rfl) (Step.refl _ _) ?_)
            exact ⟨trivial, trivial, trivial, trivial, trivial, congrArg Value.bool h10, trivial, trivial, trivial, trivial, trivial, trivial, trivial, trivial⟩
          · intro vs gq stq hl hf
            replace hl : vs.length = 8 := hl
            obtain ⟨v0, vs0, rfl, hl0⟩ := len_succ hl
            obtain ⟨v1, vs1, rfl, hl1⟩ := len_succ hl0
            obtain ⟨v2, vs2, rfl, hl2⟩ := len_succ hl1
            obtain ⟨v3, vs3, rfl, hl3⟩ := len_succ hl2
            obtain ⟨v4, vs4, rfl, hl4⟩ := len_succ hl3
            obtain ⟨v5, vs5, rfl, hl5⟩ := len_succ hl4
            obtain ⟨v6, vs6, rfl, hl6⟩ := len_succ hl5
            obtain ⟨v7, vs7, rfl, hl7⟩ := len_succ hl6
            obtain rfl := len_zero hl7
            have hB1 := (show Box gq (t + 1) b1 26 [encA .u8 d2, [.int .i64 x4], [.int .i64 x5], [.int .i64 x6], [.slice a3 n3 c3], [.slice a4 n4 c4]] [8, 1, 1, 1, 1, 1] from hf _ (List.mem_of_getElem? (i := 0) rfl) (by kernel_rfl))
            have hR3 := (show RdS (Kd.int .u8) gq 5 a3 n3 c3 l3 from hf _ (List.mem_of_getElem? (i := 1) rfl) (by kernel_rfl))
            have hR4 := (show RdS (Kd.int .u8) gq 5 a4 n4 c4 l4 from hf _ (List.mem_of_getElem? (i := 2) rfl) (by kernel_rfl))
            have e := (show v1 = .bool true from hf _ (List.mem_of_getElem? (i := 5) rfl) (by kernel_rfl))
            subst e
            refine WP.loadB (v := AG [encA .u8 d2, [.int .i64 x4], [.int .i64 x5], [.int .i64 x6], [.slice a3 n3 c3], [.slice a4 n4 c4]]) hB1 (by kernel_rfl) (by kernel_rfl) ?_
            refine WP.done (by kernel_rfl) (Shown.ok (v := AG [encA .u8 d2, [.int .i64 x4], [.int .i64 x5], [.int .i64 x6], [.slice a3 n3 c3], [.slice a4 n4 c4]]) (by kernel_rfl) (Step.refl _ _) ?_)
            exact ⟨trivial, trivial, trivial, trivial, trivial, trivial, rfl, trivial, trivial, trivial, trivial, trivial, trivial, trivial⟩
          · intro vs gq stq hl hf
            replace hl : vs.length = 8 := hl
            obtain ⟨v0, vs0, rfl, hl0⟩ := len_succ hl
            obtain ⟨v1, vs1, rfl, hl1⟩ := len_succ hl0
            obtain ⟨v2, vs2, rfl, hl2⟩ := len_succ hl1
            obtain ⟨v3, vs3, rfl, hl3⟩ := len_succ hl2
            obtain ⟨v4, vs4, rfl, hl4⟩ := len_succ hl3
            obtain ⟨v5, vs5, rfl, hl5⟩ := len_succ hl4
            obtain ⟨v6, vs6, rfl, hl6⟩ := len_succ hl5
            obtain ⟨v7, vs7, rfl, hl7⟩ := len_succ hl6
            obtain rfl := len_zero hl7
            have hR3 := (show RdS (Kd.int .u8) gq 5 a3 n3 c3 l3 from hf _ (List.mem_of_getElem? (i := 1) rfl) (by kernel_rfl))
            have hR4 := (show RdS (Kd.int .u8) gq 5 a4 n4 c4 l4 from hf _ (List.mem_of_getElem? (i := 2) rfl) (by kernel_rfl))
            have e := (show v1 = .bool true from hf _ (List.mem_of_getElem? (i := 5) rfl) (by kernel_rfl))
            subst e
            have e := (show v2 = AG [encA .u8 d2, [.int .i64 x4], [.int .i64 x5], [.int .i64 x6], [.slice a3 n3 c3], [.slice a4 n4 c4]] from hf _ (List.mem_of_getElem? (i := 6) rfl) (by kernel_rfl))
            subst e
            have hcal18 := P.baizelaw25_Of gq d2 x4 x5 x6 l3 l4 a3 n3 c3 a4 n4 c4 hR3 hR4 d8 x26 x27 x28 l17 l18 hk18
            refine WP.callC hcal18 (by kernel_rfl) ?_
            rintro _ g24 st24 ⟨a17, n17, c17, a18, n18, c18, rfl, hR17, hR18⟩
            obtain rfl := hR17.len
            obtain rfl := hR18.len
            refine WP.done (by kernel_rfl) (Shown.ok (v := AG [encA .u8 d8, [.int .i64 x26], [.int .i64 x27], [.int .i64 x28], [.slice a17 l17.length c17], [.slice a18 l18.length c18]]) (by kernel_rfl) st24.pure ?_)
            exact ⟨trivial, trivial, trivial, trivial, trivial, trivial, trivial, ⟨a17, c17, a18, c18, rfl, hR17, hR18⟩, trivial, trivial, trivial, trivial, trivial, trivial⟩
          · intro vs gq stq hl hf
            replace hl : vs.length = 8 := hl
            obtain ⟨v0, vs0, rfl, hl0⟩ := len_succ hl
            obtain ⟨v1, vs1, rfl, hl1⟩ := len_succ hl0
            obtain ⟨v2, vs2, rfl, hl2⟩ := len_succ hl1
            obtain ⟨v3, vs3, rfl, hl3⟩ := len_succ hl2
            obtain ⟨v4, vs4, rfl, hl4⟩ := len_succ hl3
            obtain ⟨v5, vs5, rfl, hl5⟩ := len_succ hl4
            obtain ⟨v6, vs6, rfl, hl6⟩ := len_succ hl5
            obtain ⟨v7, vs7, rfl, hl7⟩ := len_succ hl6
            obtain rfl := len_zero hl7
            have e := (show v1 = .bool true from hf _ (List.mem_of_getElem? (i := 5) rfl) (by kernel_rfl))
            subst e
            obtain ⟨a17, c17, a18, c18, e, hR17, hR18⟩ := (show ∃ (a17 : Option Addr) (c17 : Nat) (a18 : Option Addr) (c18 : Nat), v3 = AG [encA .u8 d8, [.int .i64 x26], [.int .i64 x27], [.int .i64 x28], [.slice a17 l17.length c17], [.slice a18 l18.length c18]] ∧ RdS (Kd.int .u8) gq 5 a17 l17.length c17 l17 ∧ RdS (Kd.int .u8) gq 5 a18 l18.length c18 l18 from hf _ (List.mem_of_getElem? (i := 7) rfl) (by kernel_rfl))
            subst e
            have hcal19 := P.baizeref25_Bytes gq (t + 5) d8 x26 x27 x28 l17 l18 a17 l17.length c17 a18 l18.length c18 hR17 hR18 l19 hk19
            refine WP.callC hcal19 (by kernel_rfl) ?_
            rintro _ g25 st25 ⟨a19, n19, c19, rfl, hR19⟩
            obtain rfl := hR19.len
            refine WP.done (by kernel_rfl) (Shown.ok (v := .slice a19 l19.length c19) (by kernel_rfl) st25.pure ?_)
            exact ⟨trivial, trivial, trivial, trivial, trivial, trivial, trivial, trivial, ⟨a19, c19, rfl, hR19⟩, trivial, trivial, trivial, trivial, trivial⟩
          · intro vs gq stq hl hf
            replace hl : vs.length = 8 := hl
            obtain ⟨v0, vs0, rfl, hl0⟩ := len_succ hl
            obtain ⟨v1, vs1, rfl, hl1⟩ := len_succ hl0
            obtain ⟨v2, vs2, rfl, hl2⟩ := len_succ hl1
            obtain ⟨v3, vs3, rfl, hl3⟩ := len_succ hl2
            obtain ⟨v4, vs4, rfl, hl4⟩ := len_succ hl3
            obtain ⟨v5, vs5, rfl, hl5⟩ := len_succ hl4
            obtain ⟨v6, vs6, rfl, hl6⟩ := len_succ hl5
            obtain ⟨v7, vs7, rfl, hl7⟩ := len_succ hl6
            obtain rfl := len_zero hl7
            have hR7 := (show RdS (Kd.int .u8) gq 5 a7 n7 c7 l7 from hf _ (List.mem_of_getElem? (i := 3) rfl) (by kernel_rfl))
            have e := (show v1 = .bool true from hf _ (List.mem_of_getElem? (i := 5) rfl) (by kernel_rfl))
            subst e
            obtain ⟨a19, c19, e, hR19⟩ := (show ∃ (a19 : Option Addr) (c19 : Nat), v4 = .slice a19 l19.length c19 ∧ OwnS (Kd.int .u8) gq (t + 5) 5 a19 l19.length c19 l19 from hf _ (List.mem_of_getElem? (i := 8) rfl) (by kernel_rfl))
            subst e
            have hS2 : 0 ∉ ([(t + 5)] : List Nat) := by simp <;> omega
            have stl2 := GW.lend_step gq [(t + 5)]
            have hRl2 := hR19.lendTo hS2 (by simp)
            refine WP.regw (g' := GW.lend gq [(t + 5)]) rfl ?_
            have hcal20 := P.baizeref01_Same (GW.lend gq [(t + 5)]) l7 l19 a7 n7 c7 a19 l19.length c19 (hR7.mono stl2 (WL.no (by simp <;> omega))) hRl2 q11 hk20
            refine WP.callC hcal20 (by kernel_rfl) ?_
            rintro _ g26 st26 rfl
            have st27 := (GW.back_step st26).lentS
            have hO2 := hR19.backTo hS2 (by simp) st26 (fun x => x)
            refine WP.regw (g' := GW.back gq g26 [(t + 5)]) rfl ?_
            generalize GW.back gq g26 [(t + 5)] = g27 at *
            refine WP.done (by kernel_rfl) (Shown.ok (v := .bool q11) (by kernel_rfl) st27 ?_)
            exact ⟨trivial, trivial, trivial, trivial, trivial, trivial, trivial, trivial, trivial, rfl, ⟨a19, c19, rfl, hO2⟩, trivial, trivial, trivial⟩
          · intro vs gq stq hl hf
            replace hl : vs.length = 8 := hl
            obtain ⟨v0, vs0, rfl, hl0⟩ := len_succ hl
            obtain ⟨v1, vs1, rfl, hl1⟩ := len_succ hl0
            obtain ⟨v2, vs2, rfl, hl2⟩ := len_succ hl1
            obtain ⟨v3, vs3, rfl, hl3⟩ := len_succ hl2
            obtain ⟨v4, vs4, rfl, hl4⟩ := len_succ hl3
            obtain ⟨v5, vs5, rfl, hl5⟩ := len_succ hl4
            obtain ⟨v6, vs6, rfl, hl6⟩ := len_succ hl5
            obtain ⟨v7, vs7, rfl, hl7⟩ := len_succ hl6
            obtain rfl := len_zero hl7
            have e := (show v1 = .bool true from hf _ (List.mem_of_getElem? (i := 5) rfl) (by kernel_rfl))
            subst e
            have e := (show v5 = .bool q11 from hf _ (List.mem_of_getElem? (i := 9) rfl) (by kernel_rfl))
            subst e
            refine WP.still 1 (by kernel_rfl) ?_
            refine WP.done (by kernel_rfl) (Shown.ok (v := .bool q11) (by kernel_rfl) (Step.refl _ _) ?_)
            exact ⟨trivial, trivial, trivial, trivial, trivial, trivial, trivial, trivial, trivial, trivial, trivial, congrArg Value.bool h11, trivial, trivial⟩
          · intro vs gq stq hl hf
            replace hl : vs.length = 8 := hl
            obtain ⟨v0, vs0, rfl, hl0⟩ := len_succ hl
            obtain ⟨v1, vs1, rfl, hl1⟩ := len_succ hl0
            obtain ⟨v2, vs2, rfl, hl2⟩ := len_succ hl1
            obtain ⟨v3, vs3, rfl, hl3⟩ := len_succ hl2
            obtain ⟨v4, vs4, rfl, hl4⟩ := len_succ hl3
            obtain ⟨v5, vs5, rfl, hl5⟩ := len_succ hl4
            obtain ⟨v6, vs6, rfl, hl6⟩ := len_succ hl5
            obtain ⟨v7, vs7, rfl, hl7⟩ := len_succ hl6
            obtain rfl := len_zero hl7
            have e := (show v6 = .bool true from hf _ (List.mem_of_getElem? (i := 11) rfl) (by kernel_rfl))
            subst e
            refine WP.still 1 (by kernel_rfl) ?_
            refine WP.done (by kernel_rfl) (Shown.ok (v := .bool (x16 == 0)) (by kernel_rfl) (Step.refl _ _) ?_)
            exact ⟨trivial, trivial, trivial, trivial, trivial, trivial, trivial, trivial, trivial, trivial, trivial, trivial, congrArg Value.bool h12, trivial⟩
        intro vs g34 st34 hl hf
        replace hl : vs.length = 8 := hl
        obtain ⟨v0, vs0, rfl, hl0⟩ := len_succ hl
        obtain ⟨v1, vs1, rfl, hl1⟩ := len_succ hl0
        obtain ⟨v2, vs2, rfl, hl2⟩ := len_succ hl1
        obtain ⟨v3, vs3, rfl, hl3⟩ := len_succ hl2
        obtain ⟨v4, vs4, rfl, hl4⟩ := len_succ hl3
        obtain ⟨v5, vs5, rfl, hl5⟩ := len_succ hl4
        obtain ⟨v6, vs6, rfl, hl6⟩ := len_succ hl5
        obtain ⟨v7, vs7, rfl, hl7⟩ := len_succ hl6
        obtain rfl := len_zero hl7
        have e := (show v7 = .bool false from hf _ (List.mem_of_getElem? (i := 12) rfl) (by kernel_rfl))
        subst e
        replace tot := tot.trans (st34.up1 (.inr (by omega)))
        refine NX.post ?_
        exact ⟨false, ⟨by kernel_rfl, by kernel_rfl⟩, tot, hs⟩
      replace hs := of_if_f hs h11
      refine CP.drawL (by kernel_rfl) [0, 1, 3, 4, 5, 6, 8] N.baizelaw25_TxBytes_0 [⟨none, [], [], fun l g => Box g (t + 1) b1 26 [encA .u8 d2, [.int .i64 x4], [.int .i64 x5], [.int .i64 x6], [.slice a3 n3 c3], [.slice a4 n4 c4]] [8, 1, 1, 1, 1, 1]⟩, ⟨none, [], [], fun l g => RdS (Kd.int .u8) g 5 a3 n3 c3 l3⟩, ⟨none, [], [], fun l g => RdS (Kd.int .u8) g 5 a4 n4 c4 l4⟩, ⟨none, [], [], fun l g => RdS (Kd.int .u8) g 5 a7 n7 c7 l7⟩, ⟨some 0, [], [0], fun l g => l.getD 0 undef = .bool q10⟩, ⟨some 1, [], [1], fun l g => l.getD 0 undef = .bool true⟩, ⟨some 2, [], [2], fun l g => l.getD 0 undef = AG [encA .u8 d2, [.int .i64 x4], [.int .i64 x5], [.int .i64 x6], [.slice a3 n3 c3], [.slice a4 n4 c4]]⟩, ⟨some 3, [], [3], fun l g => ∃ (a17 : Option Addr) (c17 : Nat) (a18 : Option Addr) (c18 : Nat), l.getD 0 undef = AG [encA .u8 d8, [.int .i64 x26], [.int .i64 x27], [.int .i64 x28], [.slice a17 l17.length c17], [.slice a18 l18.length c18]] ∧ RdS (Kd.int .u8) g 5 a17 l17.length c17 l17 ∧ RdS (Kd.int .u8) g 5 a18 l18.length c18 l18⟩, ⟨some 4, [0], [4], fun l g => ∃ (a19 : Option Addr) (c19 : Nat), l.getD 0 undef = .slice a19 l19.length c19 ∧ OwnS (Kd.int .u8) g (t + 5) 5 a19 l19.length c19 l19⟩, ⟨some 5, [], [5], fun l g => l.getD 0 undef = .bool q11⟩, ⟨some 5, [0], [4], fun l g => ∃ (a19 : Option Addr) (c19 : Nat), l.getD 0 undef = .slice a19 l19.length c19 ∧ OwnS (Kd.int .u8) g (t + 5) 5 a19 l19.length c19 l19⟩, ⟨some 6, [], [6], fun l g => l.getD 0 undef = .bool false⟩] [[], [], [], [], [], [0], []] [(t + 5)] [] [2, 7, 9, 10, 11, 12, 13, 14, 15, 16, 17, 18, 19, 20, 21, 22, 23, 24] (by kernel_rfl) (by simp <;> omega) (by simp) ⟨fun _ _ _ _ st h0 hl hj hB1 => (hB1.mono st (fun h => absurd (hl _ h) (by simp <;> omega))), fun _ _ _ _ st h0 hl hj hR3 => (RdS.mono (e := 5) hR3 st h0), fun _ _ _ _ st h0 hl hj hR4 => (RdS.mono (e := 5) hR4 st h0), fun _ _ _ _ st h0 hl hj hR7 => (RdS.mono (e := 5) hR7 st h0), fun _ _ _ _ st h0 hl hj e => e, fun _ _ _ _ st h0 hl hj e => e, fun _ _ _ _ st h0 hl hj e => e, fun _ _ _ _ st h0 hl hj ⟨a17, c17, a18, c18, e, hR17, hR18⟩ => ⟨a17, c17, a18, c18, e, (RdS.mono (e := 5) hR17 st h0), (RdS.mono (e := 5) hR18 st h0)⟩, fun _ _ _ _ st h0 hl hj ⟨a19, c19, e, hR19⟩ => ⟨a19, c19, e, (hR19.mono st h0 (hj 0 (by simp) _ rfl))⟩, fun _ _ _ _ st h0 hl hj e => e, fun _ _ _ _ st h0 hl hj ⟨a19, c19, e, hR19⟩ => ⟨a19, c19, e, (hR19.mono st h0 (hj 0 (by simp) _ rfl))⟩, fun _ _ _ _ st h0 hl hj e => e, trivial⟩ ⟨hB1, hR3, hR4, hR7, trivial, trivial, trivial, trivial, trivial, trivial, trivial, trivial, trivial⟩ (by kernel_rfl) (fun vs => by kernel_rfl) ?_ ?_ ?_
      · intro j hj
        have hq : j = 0 ∨ j = 1 ∨ j = 2 ∨ j = 3 ∨ j = 4 ∨ j = 5 ∨ j = 6 ∨ j = 7 ∨ j = 8 ∨ j = 9 ∨ j = 10 ∨ j = 11 ∨ j = 12 ∨ j = 13 ∨ j = 14 ∨ j = 15 ∨ j = 16 ∨ j = 17 := by have h : j < 18 := hj; omega
        rcases hq with rfl | rfl | rfl | rfl | rfl | rfl | rfl | rfl | rfl | rfl | rfl | rfl | rfl | rfl | rfl | rfl | rfl | rfl
        · intro vs gq stq hl hf
          replace hl : vs.length = 7 := hl
          obtain ⟨v0, vs0, rfl, hl0⟩ := len_succ hl
          obtain ⟨v1, vs1, rfl, hl1⟩ := len_succ hl0
          obtain ⟨v2, vs2, rfl, hl2⟩ := len_succ hl1
          obtain ⟨v3, vs3, rfl, hl3⟩ := len_succ hl2
          obtain ⟨v4, vs4, rfl, hl4⟩ := len_succ hl3
          obtain ⟨v5, vs5, rfl, hl5⟩ := len_succ hl4
          obtain ⟨v6, vs6, rfl, hl6⟩ := len_succ hl5
          obtain rfl := len_zero hl6
          have e := (show v1 = .bool true from hf _ (List.mem_of_getElem? (i := 5) rfl) (by kernel_rfl))
          subst e
          show Option.isSome _ = true
          kernel_rfl
        · intro vs gq stq hl hf
          replace hl : vs.length = 7 := hl
          obtain ⟨v0, vs0, rfl, hl0⟩ := len_succ hl
          obtain ⟨v1, vs1, rfl, hl1⟩ := len_succ hl0
          obtain ⟨v2, vs2, rfl, hl2⟩ := len_succ hl1
          obtain ⟨v3, vs3, rfl, hl3⟩ := len_succ hl2
          obtain ⟨v4, vs4, rfl, hl4⟩ := len_succ hl3
          obtain ⟨v5, vs5, rfl, hl5⟩ := len_succ hl4
          obtain ⟨v6, vs6, rfl, hl6⟩ := len_succ hl5
          obtain rfl := len_zero hl6
          have e := (show v1 = .bool true from hf _ (List.mem_of_getElem? (i := 5) rfl) (by kernel_rfl))
          subst e
          have e := (show v5 = .bool q11 from hf _ (List.mem_of_getElem? (i := 9) rfl) (by kernel_rfl))
          subst e
          show Option.isSome _ = true
          kernel_rfl
        · intro vs gq stq hl hf
          replace hl : vs.length = 7 := hl
          obtain ⟨v0, vs0, rfl, hl0⟩ := len_succ hl
          obtain ⟨v1, vs1, rfl, hl1⟩ := len_succ hl0
          obtain ⟨v2, vs2, rfl, hl2⟩ := len_succ hl1
          obtain ⟨v3, vs3, rfl, hl3⟩ := len_succ hl2
          obtain ⟨v4, vs4, rfl, hl4⟩ := len_succ hl3
          obtain ⟨v5, vs5, rfl, hl5⟩ := len_succ hl4
          obtain ⟨v6, vs6, rfl, hl6⟩ := len_succ hl5
          obtain rfl := len_zero hl6
          have e := (show v6 = .bool false from hf _ (List.mem_of_getElem? (i := 11) rfl) (by kernel_rfl))
          subst e
          show Option.isSome _ = true
          kernel_rfl
        · intro vs gq stq hl hf
          replace hl : vs.length = 7 := hl
          obtain ⟨v0, vs0, rfl, hl0⟩ := len_succ hl
          obtain ⟨v1, vs1, rfl, hl1⟩ := len_succ hl0
          obtain ⟨v2, vs2, rfl, hl2⟩ := len_succ hl1
          obtain ⟨v3, vs3, rfl, hl3⟩ := len_succ hl2
          obtain ⟨v4, vs4, rfl, hl4⟩ := len_succ hl3
          obtain ⟨v5, vs5, rfl, hl5⟩ := len_succ hl4
          obtain ⟨v6, vs6, rfl, hl6⟩ := len_succ hl5
          obtain rfl := len_zero hl6
          have e := (show v6 = .bool false from hf _ (List.mem_of_getElem? (i := 11) rfl) (by kernel_rfl))
          subst e
          show Option.isSome _ = true
          kernel_rfl
        · intro vs gq stq hl hf
          replace hl : vs.length = 7 := hl
          obtain ⟨v0, vs0, rfl, hl0⟩ := len_succ hl
          obtain ⟨v1, vs1, rfl, hl1⟩ := len_succ hl0
          obtain ⟨v2, vs2, rfl, hl2⟩ := len_succ hl1
          obtain ⟨v3, vs3, rfl, hl3⟩ := len_succ hl2
          obtain ⟨v4, vs4, rfl, hl4⟩ := len_succ hl3
          obtain ⟨v5, vs5, rfl, hl5⟩ := len_succ hl4
          obtain ⟨v6, vs6, rfl, hl6⟩ := len_succ hl5
          obtain rfl := len_zero hl6
          have e := (show v6 = .bool false from hf _ (List.mem_of_getElem? (i := 11) rfl) (by kernel_rfl))
          subst e
          show Option.isSome _ = true
          kernel_rfl
        · intro vs gq stq hl hf
          replace hl : vs.length = 7 := hl
          obtain ⟨v0, vs0, rfl, hl0⟩ := len_succ hl
          obtain ⟨v1, vs1, rfl, hl1⟩ := len_succ hl0
          obtain ⟨v2, vs2, rfl, hl2⟩ := len_succ hl1
          obtain ⟨v3, vs3, rfl, hl3⟩ := len_succ hl2
          obtain ⟨v4, vs4, rfl, hl4⟩ := len_succ hl3
          obtain ⟨v5, vs5, rfl, hl5⟩ := len_succ hl4
          obtain ⟨v6, vs6, rfl, hl6⟩ := len_succ hl5
          obtain rfl := len_zero hl6
          have e := (show v6 = .bool false from hf _ (List.mem_of_getElem? (i := 11) rfl) (by kernel_rfl))
          subst e
          show Option.isSome _ = true
          kernel_rfl
        · intro vs gq stq hl hf
          replace hl : vs.length = 7 := hl
          obtain ⟨v0, vs0, rfl, hl0⟩ := len_succ hl
          obtain ⟨v1, vs1, rfl, hl1⟩ := len_succ hl0
          obtain ⟨v2, vs2, rfl, hl2⟩ := len_succ hl1
          obtain ⟨v3, vs3, rfl, hl3⟩ := len_succ hl2
          obtain ⟨v4, vs4, rfl, hl4⟩ := len_succ hl3
          obtain ⟨v5, vs5, rfl, hl5⟩ := len_succ hl4
          obtain ⟨v6, vs6, rfl, hl6⟩ := len_succ hl5
          obtain rfl := len_zero hl6
          have e := (show v6 = .bool false from hf _ (List.mem_of_getElem? (i := 11) rfl) (by kernel_rfl))
          subst e
          show Option.isSome _ = true
          kernel_rfl
        · intro vs gq stq hl hf
          replace hl : vs.length = 7 := hl
          obtain ⟨v0, vs0, rfl, hl0⟩ := len_succ hl
          obtain ⟨v1, vs1, rfl, hl1⟩ := len_succ hl0
          obtain ⟨v2, vs2, rfl, hl2⟩ := len_succ hl1
          obtain ⟨v3, vs3, rfl, hl3⟩ := len_succ hl2
          obtain ⟨v4, vs4, rfl, hl4⟩ := len_succ hl3
          obtain ⟨v5, vs5, rfl, hl5⟩ := len_succ hl4
          obtain ⟨v6, vs6, rfl, hl6⟩ := len_succ hl5
          obtain rfl := len_zero hl6
          have e := (show v6 = .bool false from hf _ (List.mem_of_getElem? (i := 11) rfl) (by kernel_rfl))
          subst e
          show Option.isSome _ = true
          kernel_rfl
        · intro vs gq stq hl hf
          replace hl : vs.length = 7 := hl
          obtain ⟨v0, vs0, rfl, hl0⟩ := len_succ hl
          obtain ⟨v1, vs1, rfl, hl1⟩ := len_succ hl0
          obtain ⟨v2, vs2, rfl, hl2⟩ := len_succ hl1
          obtain ⟨v3, vs3, rfl, hl3⟩ := len_succ hl2
          obtain ⟨v4, vs4, rfl, hl4⟩ := len_succ hl3
          obtain ⟨v5, vs5, rfl, hl5⟩ := len_succ hl4
          obtain ⟨v6, vs6, rfl, hl6⟩ := len_succ hl5
          obtain rfl := len_zero hl6
          have e := (show v6 = .bool false from hf _ (List.mem_of_getElem? (i := 11) rfl) (by kernel_rfl))
          subst e
          show Option.isSome _ = true
          kernel_rfl
        · intro vs gq stq hl hf
          replace hl : vs.length = 7 := hl
          obtain ⟨v0, vs0, rfl, hl0⟩ := len_succ hl
          obtain ⟨v1, vs1, rfl, hl1⟩ := len_succ hl0
          obtain ⟨v2, vs2, rfl, hl2⟩ := len_succ hl1
          obtain ⟨v3, vs3, rfl, hl3⟩ := len_succ hl2
          obtain ⟨v4, vs4, rfl, hl4⟩ := len_succ hl3
          obtain ⟨v5, vs5, rfl, hl5⟩ := len_succ hl4
          obtain ⟨v6, vs6, rfl, hl6⟩ := len_succ hl5
          obtain rfl := len_zero hl6
          have e := (show v6 = .bool false from hf _ (List.mem_of_getElem? (i := 11) rfl) (by kernel_rfl))
          subst e
          show Option.isSome _ = true
          kernel_rfl
        · intro vs gq stq hl hf
          replace hl : vs.length = 7 := hl
          obtain ⟨v0, vs0, rfl, hl0⟩ := len_succ hl
          obtain ⟨v1, vs1, rfl, hl1⟩ := len_succ hl0
          obtain ⟨v2, vs2, rfl, hl2⟩ := len_succ hl1
          obtain ⟨v3, vs3, rfl, hl3⟩ := len_succ hl2
          obtain ⟨v4, vs4, rfl, hl4⟩ := len_succ hl3
          obtain ⟨v5, vs5, rfl, hl5⟩ := len_succ hl4
          obtain ⟨v6, vs6, rfl, hl6⟩ := len_succ hl5
          obtain rfl := len_zero hl6
          have e := (show v6 = .bool false from hf _ (List.mem_of_getElem? (i := 11) rfl) (by kernel_rfl))
          subst e
          show Option.isSome _ = true
          kernel_rfl
        · intro vs gq stq hl hf
          replace hl : vs.length = 7 := hl
          obtain ⟨v0, vs0, rfl, hl0⟩ := len_succ hl
          obtain ⟨v1, vs1, rfl, hl1⟩ := len_succ hl0
          obtain ⟨v2, vs2, rfl, hl2⟩ := len_succ hl1
          obtain ⟨v3, vs3, rfl, hl3⟩ := len_succ hl2
          obtain ⟨v4, vs4, rfl, hl4⟩ := len_succ hl3
          obtain ⟨v5, vs5, rfl, hl5⟩ := len_succ hl4
          obtain ⟨v6, vs6, rfl, hl6⟩ := len_succ hl5
          obtain rfl := len_zero hl6
          have e := (show v6 = .bool false from hf _ (List.mem_of_getElem? (i := 11) rfl) (by kernel_rfl))
          subst e
          show Option.isSome _ = true
          kernel_rfl
        · intro vs gq stq hl hf
          replace hl : vs.length = 7 := hl
          obtain ⟨v0, vs0, rfl, hl0⟩ := len_succ hl
          obtain ⟨v1, vs1, rfl, hl1⟩ := len_succ hl0
          obtain ⟨v2, vs2, rfl, hl2⟩ := len_succ hl1
          obtain ⟨v3, vs3, rfl, hl3⟩ := len_succ hl2
          obtain ⟨v4, vs4, rfl, hl4⟩ := len_succ hl3
          obtain ⟨v5, vs5, rfl, hl5⟩ := len_succ hl4
          obtain ⟨v6, vs6, rfl, hl6⟩ := len_succ hl5
          obtain rfl := len_zero hl6
          have e := (show v6 = .bool false from hf _ (List.mem_of_getElem? (i := 11) rfl) (by kernel_rfl))
          subst e
          show Option.isSome _ = true
          kernel_rfl
        · intro vs gq stq hl hf
          replace hl : vs.length = 7 := hl
          obtain ⟨v0, vs0, rfl, hl0⟩ := len_succ hl
          obtain ⟨v1, vs1, rfl, hl1⟩ := len_succ hl0
          obtain ⟨v2, vs2, rfl, hl2⟩ := len_succ hl1
          obtain ⟨v3, vs3, rfl, hl3⟩ := len_succ hl2
          obtain ⟨v4, vs4, rfl, hl4⟩ := len_succ hl3
          obtain ⟨v5, vs5, rfl, hl5⟩ := len_succ hl4
          obtain ⟨v6, vs6, rfl, hl6⟩ := len_succ hl5
          obtain rfl := len_zero hl6
          have e := (show v6 = .bool false from hf _ (List.mem_of_getElem? (i := 11) rfl) (by kernel_rfl))
          subst e
          show Option.isSome _ = true
          kernel_rfl
        · intro vs gq stq hl hf
          replace hl : vs.length = 7 := hl
          obtain ⟨v0, vs0, rfl, hl0⟩ := len_succ hl
          obtain ⟨v1, vs1, rfl, hl1⟩ := len_succ hl0
          obtain ⟨v2, vs2, rfl, hl2⟩ := len_succ hl1
          obtain ⟨v3, vs3, rfl, hl3⟩ := len_succ hl2
          obtain ⟨v4, vs4, rfl, hl4⟩ := len_succ hl3
          obtain ⟨v5, vs5, rfl, hl5⟩ := len_succ hl4
          obtain ⟨v6, vs6, rfl, hl6⟩ := len_succ hl5
          obtain rfl := len_zero hl6
          have e := (show v6 = .bool false from hf _ (List.mem_of_getElem? (i := 11) rfl) (by kernel_rfl))
          subst e
          show Option.isSome _ = true
          kernel_rfl
        · intro vs gq stq hl hf
          replace hl : vs.length = 7 := hl
          obtain ⟨v0, vs0, rfl, hl0⟩ := len_succ hl
          obtain ⟨v1, vs1, rfl, hl1⟩ := len_succ hl0
          obtain ⟨v2, vs2, rfl, hl2⟩ := len_succ hl1
          obtain ⟨v3, vs3, rfl, hl3⟩ := len_succ hl2
          obtain ⟨v4, vs4, rfl, hl4⟩ := len_succ hl3
          obtain ⟨v5, vs5, rfl, hl5⟩ := len_succ hl4
          obtain ⟨v6, vs6, rfl, hl6⟩ := len_succ hl5
          obtain rfl := len_zero hl6
          have e := (show v6 = .bool false from hf _ (List.mem_of_getElem? (i := 11) rfl) (by kernel_rfl))
          subst e
          show Option.isSome _ = true
          kernel_rfl
        · intro vs gq stq hl hf
          replace hl : vs.length = 7 := hl
          obtain ⟨v0, vs0, rfl, hl0⟩ := len_succ hl
          obtain ⟨v1, vs1, rfl, hl1⟩ := len_succ hl0
          obtain ⟨v2, vs2, rfl, hl2⟩ := len_succ hl1
          obtain ⟨v3, vs3, rfl, hl3⟩ := len_succ hl2
          obtain ⟨v4, vs4, rfl, hl4⟩ := len_succ hl3
          obtain ⟨v5, vs5, rfl, hl5⟩ := len_succ hl4
          obtain ⟨v6, vs6, rfl, hl6⟩ := len_succ hl5
          obtain rfl := len_zero hl6
          have e := (show v6 = .bool false from hf _ (List.mem_of_getElem? (i := 11) rfl) (by kernel_rfl))
          subst e
          show Option.isSome _ = true
          kernel_rfl
        · intro vs gq stq hl hf
          replace hl : vs.length = 7 := hl
          obtain ⟨v0, vs0, rfl, hl0⟩ := len_succ hl
          obtain ⟨v1, vs1, rfl, hl1⟩ := len_succ hl0
          obtain ⟨v2, vs2, rfl, hl2⟩ := len_succ hl1
          obtain ⟨v3, vs3, rfl, hl3⟩ := len_succ hl2
          obtain ⟨v4, vs4, rfl, hl4⟩ := len_succ hl3
          obtain ⟨v5, vs5, rfl, hl5⟩ := len_succ hl4
          obtain ⟨v6, vs6, rfl, hl6⟩ := len_succ hl5
          obtain rfl := len_zero hl6
          have e := (show v6 = .bool false from hf _ (List.mem_of_getElem? (i := 11) rfl) (by kernel_rfl))
          subst e
          show Option.isSome _ = true
          kernel_rfl
      · intro j hj
        have hq : j = 0 ∨ j = 1 ∨ j = 2 ∨ j = 3 ∨ j = 4 ∨ j = 5 ∨ j = 6 := by have h : j < 7 := hj; omega
        rcases hq with rfl | rfl | rfl | rfl | rfl | rfl | rfl
        · intro vs gq stq hl hf
          replace hl : vs.length = 7 := hl
          obtain ⟨v0, vs0, rfl, hl0⟩ := len_succ hl
          obtain ⟨v1, vs1, rfl, hl1⟩ := len_succ hl0
          obtain ⟨v2, vs2, rfl, hl2⟩ := len_succ hl1
          obtain ⟨v3, vs3, rfl, hl3⟩ := len_succ hl2
          obtain ⟨v4, vs4, rfl, hl4⟩ := len_succ hl3
          obtain ⟨v5, vs5, rfl, hl5⟩ := len_succ hl4
          obtain ⟨v6, vs6, rfl, hl6⟩ := len_succ hl5
          obtain rfl := len_zero hl6
          have hcal17 := P.baizelaw25_known gq q10 hk17
          refine WP.callC hcal17 (by kernel_rfl) ?_
          rintro _ g23 st23 rfl
          refine WP.done (by kernel_rfl) (Shown.ok (v := .bool q10) (by kernel_rfl) st23.pure ?_)
          exact ⟨trivial, trivial, trivial, trivial, rfl, trivial, trivial, trivial, trivial, trivial, trivial, trivial, trivial⟩
        · intro vs gq stq hl hf
          replace hl : vs.length = 7 := hl
          obtain ⟨v0, vs0, rfl, hl0⟩ := len_succ hl
          obtain ⟨v1, vs1, rfl, hl1⟩ := len_succ hl0
          obtain ⟨v2, vs2, rfl, hl2⟩ := len_succ hl1
          obtain ⟨v3, vs3, rfl, hl3⟩ := len_succ hl2
          obtain ⟨v4, vs4, rfl, hl4⟩ := len_succ hl3
          obtain ⟨v5, vs5, rfl, hl5⟩ := len_succ hl4
          obtain ⟨v6, vs6, rfl, hl6⟩ := len_succ hl5
          obtain rfl := len_zero hl6
          have e := (show v0 = .bool q10 from hf _ (List.mem_of_getElem? (i := 4) rfl) (by kernel_rfl))
          subst e
          refine WP.still 1 (by kernel_rfl) ?_
          refine WP.done (by kernel_rfl) (Shown.ok (v := .bool q10) (by kernel_rfl) (Step.refl _ _) ?_)
          exact ⟨trivial, trivial, trivial, trivial, trivial, congrArg Value.bool h10, trivial, trivial, trivial, trivial, trivial, trivial, trivial⟩
        · intro vs gq stq hl hf
          replace hl : vs.length = 7 := hl
          obtain ⟨v0, vs0, rfl, hl0⟩ := len_succ hl
          obtain ⟨v1, vs1, rfl, hl1⟩ := len_succ hl0
          obtain ⟨v2, vs2, rfl, hl2⟩ := len_succ hl1
          obtain ⟨v3, vs3, rfl, hl3⟩ := len_succ hl2
          obtain ⟨v4, vs4, rfl, hl4⟩ := len_succ hl3
          obtain ⟨v5, vs5, rfl, hl5⟩ := len_succ hl4
          obtain ⟨v6, vs6, rfl, hl6⟩ := len_succ hl5
          obtain rfl := len_zero hl6
          have hB1 := (show Box gq (t + 1) b1 26 [encA .u8 d2, [.int .i64 x4], [.int .i64 x5], [.int .i64 x6], [.slice a3 n3 c3], [.slice a4 n4 c4]] [8, 1, 1, 1, 1, 1] from hf _ (List.mem_of_getElem? (i := 0) rfl) (by kernel_rfl))
          have hR3 := (show RdS (Kd.int .u8) gq 5 a3 n3 c3 l3 from hf _ (List.mem_of_getElem? (i := 1) rfl) (by kernel_rfl))
          have hR4 := (show RdS (Kd.int .u8) gq 5 a4 n4 c4 l4 from hf _ (List.mem_of_getElem? (i := 2) rfl) (by kernel_rfl))
          have e := (show v1 = .bool true from hf _ (List.mem_of_getElem? (i := 5) rfl) (by kernel_rfl))
          subst e
          refine WP.loadB (v := AG [encA .u8 d2, [.int .i64 x4], [.int .i64 x5], [.int .i64 x6], [.slice a3 n3 c3], [.slice a4 n4 c4]]) hB1 (by kernel_rfl) (by kernel_rfl) ?_
          refine WP.done (by kernel_rfl) (Shown.ok (v := AG [encA .u8 d2, [.int .i64 x4], [.int .i64 x5], [.int .i64 x6], [.slice a3 n3 c3], [.slice a4 n4 c4]]) (by kernel_rfl) (Step.refl _ _) ?_)
          exact ⟨trivial, trivial, trivial, trivial, trivial, trivial, rfl, trivial, trivial, trivial, trivial, trivial, trivial⟩
        · intro vs gq stq hl hf
          replace hl : vs.length = 7 := hl
          obtain ⟨v0, vs0, rfl, hl0⟩ := len_succ hl
          obtain ⟨v1, vs1, rfl, hl1⟩ := len_succ hl0
          obtain ⟨v2, vs2, rfl, hl2⟩ := len_succ hl1
          obtain ⟨v3, vs3, rfl, hl3⟩ := len_succ hl2
          obtain ⟨v4, vs4, rfl, hl4⟩ := len_succ hl3
          obtain ⟨v5, vs5, rfl, hl5⟩ := len_succ hl4
          obtain ⟨v6, vs6, rfl, hl6⟩ := len_succ hl5
          obtain rfl := len_zero hl6
          have hR3 := (show RdS (Kd.int .u8) gq 5 a3 n3 c3 l3 from hf _ (List.mem_of_getElem? (i := 1) rfl) (by kernel_rfl))
          have hR4 := (show RdS (Kd.int .u8) gq 5 a4 n4 c4 l4 from hf _ (List.mem_of_getElem? (i := 2) rfl) (by kernel_rfl))
          have e := (show v1 = .bool true from hf _ (List.mem_of_getElem? (i := 5) rfl) (by kernel_rfl))
          subst e
          have e := (show v2 = AG [encA .u8 d2, [.int .i64 x4], [.int .i64 x5], [.int .i64 x6], [.slice a3 n3 c3], [.slice a4 n4 c4]] from hf _ (List.mem_of_getElem? (i := 6) rfl) (by kernel_rfl))
          subst e
          have hcal18 := P.baizelaw25_Of gq d2 x4 x5 x6 l3 l4 a3 n3 c3 a4 n4 c4 hR3 hR4 d8 x26 x27 x28 l17 l18 hk18
          refine WP.callC hcal18 (by kernel_rfl) ?_
          rintro _ g24 st24 ⟨a17, n17, c17, a18, n18, c18, rfl, hR17, hR18⟩
          obtain rfl := hR17.len
          obtain rfl := hR18.len
          refine WP.done (by kernel_rfl) (Shown.ok (v := AG [encA .u8 d8, [.int .i64 x26], [.int .i64 x27], [.int .i64 x28], [.slice a17 l17.length c17], [.slice a18 l18.length c18]]) (by kernel_rfl) st24.pure ?_)
          exact ⟨trivial, trivial, trivial, trivial, trivial, trivial, trivial, ⟨a17, c17, a18, c18, rfl, hR17, hR18⟩, trivial, trivial, trivial, trivial, trivial⟩
        · intro vs gq stq hl hf
          replace hl : vs.length = 7 := hl
          obtain ⟨v0, vs0, rfl, hl0⟩ := len_succ hl
          obtain ⟨v1, vs1, rfl, hl1⟩ := len_succ hl0
          obtain ⟨v2, vs2, rfl, hl2⟩ := len_succ hl1
          obtain ⟨v3, vs3, rfl, hl3⟩ := len_succ hl2
          obtain ⟨v4, vs4, rfl, hl4⟩ := len_succ hl3
          obtain ⟨v5, vs5, rfl, hl5⟩ := len_succ hl4
          obtain ⟨v6, vs6, rfl, hl6⟩ := len_succ hl5
          obtain rfl := len_zero hl6
          have e := (show v1 = .bool true from hf _ (List.mem_of_getElem? (i := 5) rfl) (by kernel_rfl))
          subst e
          obtain ⟨a17, c17, a18, c18, e, hR17, hR18⟩ := (show ∃ (a17 : Option Addr) (c17 : Nat) (a18 : Option Addr) (c18 : Nat), v3 = AG [encA .u8 d8, [.int .i64 x26], [.int .i64 x27], [.int .i64 x28], [.slice a17 l17.length c17], [.slice a18 l18.length c18]] ∧ RdS (Kd.int .u8) gq 5 a17 l17.length c17 l17 ∧ RdS (Kd.int .u8) gq 5 a18 l18.length c18 l18 from hf _ (List.mem_of_getElem? (i := 7) rfl) (by kernel_rfl))
          subst e
          have hcal19 := P.baizeref25_Bytes gq (t + 5) d8 x26 x27 x28 l17 l18 a17 l17.length c17 a18 l18.length c18 hR17 hR18 l19 hk19
          refine WP.callC hcal19 (by kernel_rfl) ?_
          rintro _ g25 st25 ⟨a19, n19, c19, rfl, hR19⟩
          obtain rfl := hR19.len
          refine WP.done (by kernel_rfl) (Shown.ok (v := .slice a19 l19.length c19) (by kernel_rfl) st25.pure ?_)
          exact ⟨trivial, trivial, trivial, trivial, trivial, trivial, trivial, trivial, ⟨a19, c19, rfl, hR19⟩, trivial, trivial, trivial, trivial⟩
        · intro vs gq stq hl hf
          replace hl : vs.length = 7 := hl
          obtain ⟨v0, vs0, rfl, hl0⟩ := len_succ hl
          obtain ⟨v1, vs1, rfl, hl1⟩ := len_succ hl0
          obtain ⟨v2, vs2, rfl, hl2⟩ := len_succ hl1
          obtain ⟨v3, vs3, rfl, hl3⟩ := len_succ hl2
          obtain ⟨v4, vs4, rfl, hl4⟩ := len_succ hl3
          obtain ⟨v5, vs5, rfl, hl5⟩ := len_succ hl4
          obtain ⟨v6, vs6, rfl, hl6⟩ := len_succ hl5
          obtain rfl := len_zero hl6
          have hR7 := (show RdS (Kd.int .u8) gq 5 a7 n7 c7 l7 from hf _ (List.mem_of_getElem? (i := 3) rfl) (by kernel_rfl))
          have e := (show v1 = .bool true from hf _ (List.mem_of_getElem? (i := 5) rfl) (by kernel_rfl))
          subst e
          obtain ⟨a19, c19, e, hR19⟩ := (show ∃ (a19 : Option Addr) (c19 : Nat), v4 = .slice a19 l19.length c19 ∧ OwnS (Kd.int .u8) gq (t + 5) 5 a19 l19.length c19 l19 from hf _ (List.mem_of_getElem? (i := 8) rfl) (by kernel_rfl))
          subst e
          have hS2 : 0 ∉ ([(t + 5)] : List Nat) := by simp <;> omega
          have stl2 := GW.lend_step gq [(t + 5)]
          have hRl2 := hR19.lendTo hS2 (by simp)
          refine WP.regw (g' := GW.lend gq [(t + 5)]) rfl ?_
          have hcal20 := P.baizeref01_Same (GW.lend gq [(t + 5)]) l7 l19 a7 n7 c7 a19 l19.length c19 (hR7.mono stl2 (WL.no (by simp <;> omega))) hRl2 q11 hk20
          refine WP.callC hcal20 (by kernel_rfl) ?_
          rintro _ g26 st26 rfl
          have st27 := (GW.back_step st26).lentS
          have hO2 := hR19.backTo hS2 (by simp) st26 (fun x => x)
          refine WP.regw (g' := GW.back gq g26 [(t + 5)]) rfl ?_
          generalize GW.back gq g26 [(t + 5)] = g27 at *
          refine WP.done (by kernel_rfl) (Shown.ok (v := .bool q11) (by kernel_rfl) st27 ?_)
          exact ⟨trivial, trivial, trivial, trivial, trivial, trivial, trivial, trivial, trivial, rfl, ⟨a19, c19, rfl, hO2⟩, trivial, trivial⟩
        · intro vs gq stq hl hf
          replace hl : vs.length = 7 := hl
          obtain ⟨v0, vs0, rfl, hl0⟩ := len_succ hl
          obtain ⟨v1, vs1, rfl, hl1⟩ := len_succ hl0
          obtain ⟨v2, vs2, rfl, hl2⟩ := len_succ hl1
          obtain ⟨v3, vs3, rfl, hl3⟩ := len_succ hl2
          obtain ⟨v4, vs4, rfl, hl4⟩ := len_succ hl3
          obtain ⟨v5, vs5, rfl, hl5⟩ := len_succ hl4
          obtain ⟨v6, vs6, rfl, hl6⟩ := len_succ hl5
          obtain rfl := len_zero hl6
          have e := (show v1 = .bool true from hf _ (List.mem_of_getElem? (i := 5) rfl) (by kernel_rfl))
          subst e
          have e := (show v5 = .bool q11 from hf _ (List.mem_of_getElem? (i := 9) rfl) (by kernel_rfl))
          subst e
          refine WP.still 1 (by kernel_rfl) ?_
          refine WP.done (by kernel_rfl) (Shown.ok (v := .bool q11) (by kernel_rfl) (Step.refl _ _) ?_)
          exact ⟨trivial, trivial, trivial, trivial, trivial, trivial, trivial, trivial, trivial, trivial, trivial, congrArg Value.bool h11, trivial⟩
      intro vs g35 st35 hl hf
      replace hl : vs.length = 7 := hl
      obtain ⟨v0, vs0, rfl, hl0⟩ := len_succ hl
      obtain ⟨v1, vs1, rfl, hl1⟩ := len_succ hl0
      obtain ⟨v2, vs2, rfl, hl2⟩ := len_succ hl1
      obtain ⟨v3, vs3, rfl, hl3⟩ := len_succ hl2
      obtain ⟨v4, vs4, rfl, hl4⟩ := len_succ hl3
      obtain ⟨v5, vs5, rfl, hl5⟩ := len_succ hl4
      obtain ⟨v6, vs6, rfl, hl6⟩ := len_succ hl5
      obtain rfl := len_zero hl6
      have e := (show v6 = .bool false from hf _ (List.mem_of_getElem? (i := 11) rfl) (by kernel_rfl))
      subst e
      replace tot := tot.trans (st35.up1 (.inr (by omega)))
      refine NX.post ?_
      exact ⟨false, ⟨by kernel_rfl, by kernel_rfl⟩, tot, hs⟩
    replace hs := of_if_f hs h10
    refine CP.drawL (by kernel_rfl) [0, 1] N.baizelaw25_TxBytes_0 [⟨some 0, [], [0], fun l g => l.getD 0 undef = .bool q10⟩, ⟨some 1, [], [1], fun l g => l.getD 0 undef = .bool false⟩] [[], []] [] [] [2, 3, 4, 5, 6, 7, 8, 9, 10, 11, 12, 13, 14, 15, 16, 17, 18, 19, 20, 21, 22, 23, 24] (by kernel_rfl) (by simp) (by simp) ⟨fun _ _ _ _ st h0 hl hj e => e, fun _ _ _ _ st h0 hl hj e => e, trivial⟩ ⟨trivial, trivial, trivial⟩ (by kernel_rfl) (fun vs => by kernel_rfl) ?_ ?_ ?_
    · intro j hj
      have hq : j = 0 ∨ j = 1 ∨ j = 2 ∨ j = 3 ∨ j = 4 ∨ j = 5 ∨ j = 6 ∨ j = 7 ∨ j = 8 ∨ j = 9 ∨ j = 10 ∨ j = 11 ∨ j = 12 ∨ j = 13 ∨ j = 14 ∨ j = 15 ∨ j = 16 ∨ j = 17 ∨ j = 18 ∨ j = 19 ∨ j = 20 ∨ j = 21 ∨ j = 22 := by have h : j < 23 := hj; omega
      rcases hq with rfl | rfl | rfl | rfl | rfl | rfl | rfl | rfl | rfl | rfl | rfl | rfl | rfl | rfl | rfl | rfl | rfl | rfl | rfl | rfl | rfl | rfl | rfl
      · intro vs gq stq hl hf
        replace hl : vs.length = 2 := hl
        obtain ⟨v0, vs0, rfl, hl0⟩ := len_succ hl
        obtain ⟨v1, vs1, rfl, hl1⟩ := len_succ hl0
        obtain rfl := len_zero hl1
        have e := (show v1 = .bool false from hf _ (List.mem_of_getElem? (i := 1) rfl) (by kernel_rfl))
        subst e
        show Option.isSome _ = true
        kernel_rfl
      · intro vs gq stq hl hf
        replace hl : vs.length = 2 := hl
        obtain ⟨v0, vs0, rfl, hl0⟩ := len_succ hl
        obtain ⟨v1, vs1, rfl, hl1⟩ := len_succ hl0
        obtain rfl := len_zero hl1
        have e := (show v1 = .bool false from hf _ (List.mem_of_getElem? (i := 1) rfl) (by kernel_rfl))
        subst e
        show Option.isSome _ = true
        kernel_rfl
      · intro vs gq stq hl hf
        replace hl : vs.length = 2 := hl
        obtain ⟨v0, vs0, rfl, hl0⟩ := len_succ hl
        obtain ⟨v1, vs1, rfl, hl1⟩ := len_succ hl0
        obtain rfl := len_zero hl1
        have e := (show v1 = .bool false from hf _ (List.mem_of_getElem? (i := 1) rfl) (by kernel_rfl))
        subst e
        show Option.isSome _ = true
        kernel_rfl
      · intro vs gq stq hl hf
        replace hl : vs.length = 2 := hl
        obtain ⟨v0, vs0, rfl, hl0⟩ := len_succ hl
        obtain ⟨v1, vs1, rfl, hl1⟩ := len_succ hl0
        obtain rfl := len_zero hl1
        have e := (show v1 = .bool false from hf _ (List.mem_of_getElem? (i := 1) rfl) (by kernel_rfl))
        subst e
        show Option.isSome _ = true
        kernel_rfl
      · intro vs gq stq hl hf
        replace hl : vs.length = 2 := hl
        obtain ⟨v0, vs0, rfl, hl0⟩ := len_succ hl
        obtain ⟨v1, vs1, rfl, hl1⟩ := len_succ hl0
        obtain rfl := len_zero hl1
        have e := (show v1 = .bool false from hf _ (List.mem_of_getElem? (i := 1) rfl) (by kernel_rfl))
        subst e
        show Option.isSome _ = true
        kernel_rfl
      · intro vs gq stq hl hf
        replace hl : vs.length = 2 := hl
        obtain ⟨v0, vs0, rfl, hl0⟩ := len_succ hl
        obtain ⟨v1, vs1, rfl, hl1⟩ := len_succ hl0
        obtain rfl := len_zero hl1
        have e := (show v1 = .bool false from hf _ (List.mem_of_getElem? (i := 1) rfl) (by kernel_rfl))
        subst e
        show Option.isSome _ = true
        kernel_rfl
      · intro vs gq stq hl hf
        replace hl : vs.length = 2 := hl
        obtain ⟨v0, vs0, rfl, hl0⟩ := len_succ hl
        obtain ⟨v1, vs1, rfl, hl1⟩ := len_succ hl0
        obtain rfl := len_zero hl1
        have e := (show v1 = .bool false from hf _ (List.mem_of_getElem? (i := 1) rfl) (by kernel_rfl))
        subst e
        show Option.isSome _ = true
        kernel_rfl
      · intro vs gq stq hl hf
        replace hl : vs.length = 2 := hl
        obtain ⟨v0, vs0, rfl, hl0⟩ := len_succ hl
        obtain ⟨v1, vs1, rfl, hl1⟩ := len_succ hl0
        obtain rfl := len_zero hl1
        have e := (show v1 = .bool false from hf _ (List.mem_of_getElem? (i := 1) rfl) (by kernel_rfl))
        subst e
        show Option.isSome _ = true
        kernel_rfl
      · intro vs gq stq hl hf
        replace hl : vs.length = 2 := hl
        obtain ⟨v0, vs0, rfl, hl0⟩ := len_succ hl
        obtain ⟨v1, vs1, rfl, hl1⟩ := len_succ hl0
        obtain rfl := len_zero hl1
        have e := (show v1 = .bool false from hf _ (List.mem_of_getElem? (i := 1) rfl) (by kernel_rfl))
        subst e
        show Option.isSome _ = true
        kernel_rfl
      · intro vs gq stq hl hf
        replace hl : vs.length = 2 := hl
        obtain ⟨v0, vs0, rfl, hl0⟩ := len_succ hl
        obtain ⟨v1, vs1, rfl, hl1⟩ := len_succ hl0
        obtain rfl := len_zero hl1
        have e := (show v1 = .bool false from hf _ (List.mem_of_getElem? (i := 1) rfl) (by kernel_rfl))
        subst e
        show Option.isSome _ = true
        kernel_rfl
      · intro vs gq stq hl hf
        replace hl : vs.length = 2 := hl
        obtain ⟨v0, vs0, rfl, hl0⟩ := len_succ hl
        obtain ⟨v1, vs1, rfl, hl1⟩ := len_succ hl0
        obtain rfl := len_zero hl1
        have e := (show v1 = .bool false from hf _ (List.mem_of_getElem? (i := 1) rfl) (by kernel_rfl))
        subst e
        show Option.isSome _ = true
        kernel_rfl
      · intro vs gq stq hl hf
        replace hl : vs.length = 2 := hl
        obtain ⟨v0, vs0, rfl, hl0⟩ := len_succ hl
        obtain ⟨v1, vs1, rfl, hl1⟩ := len_succ hl0
        obtain rfl := len_zero hl1
        have e := (show v1 = .bool false from hf _ (List.mem_of_getElem? (i := 1) rfl) (by kernel_rfl))
        subst e
        show Option.isSome _ = true
        kernel_rfl
      · intro vs gq stq hl hf
        replace hl : vs.length = 2 := hl
        obtain ⟨v0, vs0, rfl, hl0⟩ := len_succ hl
        obtain ⟨v1, vs1, rfl, hl1⟩ := len_succ hl0
        obtain rfl := len_zero hl1
        have e := (show v1 = .bool false from hf _ (List.mem_of_getElem? (i := 1) rfl) (by kernel_rfl))
        subst e
        show Option.isSome _ = true
        kernel_rfl
      · intro vs gq stq hl hf
        replace hl : vs.length = 2 := hl
        obtain ⟨v0, vs0, rfl, hl0⟩ := len_succ hl
        obtain ⟨v1, vs1, rfl, hl1⟩ := len_succ hl0
        obtain rfl := len_zero hl1
        have e := (show v1 = .bool false from hf _ (List.mem_of_getElem? (i := 1) rfl) (by kernel_rfl))
        subst e
        show Option.isSome _ = true
        kernel_rfl
      · intro vs gq stq hl hf
        replace hl : vs.length = 2 := hl
        obtain ⟨v0, vs0, rfl, hl0⟩ := len_succ hl
        obtain ⟨v1, vs1, rfl, hl1⟩ := len_succ hl0
        obtain rfl := len_zero hl1
        have e := (show v1 = .bool false from hf _ (List.mem_of_getElem? (i := 1) rfl) (by kernel_rfl))
        subst e
        show Option.isSome _ = true
        kernel_rfl
      · intro vs gq stq hl hf
        replace hl : vs.length = 2 := hl
        obtain ⟨v0, vs0, rfl, hl0⟩ := len_succ hl
        obtain ⟨v1, vs1, rfl, hl1⟩ := len_succ hl0
        obtain rfl := len_zero hl1
        have e := (show v1 = .bool false from hf _ (List.mem_of_getElem? (i := 1) rfl) (by kernel_rfl))
        subst e
        show Option.isSome _ = true
        kernel_rfl
      · intro vs gq stq hl hf
        replace hl : vs.length = 2 := hl
        obtain ⟨v0, vs0, rfl, hl0⟩ := len_succ hl
        obtain ⟨v1, vs1, rfl, hl1⟩ := len_succ hl0
        obtain rfl := len_zero hl1
        have e := (show v1 = .bool false from hf _ (List.mem_of_getElem? (i := 1) rfl) (by kernel_rfl))
        subst e
        show Option.isSome _ = true
        kernel_rfl
      · intro vs gq stq hl hf
        replace hl : vs.length = 2 := hl
        obtain ⟨v0, vs0, rfl, hl0⟩ := len_succ hl
        obtain ⟨v1, vs1, rfl, hl1⟩ := len_succ hl0
        obtain rfl := len_zero hl1
        have e := (show v1 = .bool false from hf _ (List.mem_of_getElem? (i := 1) rfl) (by kernel_rfl))
        subst e
        show Option.isSome _ = true
        kernel_rfl
      · intro vs gq stq hl hf
        replace hl : vs.length = 2 := hl
        obtain ⟨v0, vs0, rfl, hl0⟩ := len_succ hl
        obtain ⟨v1, vs1, rfl, hl1⟩ := len_succ hl0
        obtain rfl := len_zero hl1
        have e := (show v1 = .bool false from hf _ (List.mem_of_getElem? (i := 1) rfl) (by kernel_rfl))
        subst e
        show Option.isSome _ = true
        kernel_rfl
      · intro vs gq stq hl hf
        replace hl : vs.length = 2 := hl
        obtain ⟨v0, vs0, rfl, hl0⟩ := len_succ hl
        obtain ⟨v1, vs1, rfl, hl1⟩ := len_succ hl0
        obtain rfl := len_zero hl1
        have e := (show v1 = .bool false from hf _ (List.mem_of_getElem? (i := 1) rfl) (by kernel_rfl))
        subst e
        show Option.isSome _ = true
        kernel_rfl
      · intro vs gq stq hl hf
        replace hl : vs.length = 2 := hl
        obtain ⟨v0, vs0, rfl, hl0⟩ := len_succ hl
        obtain ⟨v1, vs1, rfl, hl1⟩ := len_succ hl0
        obtain rfl := len_zero hl1
        have e := (show v1 = .bool false from hf _ (List.mem_of_getElem? (i := 1) rfl) (by kernel_rfl))
        subst e
        show Option.isSome _ = true
        kernel_rfl
      · intro vs gq stq hl hf
        replace hl : vs.length = 2 := hl
        obtain ⟨v0, vs0, rfl, hl0⟩ := len_succ hl
        obtain ⟨v1, vs1, rfl, hl1⟩ := len_succ hl0
        obtain rfl := len_zero hl1
        have e := (show v1 = .bool false from hf _ (List.mem_of_getElem? (i := 1) rfl) (by kernel_rfl))
        subst e
        show Option.isSome _ = true
        kernel_rfl
      · intro vs gq stq hl hf
        replace hl : vs.length = 2 := hl
        obtain ⟨v0, vs0, rfl, hl0⟩ := len_succ hl
        obtain ⟨v1, vs1, rfl, hl1⟩ := len_succ hl0
        obtain rfl := len_zero hl1
        have e := (show v1 = .bool false from hf _ (List.mem_of_getElem? (i := 1) rfl) (by kernel_rfl))
        subst e
        show Option.isSome _ = true
        kernel_rfl
    · intro j hj
      have hq : j = 0 ∨ j = 1 := by have h : j < 2 := hj; omega
      rcases hq with rfl | rfl
      · intro vs gq stq hl hf
        replace hl : vs.length = 2 := hl
        obtain ⟨v0, vs0, rfl, hl0⟩ := len_succ hl
        obtain ⟨v1, vs1, rfl, hl1⟩ := len_succ hl0
        obtain rfl := len_zero hl1
        have hcal17 := P.baizelaw25_known gq q10 hk17
        refine WP.callC hcal17 (by kernel_rfl) ?_
        rintro _ g23 st23 rfl
        refine WP.done (by kernel_rfl) (Shown.ok (v := .bool q10) (by kernel_rfl) st23.pure ?_)
        exact ⟨rfl, trivial, trivial⟩
      · intro vs gq stq hl hf
        replace hl : vs.length = 2 := hl
        obtain ⟨v0, vs0, rfl, hl0⟩ := len_succ hl
        obtain ⟨v1, vs1, rfl, hl1⟩ := len_succ hl0
        obtain rfl := len_zero hl1
        have e := (show v0 = .bool q10 from hf _ (List.mem_of_getElem? (i := 0) rfl) (by kernel_rfl))
        subst e
        refine WP.still 1 (by kernel_rfl) ?_
        refine WP.done (by kernel_rfl) (Shown.ok (v := .bool q10) (by kernel_rfl) (Step.refl _ _) ?_)
        exact ⟨trivial, congrArg Value.bool h10, trivial⟩
    intro vs g36 st36 hl hf
    replace hl : vs.length = 2 := hl
    obtain ⟨v0, vs0, rfl, hl0⟩ := len_succ hl
    obtain ⟨v1, vs1, rfl, hl1⟩ := len_succ hl0
    obtain rfl := len_zero hl1
    have e := (show v1 = .bool false from hf _ (List.mem_of_getElem? (i := 1) rfl) (by kernel_rfl))
    subst e
    replace tot := tot.trans st36.toNo.pure
    refine NX.post ?_
    exact ⟨false, ⟨by kernel_rfl, by kernel_rfl⟩, tot, hs⟩
  clear tot hs hB1 hR3 hR4 hR7 hB3 hR8 hR9
  rintro tm g ⟨q9, hF, tot, hs⟩
  clear ds
  obtain ⟨ds, rfl⟩ := hF.open
  clear hF
  unfold F.baizelaw25_TxBytes.c3 at hs
  refine CP.ret ?_
  replace hs := Option.some.inj hs
  obtain rfl := hs
  exact NX.fin (v := .bool q9) (Res.still (by kernel_rfl)) tot htL rfl
end Go.Proofs.Ytjcmjedphijhjaa
