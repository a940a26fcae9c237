/-
  Walks, written by program: each Go function computes the plain function of its name, in whatever world its arguments' facts hold.
-/
import Derived.Test.YtahpmlekenbafaaWCm1
namespace Go.Proofs.Ytahpmlekenbafaa
open Go.RowKit Go.Lab
attribute [local irreducible] WP CP NX wpList Code.wp Calls
set_option maxRecDepth 100000
set_option maxHeartbeats 4000000
set_option linter.unusedVariables false

def F.hash_FromNum.l1 (x1 : Int) : Nat → (Arr Int 8) → Int → Option ((Arr Int 8))
 | 0, _, _ => none
 | k + 1, d1, x2 => (if decide (x2 < 8) = true then (if (0 : Int) ≤ (IntKind.i64.wrap (8 * x2)) then (if (0 : Int) ≤ x2 ∧ x2 < (8 : Int) then (F.hash_FromNum.l1 x1 k (aset d1 x2 (IntKind.u8.wrap (shV false .u64 x1 (IntKind.i64.wrap (8 * x2))))) (IntKind.i64.wrap (x2 + 1))) else none) else none) else (some d1))
def F.hash_FromNum (x1 : Int) : Option ((Arr Int 8)) := (F.hash_FromNum.l1 x1 fuel (zA 8) 0)
theorem P.hash_FromNum (g0 : GW) (x1 : Int) (o1 : Arr Int 8) (hs : F.hash_FromNum x1 = some o1) :
  Calls Try.prog 58 #[.int .u64 x1] g0.w (Ret NoM g0 fun v g => v = AG [encA .u8 o1]) := by
 refine calls_of (args := [.int .u64 x1]) Try.func58 rfl (0) ?_
 intro t ht htL
 refine ⟨_, rfl, ?_⟩
 refine CP.refr 17 [(0, .int .u64 x1)] (by kernel_rfl) (by kernel_rfl) ?_
 intro ds
 have tot : Step (fun l => NoM l ∨ t ≤ l) g0 g0 := Step.refl _ _
 unfold F.hash_FromNum at hs
 refine CP.seqR ?_
 refine WP.alloc (T := 47) (t + 1) [encA .u8 (zA 8)] [8] (by kernel_rfl) (by simp [len_encA]) ?_
 intro g1 b1 st1 hB1
 replace tot := tot.trans st1.pure
 refine WP.dn ?_
 refine NX.then_n ?_
 refine CP.seqR ?_
 refine WP.alloc (T := 47) (t + 2) [encA .u8 (zA 8)] [8] (by kernel_rfl) (by simp [len_encA]) ?_
 intro g2 b2 st2 hB2
 replace hB1 := hB1.mono st2 (fun x => x)
 replace tot := tot.trans st2.pure
 refine WP.dn ?_
 refine NX.then_n ?_
 refine CP.seq ?_
 refine CP.seqR ?_
 refine WP.stl 1 ?_
 refine WP.dn ?_
 refine NX.then_n ?_
 refine CP.block ?_
 generalize fuel = k1 at hs
 refine CP.loop (fun k1 tm g => ∃ (d1 : Arr Int 8) (x2 : Int), Fr 17 [(0, .int .u64 x1), (2, .pointer (some ⟨b1, 0, none⟩)), (3, .pointer (some ⟨b2, 0, none⟩)), (5, .int .i64 x2)] tm ∧ Step (fun l => NoM l ∨ t ≤ l) g0 g ∧ Box g (t + 1) b1 47 [encA .u8 (zA 8)] [8] ∧ Box g (t + 2) b2 47 [encA .u8 d1] [8] ∧ F.hash_FromNum.l1 x1 k1 d1 x2 = some o1) k1 ?_ ?_ ?_
 ·exact ⟨(zA 8), 0, ⟨by kernel_rfl, by kernel_rfl⟩, tot, hB1, hB2, hs⟩
 ·rintro tm g ⟨d1, x2, hF, tot, hB1, hB2, hs⟩
  exact absurd hs (by simp [F.hash_FromNum.l1])
 clear tot hs hB1 hB2
 rintro k1 tm g ⟨d1, x2, hF, tot, hB1, hB2, hs⟩
 clear ds
 obtain ⟨ds, rfl⟩ := hF.open
 clear hF
 unfold F.hash_FromNum.l1 at hs
 refine CP.seqR ?_
 refine WP.stl 1 ?_
 refine WP.dn ?_
 refine NX.then_n ?_
 refine CP.seq ?_
 refine CP.cond (b := decide (x2 < 8)) (by kernel_rfl) (fun h3 => ?_) (fun h3 => ?_)
 ·replace hs := of_if_t hs h3
  refine CP.skip ?_
  refine NX.then_n ?_
  refine CP.seq ?_
  refine CP.block ?_
  refine CP.seqR ?_
  refine WP.stl 2 ?_
  refine WP.dn ?_
  refine NX.then_n ?_
  refine CP.region ?_
  refine WP.stl 4 ?_
  by_cases hc4 : (0 : Int) ≤ (IntKind.i64.wrap (8 * x2))
  case neg => rw [if_neg hc4] at hs; cases hs
  replace hs := of_if_p hs hc4
  refine WP.shift (left := false) (k := .u64) (yk := .i64) (x := x1) (y := (IntKind.i64.wrap (8 * x2))) (by kernel_rfl) hc4 ?_
  refine WP.stl 1 ?_
  by_cases hc5 : (0 : Int) ≤ x2 ∧ x2 < (8 : Int)
  case neg => rw [if_neg hc5] at hs; cases hs
  replace hs := of_if_p hs hc5
  refine WP.ixBox (t := 47) (e := 5) (m := 8) (size := 1) (b := b2) (off := 0) (k := .i64) (i := x2) (by kernel_rfl) (by kernel_rfl) hc5 ?_
  refine WP.storeE (ty := 5) (o := 0) (m := 8) (k := .u8) (d := d1) (i := x2) (x := (IntKind.u8.wrap (shV false .u64 x1 (IntKind.i64.wrap (8 * x2))))) hB2 (by kernel_rfl) hc5 (by kernel_rfl) (by kernel_rfl) [encA .u8 (aset d1 x2 (IntKind.u8.wrap (shV false .u64 x1 (IntKind.i64.wrap (8 * x2)))))] (by kernel_rfl) ?_
  intro g7 st7 hB7
  replace hB1 := hB1.mono st7 (WL.no1 (by omega))
  replace tot := tot.trans (st7.up1 (.inr (by omega)))
  clear hB2
  have hB2 := hB7
  clear hB7
  refine WP.dn ?_
  refine NX.block_n ?_
  refine NX.then_n ?_
  refine CP.region ?_
  refine WP.stl 2 ?_
  refine WP.dn ?_
  refine NX.post ?_
  exact ⟨(aset d1 x2 (IntKind.u8.wrap (shV false .u64 x1 (IntKind.i64.wrap (8 * x2))))), (IntKind.i64.wrap (x2 + 1)), ⟨by kernel_rfl, by kernel_rfl⟩, tot, hB1, hB2, hs⟩
 replace hs := of_if_f hs h3
 refine CP.exit ?_
 refine NX.then_e ?_
 refine NX.then_e ?_
 refine NX.block_s ?_
 refine NX.then_n ?_
 refine CP.seqR ?_
 refine WP.loadB (v := AG [encA .u8 d1]) hB2 (by kernel_rfl) (by kernel_rfl) ?_
 refine WP.storeB (ty := 47) (off := 0) (v := AG [encA .u8 d1]) hB1 [encA .u8 d1] [8] (by kernel_rfl) (by kernel_rfl) (by simp [len_encA]) (by kernel_rfl) [encA .u8 d1] (by kernel_rfl) (.arr .nil) ?_
 intro g8 st8 hB8
 replace hB2 := hB2.mono st8 (WL.no1 (by omega))
 replace tot := tot.trans (st8.up1 (.inr (by omega)))
 clear hB1
 have hB1 := hB8
 clear hB8
 refine WP.dn ?_
 refine NX.then_n ?_
 refine CP.ret ?_
 replace hs := Option.some.inj hs
 obtain rfl := hs
 exact NX.fin (v := AG [encA .u8 d1]) (Res.one rfl (RV.box (agg := true) (size := 8) (rs := [encA .u8 d1]) hB1 (by kernel_rfl) (by kernel_rfl) (by kernel_rfl) (by kernel_rfl))) tot htL rfl
def F.hash_state_digest (x1 : Int) (x2 : Int) (x3 : Int) (x4 : Int) : Option ((Arr Int 8)) := ((F.hash_state_gives x1 x2 x3 x4).bind fun x5 => ((F.hash_FromNum x5).bind fun d1 => (some d1)))
theorem P.hash_state_digest (g0 : GW) (m0 : Nat) (x1 : Int) (x2 : Int) (x3 : Int) (x4 : Int) (b1 : Nat) (hB1 : Box g0 m0 b1 105 [[.int .u64 x1], [.int .u64 x2], [.int .u64 x3], [.int .u64 x4]] [1, 1, 1, 1]) (hm0 : m0 ≠ 0) (o1 : Arr Int 8) (hs : F.hash_state_digest x1 x2 x3 x4 = some o1) :
  Calls Try.prog 53 #[.pointer (some ⟨b1, 0, none⟩)] g0.w (Ret NoM g0 fun v g => v = AG [encA .u8 o1]) := by
 refine calls_of (args := [.pointer (some ⟨b1, 0, none⟩)]) Try.func53 rfl (m0 + 0) ?_
 intro t ht htL
 refine ⟨_, rfl, ?_⟩
 refine CP.refr 6 [(0, .pointer (some ⟨b1, 0, none⟩))] (by kernel_rfl) (by kernel_rfl) ?_
 intro ds
 have tot : Step (fun l => NoM l ∨ t ≤ l) g0 g0 := Step.refl _ _
 unfold F.hash_state_digest at hs
 refine CP.seqR ?_
 refine WP.alloc (T := 47) (t + 1) [encA .u8 (zA 8)] [8] (by kernel_rfl) (by simp [len_encA]) ?_
 intro g1 b2 st1 hB2
 replace hB1 := hB1.mono st1 (fun x => x)
 replace tot := tot.trans st1.pure
 refine WP.dn ?_
 refine NX.then_n ?_
 refine CP.seqR ?_
 refine WP.stl 1 ?_
 replace hs := Option.bind_eq_some_iff.1 hs
 obtain ⟨x5, hk1, hs⟩ := hs
 have hcal1 := P.hash_state_gives g1 m0 x1 x2 x3 x4 b1 hB1 (by omega) x5 hk1
 refine WP.callC hcal1 (by kernel_rfl) ?_
 rintro _ g2 st2 rfl
 replace hB1 := hB1.mono st2 (fun x => x)
 replace hB2 := hB2.mono st2 (fun x => x)
 replace tot := tot.trans st2.pure
 replace hs := Option.bind_eq_some_iff.1 hs
 obtain ⟨d1, hk2, hs⟩ := hs
 have hcal2 := P.hash_FromNum g2 x5 d1 hk2
 refine WP.callC hcal2 (by kernel_rfl) ?_
 rintro _ g3 st3 rfl
 replace hB1 := hB1.mono st3 (fun x => x)
 replace hB2 := hB2.mono st3 (fun x => x)
 replace tot := tot.trans st3.pure
 refine WP.storeB (ty := 47) (off := 0) (v := AG [encA .u8 d1]) hB2 [encA .u8 d1] [8] (by kernel_rfl) (by kernel_rfl) (by simp [len_encA]) (by kernel_rfl) [encA .u8 d1] (by kernel_rfl) (.arr .nil) ?_
 intro g4 st4 hB3
 replace hB1 := hB1.mono st4 (WL.no1 (by omega))
 replace tot := tot.trans (st4.up1 (.inr (by omega)))
 clear hB2
 have hB2 := hB3
 clear hB3
 refine WP.dn ?_
 refine NX.then_n ?_
 refine CP.ret ?_
 replace hs := Option.some.inj hs
 obtain rfl := hs
 exact NX.fin (v := AG [encA .u8 d1]) (Res.one rfl (RV.box (agg := true) (size := 8) (rs := [encA .u8 d1]) hB2 (by kernel_rfl) (by kernel_rfl) (by kernel_rfl) (by kernel_rfl))) tot htL rfl
def F.hash_Of (l1 : List Int) : Option ((Arr Int 8)) := ((F.hash_begin 1).bind fun (x1, x2, x3, x4) => ((F.hash_state_bytes x1 x2 x3 x4 l1).bind fun (x5, x6, x7, x8) => ((F.hash_state_digest x5 x6 x7 x8).bind fun d1 => (some d1))))
theorem P.hash_Of (g0 : GW) (l1 : List Int) (a1 : Option Addr) (n1 : Nat) (c1 : Nat) (hR1 : RdS (Kd.int .u8) g0 5 a1 n1 c1 l1) (o1 : Arr Int 8) (hs : F.hash_Of l1 = some o1) :
  Calls Try.prog 46 #[.slice a1 n1 c1] g0.w (Ret NoM g0 fun v g => v = AG [encA .u8 o1]) := by
 refine calls_of (args := [.slice a1 n1 c1]) Try.func46 rfl (0) ?_
 intro t ht htL
 refine ⟨_, rfl, ?_⟩
 refine CP.refr 8 [(0, .slice a1 n1 c1)] (by kernel_rfl) (by kernel_rfl) ?_
 intro ds
 have tot : Step (fun l => NoM l ∨ t ≤ l) g0 g0 := Step.refl _ _
 unfold F.hash_Of at hs
 refine CP.seqR ?_
 refine WP.alloc (T := 47) (t + 1) [encA .u8 (zA 8)] [8] (by kernel_rfl) (by simp [len_encA]) ?_
 intro g1 b1 st1 hB1
 replace hR1 := hR1.mono st1 (fun x => x)
 replace tot := tot.trans st1.pure
 refine WP.dn ?_
 refine NX.then_n ?_
 refine CP.seqR ?_
 replace hs := Option.bind_eq_some_iff.1 hs
 obtain ⟨⟨x1, x2, x3, x4⟩, hk1, hs⟩ := hs
 dsimp only at hs
 have hcal1 := P.hash_begin g1 1 x1 x2 x3 x4 hk1
 refine WP.callC hcal1 (by kernel_rfl) ?_
 rintro _ g2 st2 rfl
 replace hR1 := hR1.mono st2 (fun x => x)
 replace hB1 := hB1.mono st2 (fun x => x)
 replace tot := tot.trans st2.pure
 refine WP.alloc (T := 105) (t + 2) [[.int .u64 0], [.int .u64 0], [.int .u64 0], [.int .u64 0]] [1, 1, 1, 1] (by kernel_rfl) rfl ?_
 intro g3 b2 st3 hB2
 replace hR1 := hR1.mono st3 (fun x => x)
 replace hB1 := hB1.mono st3 (fun x => x)
 replace tot := tot.trans st3.pure
 refine WP.storeB (ty := 105) (off := 0) (v := AG [[.int .u64 x1], [.int .u64 x2], [.int .u64 x3], [.int .u64 x4]]) hB2 [[.int .u64 x1], [.int .u64 x2], [.int .u64 x3], [.int .u64 x4]] [1, 1, 1, 1] (by kernel_rfl) (by kernel_rfl) rfl (by kernel_rfl) [[.int .u64 x1], [.int .u64 x2], [.int .u64 x3], [.int .u64 x4]] (by kernel_rfl) (.one rfl (.one rfl (.one rfl (.one rfl .nil)))) ?_
 intro g4 st4 hB3
 replace hR1 := hR1.mono st4 (WL.no1 (by omega))
 replace hB1 := hB1.mono st4 (WL.no1 (by omega))
 replace tot := tot.trans (st4.up1 (.inr (by omega)))
 clear hB2
 have hB2 := hB3
 clear hB3
 refine WP.dn ?_
 refine NX.then_n ?_
 refine CP.seqR ?_
 refine WP.stl 1 ?_
 replace hs := Option.bind_eq_some_iff.1 hs
 obtain ⟨⟨x5, x6, x7, x8⟩, hk2, hs⟩ := hs
 dsimp only at hs
 have hcal2 := P.hash_state_bytes g4 (t + 2) x1 x2 x3 x4 l1 a1 n1 c1 b2 hR1 hB2 (by omega) x5 x6 x7 x8 hk2
 refine WP.callC hcal2 (by kernel_rfl) ?_
 rintro _ g5 st5 ⟨rfl, hB4⟩
 replace hR1 := hR1.mono st5 (WL.no1 (by omega))
 replace hB1 := hB1.mono st5 (WL.no1 (by omega))
 replace tot := tot.trans (st5.up1 (.inr (by omega)))
 clear hB2
 have hB2 := hB4
 clear hB4
 refine WP.dn ?_
 refine NX.then_n ?_
 refine CP.seqR ?_
 replace hs := Option.bind_eq_some_iff.1 hs
 obtain ⟨d1, hk3, hs⟩ := hs
 have hcal3 := P.hash_state_digest g5 (t + 2) x5 x6 x7 x8 b2 hB2 (by omega) d1 hk3
 refine WP.callC hcal3 (by kernel_rfl) ?_
 rintro _ g6 st6 rfl
 replace hB1 := hB1.mono st6 (fun x => x)
 replace hB2 := hB2.mono st6 (fun x => x)
 replace tot := tot.trans st6.pure
 refine WP.storeB (ty := 47) (off := 0) (v := AG [encA .u8 d1]) hB1 [encA .u8 d1] [8] (by kernel_rfl) (by kernel_rfl) (by simp [len_encA]) (by kernel_rfl) [encA .u8 d1] (by kernel_rfl) (.arr .nil) ?_
 intro g7 st7 hB5
 replace hB2 := hB2.mono st7 (WL.no1 (by omega))
 replace tot := tot.trans (st7.up1 (.inr (by omega)))
 clear hB1
 have hB1 := hB5
 clear hB5
 refine WP.dn ?_
 refine NX.then_n ?_
 refine CP.ret ?_
 replace hs := Option.some.inj hs
 obtain rfl := hs
 exact NX.fin (v := AG [encA .u8 d1]) (Res.one rfl (RV.box (agg := true) (size := 8) (rs := [encA .u8 d1]) hB1 (by kernel_rfl) (by kernel_rfl) (by kernel_rfl) (by kernel_rfl))) tot htL rfl
def F.state_of (s1 : ByteArray) (d1 : Arr Int 8) (l1 : List (List Int)) : Option ((Arr Int 8)) := ((F.octet_PutText ([]) s1).bind fun l3 => ((F.octet_PutBytes l3 d1.1).bind fun l4 => ((F.slices_Concat_byte_byte l1).bind fun l5 => (if l4.length + l5.length ≤ 140737488355328 then ((F.hash_Of (l4 ++ l5)).bind fun d2 => (some d2)) else none))))
theorem P.state_of (g0 : GW) (s1 : ByteArray) (d1 : Arr Int 8) (l1 : List (List Int)) (a1 : Option Addr) (n1 : Nat) (c1 : Nat) (hR1 : RdS (Kd.slice 5 (Kd.int .u8)) g0 74 a1 n1 c1 l1) (o1 : Arr Int 8) (hs : F.state_of s1 d1 l1 = some o1) :
  Calls Try.prog 35 #[.string s1, AG [encA .u8 d1], .slice a1 n1 c1] g0.w (Ret NoM g0 fun v g => v = AG [encA .u8 o1]) := by
 refine calls_of (args := [.string s1, AG [encA .u8 d1], .slice a1 n1 c1]) Try.func35 rfl (0) ?_
 intro t ht htL
 refine ⟨_, rfl, ?_⟩
 refine CP.refr 17 [(0, .string s1), (1, AG [encA .u8 d1]), (2, .slice a1 n1 c1)] (by kernel_rfl) (by kernel_rfl) ?_
 intro ds
 have tot : Step (fun l => NoM l ∨ t ≤ l) g0 g0 := Step.refl _ _
 unfold F.state_of at hs
 refine CP.seqR ?_
 refine WP.alloc (T := 47) (t + 1) [encA .u8 d1] [8] (by kernel_rfl) (by simp [len_encA]) ?_
 intro g1 b1 st1 hB1
 replace hR1 := hR1.mono st1 (fun x => x)
 replace tot := tot.trans st1.pure
 refine WP.alloc (T := 47) (t + 2) [encA .u8 (zA 8)] [8] (by kernel_rfl) (by simp [len_encA]) ?_
 intro g2 b2 st2 hB2
 replace hR1 := hR1.mono st2 (fun x => x)
 replace hB1 := hB1.mono st2 (fun x => x)
 replace tot := tot.trans st2.pure
 refine WP.dn ?_
 refine NX.then_n ?_
 refine CP.seq ?_
 obtain ⟨g4, hw1, st4, hnew⟩ := hB1.relab 0
 refine CP.regw hw1 ?_
 replace hR1 := hR1.mono st4 (WL.no1 (by omega))
 replace hB2 := hB2.mono st4 (WL.no1 (by omega))
 replace tot := tot.trans (st4.up1 (.inr (by omega)))
 clear hB1
 have hB1 := hnew
 clear hnew
 replace hs := Option.bind_eq_some_iff.1 hs
 obtain ⟨l3, hk2, hs⟩ := hs
 replace hs := Option.bind_eq_some_iff.1 hs
 obtain ⟨l4, hk3, hs⟩ := hs
 refine CP.drawL (by kernel_rfl) [1, 2, 3] [[], [0], [], [0, 1, 2], [0, 1, 2, 3]] [⟨none, [], [], fun l g => Box g 0 b1 47 [encA .u8 d1] [8]⟩, ⟨some 0, [0], [0], fun l g => ∃ (a4 : Option Addr) (c3 : Nat), l.getD 0 undef = .slice a4 l3.length c3 ∧ OwnS (Kd.int .u8) g (t + 4) 5 a4 l3.length c3 l3⟩, ⟨some 1, [], [1], fun l g => ∃ (a5 : Option Addr), l.getD 0 undef = .slice a5 ((8 : Int).toNat - (0 : Int).toNat) (8 - (0 : Int).toNat) ∧ RdS (Kd.int .u8) g 5 a5 ((8 : Int).toNat - (0 : Int).toNat) (8 - (0 : Int).toNat) d1.1⟩, ⟨some 2, [], [2], fun l g => ∃ (a6 : Option Addr) (c4 : Nat), l.getD 0 undef = .slice a6 l4.length c4 ∧ OwnS (Kd.int .u8) g (t + 5) 5 a6 l4.length c4 l4⟩, ⟨some 2, [], [0], fun l g => ∃ (a4 : Option Addr) (c3 : Nat), l.getD 0 undef = .slice a4 l3.length c3 ∧ RdS (Kd.int .u8) g 5 a4 l3.length c3 l3⟩] [[], [], [0]] [(t + 4)] [0] [4] (by kernel_rfl) (by simp <;> omega) (by simp) ⟨fun _ _ _ _ st h0 hl hj hB1 => (hB1.mono st (fun h => absurd (hl _ h) (by simp <;> omega))), fun _ _ _ _ st h0 hl hj ⟨a4, c3, e0, hR4⟩ => ⟨a4, c3, e0, (hR4.mono st h0 (hj 0 (by simp) _ rfl))⟩, fun _ _ _ _ st h0 hl hj ⟨a5, e1, hR5⟩ => ⟨a5, e1, (RdS.mono (e := 5) hR5 st h0)⟩, fun _ _ _ _ st h0 hl hj ⟨a6, c4, e2, hR6⟩ => ⟨a6, c4, e2, (hR6.mono st h0 (fun h => absurd (hl _ h) (by simp <;> omega)))⟩, fun _ _ _ _ st h0 hl hj ⟨a4, c3, e0, hR4⟩ => ⟨a4, c3, e0, (RdS.mono (e := 5) hR4 st h0)⟩, tv⟩ ⟨hB1, tv, tv, tv, tv, tv⟩ (by kernel_rfl) (fun vs => by kernel_rfl) ?_ ?_ ?_
 ·intro j hj
  have hq : j = 0 := by have h : j < 1 := hj; omega
  rcases hq with rfl
  ·intro vs gq stq hl hf
   obtain ⟨v0, v1, v2, rfl⟩ := len_k3 hl
   obtain ⟨a6, c4, e2, hR6⟩ := (show ∃ (a6 : Option Addr) (c4 : Nat), v2 = .slice a6 l4.length c4 ∧ OwnS (Kd.int .u8) gq (t + 5) 5 a6 l4.length c4 l4 from hf _ (memI 3 rfl) (by kernel_rfl))
   subst e2
   show Option.isSome _ = true
   kernel_rfl
 ·intro j hj
  have hq : j = 0 ∨ j = 1 ∨ j = 2 := by have h : j < 3 := hj; omega
  rcases hq with rfl | rfl | rfl
  ·intro vs gq stq hl hf
   obtain ⟨v0, v1, v2, rfl⟩ := len_k3 hl
   have hcal2 := P.octet_PutText gq (t + 4) ([]) s1 none 0 0 (RdS.nil _ _ _) l3 hk2
   refine WP.callC hcal2 (by kernel_rfl) ?_
   rintro _ g5 st5 ⟨a4, n3, c3, rfl, hR4⟩
   obtain rfl := hR4.len
   refine WP.dn (Shown.o (v := .slice a4 l3.length c3) st5.pure ?_)
   exact ⟨tv, ⟨a4, c3, rfl, hR4⟩, tv, tv, tv, tv⟩
  ·intro vs gq stq hl hf
   obtain ⟨v0, v1, v2, rfl⟩ := len_k3 hl
   have hB1 := (show Box gq 0 b1 47 [encA .u8 d1] [8] from hf _ (memI 0 rfl) (by kernel_rfl))
   refine WP.sliceZ (o := 0) (m := 8) (k := .u8) (d := d1) (e := 5) (lo := none) (hi := none) hB1 (by kernel_rfl) (0 : Int) (8 : Int) (by kernel_rfl) (.inl ⟨rfl, rfl⟩) (.inl ⟨rfl, rfl⟩) (by decide) ?_
   intro a5 hR5
   rw [sliceI_all (m := 8) (d := d1) (j := (8 : Int)) rfl] at hR5
   refine WP.dn (Shown.ok (v := .slice a5 ((8 : Int).toNat - (0 : Int).toNat) (8 - (0 : Int).toNat)) (by kernel_rfl) (Step.refl _ _) ?_)
   exact ⟨tv, tv, ⟨a5, rfl, hR5⟩, tv, tv, tv⟩
  ·intro vs gq stq hl hf
   obtain ⟨v0, v1, v2, rfl⟩ := len_k3 hl
   obtain ⟨a4, c3, e0, hR4⟩ := (show ∃ (a4 : Option Addr) (c3 : Nat), v0 = .slice a4 l3.length c3 ∧ OwnS (Kd.int .u8) gq (t + 4) 5 a4 l3.length c3 l3 from hf _ (memI 1 rfl) (by kernel_rfl))
   subst e0
   obtain ⟨a5, e1, hR5⟩ := (show ∃ (a5 : Option Addr), v1 = .slice a5 ((8 : Int).toNat - (0 : Int).toNat) (8 - (0 : Int).toNat) ∧ RdS (Kd.int .u8) gq 5 a5 ((8 : Int).toNat - (0 : Int).toNat) (8 - (0 : Int).toNat) d1.1 from hf _ (memI 2 rfl) (by kernel_rfl))
   subst e1
   obtain ⟨gf1, hwf1, stf1, hnew⟩ := hR4.freeze (by omega)
   refine WP.regw hwf1 ?_
   replace hR5 := hR5.mono stf1 (WL.no (by simp <;> omega))
   clear hR4
   have hR4 := hnew
   clear hnew
   have hcal3 := P.octet_PutBytes gf1 (t + 5) l3 d1.1 a4 l3.length c3 a5 ((8 : Int).toNat - (0 : Int).toNat) (8 - (0 : Int).toNat) hR4 hR5 l4 hk3
   refine WP.callC hcal3 (by kernel_rfl) ?_
   rintro _ g6 st6 ⟨a6, n4, c4, rfl, hR6⟩
   obtain rfl := hR6.len
   replace st6 : Step (WL []) _ _ := Step.pure st6
   have hz1 := hR4.mono st6 (WL.no (by simp <;> omega))
   replace st6 := Step.both stf1 st6
   refine WP.dn (Shown.o (v := .slice a6 l4.length c4) st6 ?_)
   exact ⟨tv, tv, tv, ⟨a6, c4, rfl, hR6⟩, ⟨a4, c3, rfl, hz1⟩, tv⟩
 intro vs g7 st7 hl hf
 obtain ⟨v0, v1, v2, rfl⟩ := len_k3 hl
 obtain ⟨a6, c4, e2, hR6⟩ := (show ∃ (a6 : Option Addr) (c4 : Nat), v2 = .slice a6 l4.length c4 ∧ OwnS (Kd.int .u8) g7 (t + 5) 5 a6 l4.length c4 l4 from hf _ (memI 3 rfl) (by kernel_rfl))
 subst e2
 replace hR1 := hR1.mono st7 (WL.no1 (by omega))
 replace hB2 := hB2.mono st7 (WL.no1 (by omega))
 replace tot := tot.trans (st7.up1 (.inr (by omega)))
 refine NX.then_n ?_
 refine CP.refr 17 [(2, .slice a1 n1 c1), (6, .pointer (some ⟨b2, 0, none⟩)), (7, .slice a6 l4.length c4)] (by kernel_rfl) (by kernel_rfl) ?_
 clear ds
 intro ds
 refine CP.seqR ?_
 refine WP.stl 2 ?_
 replace hs := Option.bind_eq_some_iff.1 hs
 obtain ⟨l5, hk4, hs⟩ := hs
 have hcal4 := P.slices_Concat_byte_byte g7 (t + 6) l1 a1 n1 c1 hR1 l5 hk4
 refine WP.callC hcal4 (by kernel_rfl) ?_
 rintro _ g8 st8 ⟨a7, n5, c5, rfl, hR7⟩
 replace hR1 := hR1.mono st8 (fun x => x)
 replace hB2 := hB2.mono st8 (fun x => x)
 replace hR6 := hR6.mono st8 (fun x => x) (fun x => x)
 replace tot := tot.trans st8.pure
 by_cases hc1 : l4.length + l5.length ≤ 140737488355328
 case neg => rw [if_neg hc1] at hs; cases hs
 replace hs := of_if_p hs hc1
 refine WP.append (kd := (Kd.int .u8)) (t := 74) (e := 5) (bytes := 1) (a2 := a7) (c2 := c5) hR6 hR7.src hR7.len (by kernel_rfl) (by kernel_rfl) (by omega) (by simp only [maxLen]; omega) (by omega) ?_
 intro g9 a8 c6 st9 hR8
 replace hR1 := hR1.mono st9 (WL.no1 (by omega))
 replace hB2 := hB2.mono st9 (WL.no1 (by omega))
 replace hR7 := hR7.mono st9 (WL.no1 (by omega)) (WL.no1 (by omega))
 replace tot := tot.trans (st9.up1 (.inr (by omega)))
 replace hs := Option.bind_eq_some_iff.1 hs
 obtain ⟨d2, hk5, hs⟩ := hs
 have hS1 : 0 ∉ ([(t + 5)] : List Nat) := by simp <;> omega
 have stl1 := GW.lend_step g9 [(t + 5)]
 have hRl1 := hR8.lendTo hS1 (by simp)
 refine WP.regw (g' := GW.lend g9 [(t + 5)]) rfl ?_
 have hcal5 := P.hash_Of (GW.lend g9 [(t + 5)]) (l4 ++ l5) a8 (l4.length + n5) c6 hRl1 d2 hk5
 refine WP.callC hcal5 (by kernel_rfl) ?_
 rintro _ g10 st10 rfl
 have st11 := (GW.back_step st10).lentS
 have hO1 := hR8.backTo hS1 (by simp) st10 (fun x => x)
 refine WP.regw (g' := GW.back g9 g10 [(t + 5)]) rfl ?_
 generalize GW.back g9 g10 [(t + 5)] = g11 at *
 replace hR1 := hR1.mono st11 (WL.no1 (by omega))
 replace hB2 := hB2.mono st11 (WL.no1 (by omega))
 replace hR7 := hR7.mono st11 (WL.no1 (by omega)) (WL.no1 (by omega))
 replace tot := tot.trans (st11.up1 (.inr (by omega)))
 clear hR8
 have hR8 : OwnS (Kd.int .u8) g11 (t + 5) 5 a8 (l4.length + n5) c6 (l4 ++ l5) := hO1
 clear hO1
 refine WP.storeB (ty := 47) (off := 0) (v := AG [encA .u8 d2]) hB2 [encA .u8 d2] [8] (by kernel_rfl) (by kernel_rfl) (by simp [len_encA]) (by kernel_rfl) [encA .u8 d2] (by kernel_rfl) (.arr .nil) ?_
 intro g12 st12 hB3
 replace hR1 := hR1.mono st12 (WL.no1 (by omega))
 replace hR7 := hR7.mono st12 (WL.no1 (by omega)) (WL.no1 (by omega))
 replace hR8 := hR8.mono st12 (WL.no1 (by omega)) (WL.no1 (by omega))
 replace tot := tot.trans (st12.up1 (.inr (by omega)))
 clear hB2
 have hB2 := hB3
 clear hB3
 refine WP.dn ?_
 refine NX.then_n ?_
 refine CP.ret ?_
 replace hs := Option.some.inj hs
 obtain rfl := hs
 exact NX.fin (v := AG [encA .u8 d2]) (Res.one rfl (RV.box (agg := true) (size := 8) (rs := [encA .u8 d2]) hB2 (by kernel_rfl) (by kernel_rfl) (by kernel_rfl) (by kernel_rfl))) tot htL rfl
def F.state_Payout_Digest.l1 (d1 : Arr Int 8) (l1 : List Int) : Nat → (List (List Int)) → Int → Option ((Arr Int 8))
 | 0, _, _ => none
 | k + 1, l4, x1 => (if decide (x1 < (l1.length : Int)) = true then (if (0 : Int) ≤ x1 ∧ x1 < (l1.length : Int) then ((F.state_number (getI l1 x1)).bind fun l7 => (if l4.length + ([l7]).length ≤ 5864062014805 then (F.state_Payout_Digest.l1 d1 l1 k (l4 ++ [l7]) (IntKind.i64.wrap (x1 + 1))) else none)) else none) else ((F.state_of str_0 d1 l4).bind fun d4 => (some d4)))
def F.state_Payout_Digest (d1 : Arr Int 8) (l1 : List Int) : Option ((Arr Int 8)) := ((F.octet_PutNum ([]) (IntKind.u64.wrap (l1.length : Int))).bind fun l2 => (F.state_Payout_Digest.l1 d1 l1 fuel ([l2]) 0))
theorem P.state_Payout_Digest (g0 : GW) (d1 : Arr Int 8) (l1 : List Int) (a1 : Option Addr) (n1 : Nat) (c1 : Nat) (hR1 : RdS (Kd.int .i64) g0 3 a1 n1 c1 l1) (o1 : Arr Int 8) (hs : F.state_Payout_Digest d1 l1 = some o1) :
  Calls Try.prog 18 #[AG [encA .u8 d1, [.slice a1 n1 c1]]] g0.w (Ret NoM g0 fun v g => v = AG [encA .u8 o1]) := by
 refine calls_of (args := [AG [encA .u8 d1, [.slice a1 n1 c1]]]) Try.func18 rfl (0) ?_
 intro t ht htL
 refine ⟨_, rfl, ?_⟩
 refine CP.refr 29 [(0, AG [encA .u8 d1, [.slice a1 n1 c1]])] (by kernel_rfl) (by kernel_rfl) ?_
 intro ds
 have tot : Step (fun l => NoM l ∨ t ≤ l) g0 g0 := Step.refl _ _
 unfold F.state_Payout_Digest at hs
 refine CP.seqR ?_
 refine WP.alloc (T := 49) (t + 1) [encA .u8 d1, [.slice a1 n1 c1]] [8, 1] (by kernel_rfl) (by simp [len_encA]) ?_
 intro g1 b1 st1 hB1
 replace hR1 := hR1.mono st1 (fun x => x)
 replace tot := tot.trans st1.pure
 refine WP.alloc (T := 47) (t + 2) [encA .u8 (zA 8)] [8] (by kernel_rfl) (by simp [len_encA]) ?_
 intro g2 b2 st2 hB2
 replace hR1 := hR1.mono st2 (fun x => x)
 replace hB1 := hB1.mono st2 (fun x => x)
 replace tot := tot.trans st2.pure
 refine WP.dn ?_
 refine NX.then_n ?_
 refine CP.seqR ?_
 refine WP.stl 1 ?_
 refine WP.loadB (v := .slice a1 n1 c1) hB1 (by kernel_rfl) (by kernel_rfl) ?_
 refine WP.len (a := a1) (cp := c1) hR1.len (by kernel_rfl) ?_
 refine WP.stl 1 ?_
 replace hs := Option.bind_eq_some_iff.1 hs
 obtain ⟨l2, hk1, hs⟩ := hs
 have hcal1 := P.octet_PutNum g2 (t + 3) ([]) (IntKind.u64.wrap (l1.length : Int)) none 0 0 (RdS.nil _ _ _) l2 hk1
 refine WP.callC hcal1 (by kernel_rfl) ?_
 rintro _ g3 st3 ⟨a2, n2, c2, rfl, hR2⟩
 replace hB1 := hB1.mono st3 (fun x => x)
 replace hR1 := hR1.mono st3 (fun x => x)
 replace hB2 := hB2.mono st3 (fun x => x)
 replace tot := tot.trans st3.pure
 obtain ⟨g5, hw1, st5, hnew⟩ := hR2.freeze (by omega)
 refine WP.regw hw1 ?_
 replace hB1 := hB1.mono st5 (WL.no1 (by omega))
 replace hR1 := hR1.mono st5 (WL.no1 (by omega))
 replace hB2 := hB2.mono st5 (WL.no1 (by omega))
 replace tot := tot.trans (st5.up1 (.inr (by omega)))
 clear hR2
 have hR2 := hnew
 clear hnew
 refine WP.mkSl (kd := (Kd.slice 5 (Kd.int .u8))) (t := 52) (e := 74) (bytes := 24) (t + 4) [.slice a2 n2 c2] [l2] (by kernel_rfl) (by kernel_rfl) (Nat.le_of_ble_eq_true rfl) (Nat.le_of_ble_eq_true rfl) (all_cons rfl all_nil) (⟨_, _, rfl, (by exact ⟨_, _, _, rfl, hR2⟩), rfl⟩) rfl ?_
 intro g4 a3 st4 hR3
 replace hB1 := hB1.mono st4 (fun x => x)
 replace hR1 := hR1.mono st4 (fun x => x)
 replace hB2 := hB2.mono st4 (fun x => x)
 replace hR2 := hR2.mono st4 (fun x => x)
 replace tot := tot.trans st4.pure
 refine WP.stl 1 ?_
 refine WP.dn ?_
 refine NX.then_n ?_
 refine CP.seq ?_
 refine CP.seqR ?_
 refine WP.stl 1 ?_
 refine WP.loadB (v := .slice a1 n1 c1) hB1 (by kernel_rfl) (by kernel_rfl) ?_
 refine WP.len (a := a1) (cp := c1) hR1.len (by kernel_rfl) ?_
 refine WP.stl 1 ?_
 refine WP.dn ?_
 refine NX.then_n ?_
 refine CP.refr 29 [(1, .pointer (some ⟨b1, 0, none⟩)), (2, .pointer (some ⟨b2, 0, none⟩)), (3, .slice a3 1 1), (13, .slice a1 n1 c1), (14, .int .i64 (l1.length : Int)), (15, .int .i64 0)] (by kernel_rfl) (by kernel_rfl) ?_
 clear ds
 intro ds
 refine CP.block ?_
 generalize fuel = k1 at hs
 refine CP.loop (fun k1 tm g => ∃ (l4 : List (List Int)) (a7 : Option Addr) (n4 : Nat) (c5 : Nat) (x1 : Int), Fr 29 [(1, .pointer (some ⟨b1, 0, none⟩)), (2, .pointer (some ⟨b2, 0, none⟩)), (3, .slice a7 n4 c5), (13, .slice a1 n1 c1), (14, .int .i64 (l1.length : Int)), (15, .int .i64 x1)] tm ∧ Step (fun l => NoM l ∨ t ≤ l) g0 g ∧ Box g (t + 1) b1 49 [encA .u8 d1, [.slice a1 n1 c1]] [8, 1] ∧ RdS (Kd.int .i64) g 3 a1 n1 c1 l1 ∧ Box g (t + 2) b2 47 [encA .u8 (zA 8)] [8] ∧ OwnS (Kd.slice 5 (Kd.int .u8)) g (t + 4) 74 a7 n4 c5 l4 ∧ F.state_Payout_Digest.l1 d1 l1 k1 l4 x1 = some o1) k1 ?_ ?_ ?_
 ·exact ⟨[l2], a3, 1, 1, 0, ⟨by kernel_rfl, by kernel_rfl⟩, tot, hB1, hR1, hB2, hR3, hs⟩
 ·rintro tm g ⟨l4, a7, n4, c5, x1, hF, tot, hB1, hR1, hB2, hR7, hs⟩
  exact absurd hs (by simp [F.state_Payout_Digest.l1])
 clear tot hs hB1 hR1 hB2 hR3
 rintro k1 tm g ⟨l4, a7, n4, c5, x1, hF, tot, hB1, hR1, hB2, hR7, hs⟩
 clear ds
 obtain ⟨ds, rfl⟩ := hF.open
 clear hF
 unfold F.state_Payout_Digest.l1 at hs
 refine CP.seqR ?_
 refine WP.stl 1 ?_
 refine WP.dn ?_
 refine NX.then_n ?_
 refine CP.seq ?_
 refine CP.cond (b := decide (x1 < (l1.length : Int))) (by kernel_rfl) (fun h3 => ?_) (fun h3 => ?_)
 ·replace hs := of_if_t hs h3
  refine CP.skip ?_
  refine NX.then_n ?_
  refine CP.seq ?_
  refine CP.block ?_
  refine CP.seqR ?_
  by_cases hc5 : (0 : Int) ≤ x1 ∧ x1 < (l1.length : Int)
  case neg => rw [if_neg hc5] at hs; cases hs
  replace hs := of_if_p hs hc5
  obtain ⟨b5, u3, ha3⟩ := hR1.at hc5
  refine WP.indexA (t := 22) (e := 3) (sz := 1) (cap := c1) (k := .i64) (i := x1) hR1.len ha3 (by kernel_rfl) (by kernel_rfl) hc5 ?_
  obtain ⟨cs3, hcR3, hcV3⟩ := hR1.src.view (getI_some hc5) ha3
  replace hcR3 := Kd.o_int hcR3
  refine WP.loadV [[.int .i64 (getI l1 x1)]] [1] hcV3 hcR3 rfl (f := 0) (ty := 3) (agg := false) (size := 1) (rs := [[.int .i64 (getI l1 x1)]]) (v := .int .i64 (getI l1 x1)) (by kernel_rfl) (by kernel_rfl) (by kernel_rfl) (by kernel_rfl) ?_
  refine WP.stl 1 ?_
  refine WP.dn ?_
  refine NX.then_n ?_
  refine CP.region ?_
  refine WP.stl 2 ?_
  replace hs := Option.bind_eq_some_iff.1 hs
  obtain ⟨l7, hk6, hs⟩ := hs
  have hcal6 := P.state_number g (t + 9) (getI l1 x1) l7 hk6
  refine WP.callC hcal6 (by kernel_rfl) ?_
  rintro _ g20 st20 ⟨a12, n7, c9, rfl, hR12⟩
  replace hB1 := hB1.mono st20 (fun x => x)
  replace hR1 := hR1.mono st20 (fun x => x)
  replace hB2 := hB2.mono st20 (fun x => x)
  replace hR7 := hR7.mono st20 (fun x => x) (fun x => x)
  replace tot := tot.trans st20.pure
  obtain ⟨g22, hw4, st22, hnew⟩ := hR12.freeze (by omega)
  refine WP.regw hw4 ?_
  replace hB1 := hB1.mono st22 (WL.no1 (by omega))
  replace hR1 := hR1.mono st22 (WL.no1 (by omega))
  replace hB2 := hB2.mono st22 (WL.no1 (by omega))
  replace hR7 := hR7.mono st22 (WL.no1 (by omega)) (WL.no1 (by omega))
  replace tot := tot.trans (st22.up1 (.inr (by omega)))
  clear hR12
  have hR12 := hnew
  clear hnew
  refine WP.mkSl (kd := (Kd.slice 5 (Kd.int .u8))) (t := 52) (e := 74) (bytes := 24) (t + 10) [.slice a12 n7 c9] [l7] (by kernel_rfl) (by kernel_rfl) (Nat.le_of_ble_eq_true rfl) (Nat.le_of_ble_eq_true rfl) (all_cons rfl all_nil) (⟨_, _, rfl, (by exact ⟨_, _, _, rfl, hR12⟩), rfl⟩) rfl ?_
  intro g21 a13 st21 hR13
  replace hB1 := hB1.mono st21 (fun x => x)
  replace hR1 := hR1.mono st21 (fun x => x)
  replace hB2 := hB2.mono st21 (fun x => x)
  replace hR7 := hR7.mono st21 (fun x => x) (fun x => x)
  replace hR12 := hR12.mono st21 (fun x => x)
  replace tot := tot.trans st21.pure
  by_cases hc6 : l4.length + ([l7]).length ≤ 5864062014805
  case neg => rw [if_neg hc6] at hs; cases hs
  replace hs := of_if_p hs hc6
  refine WP.append (kd := (Kd.slice 5 (Kd.int .u8))) (t := 52) (e := 74) (bytes := 24) (a2 := a13) (c2 := 1) hR7 hR13.src hR13.len (by kernel_rfl) (by kernel_rfl) (by omega) (by simp only [maxLen]; omega) (by omega) ?_
  intro g23 a14 c10 st23 hR14
  replace hB1 := hB1.mono st23 (WL.no1 (by omega))
  replace hR1 := hR1.mono st23 (WL.no1 (by omega))
  replace hB2 := hB2.mono st23 (WL.no1 (by omega))
  replace hR12 := hR12.mono st23 (WL.no1 (by omega))
  replace hR13 := hR13.mono st23 (WL.no1 (by omega)) (WL.no1 (by omega))
  replace tot := tot.trans (st23.up1 (.inr (by omega)))
  refine WP.stl 1 ?_
  refine WP.dn ?_
  refine NX.block_n ?_
  refine NX.then_n ?_
  refine CP.region ?_
  refine WP.stl 2 ?_
  refine WP.dn ?_
  refine NX.post ?_
  exact ⟨(l4 ++ [l7]), a14, (n4 + 1), c10, (IntKind.i64.wrap (x1 + 1)), ⟨by kernel_rfl, by kernel_rfl⟩, tot, hB1, hR1, hB2, hR14, hs⟩
 replace hs := of_if_f hs h3
 refine CP.exit ?_
 refine NX.then_e ?_
 refine NX.then_e ?_
 refine NX.block_s ?_
 refine NX.then_n ?_
 refine CP.seqR ?_
 refine WP.stl 1 ?_
 refine WP.loadB (v := AG [encA .u8 d1]) hB1 (by kernel_rfl) (by kernel_rfl) ?_
 refine WP.stl 1 ?_
 replace hs := Option.bind_eq_some_iff.1 hs
 obtain ⟨d4, hk7, hs⟩ := hs
 have hS3 : 0 ∉ ([(t + 4)] : List Nat) := by simp <;> omega
 have stl3 := GW.lend_step g [(t + 4)]
 have hRl3 := hR7.lendTo hS3 (by simp)
 refine WP.regw (g' := GW.lend g [(t + 4)]) rfl ?_
 have hcal7 := P.state_of (GW.lend g [(t + 4)]) str_0 d1 l4 a7 n4 c5 hRl3 d4 hk7
 refine WP.callC hcal7 (by kernel_rfl) ?_
 rintro _ g24 st24 rfl
 have st25 := (GW.back_step st24).lentS
 have hO3 := hR7.backTo hS3 (by simp) st24 (fun x => x)
 refine WP.regw (g' := GW.back g g24 [(t + 4)]) rfl ?_
 generalize GW.back g g24 [(t + 4)] = g25 at *
 replace hB1 := hB1.mono st25 (WL.no1 (by omega))
 replace hR1 := hR1.mono st25 (WL.no1 (by omega))
 replace hB2 := hB2.mono st25 (WL.no1 (by omega))
 replace tot := tot.trans (st25.up1 (.inr (by omega)))
 clear hR7
 have hR7 : OwnS (Kd.slice 5 (Kd.int .u8)) g25 (t + 4) 74 a7 n4 c5 l4 := hO3
 clear hO3
 refine WP.storeB (ty := 47) (off := 0) (v := AG [encA .u8 d4]) hB2 [encA .u8 d4] [8] (by kernel_rfl) (by kernel_rfl) (by simp [len_encA]) (by kernel_rfl) [encA .u8 d4] (by kernel_rfl) (.arr .nil) ?_
 intro g26 st26 hB5
 replace hB1 := hB1.mono st26 (WL.no1 (by omega))
 replace hR1 := hR1.mono st26 (WL.no1 (by omega))
 replace hR7 := hR7.mono st26 (WL.no1 (by omega)) (WL.no1 (by omega))
 replace tot := tot.trans (st26.up1 (.inr (by omega)))
 clear hB2
 have hB2 := hB5
 clear hB5
 refine WP.dn ?_
 refine NX.then_n ?_
 refine CP.ret ?_
 replace hs := Option.some.inj hs
 obtain rfl := hs
 exact NX.fin (v := AG [encA .u8 d4]) (Res.one rfl (RV.box (agg := true) (size := 8) (rs := [encA .u8 d4]) hB2 (by kernel_rfl) (by kernel_rfl) (by kernel_rfl) (by kernel_rfl))) tot htL rfl
def F.notary_NewBook : Option ((List (S_notary_entry × Int))) := (some ([] : (List (S_notary_entry × Int))))
theorem P.notary_NewBook (g0 : GW) (r0 : Nat) (r1 : Nat) (o1 : (List (S_notary_entry × Int))) (hs : F.notary_NewBook = some o1) :
  Calls Try.prog 31 #[] g0.w (Ret NoM g0 fun v g => ∃ (b_1 : Nat) (b_2 : Nat), v = .pointer (some ⟨b_1, 0, none⟩) ∧ Box g r0 b_1 91 [[.slice none 0 0], [.map (some b_2)]] [1, 1] ∧ MapB g r1 b_2 kv_S_notary_entry (Value.int .i64) o1) := by
 refine calls_of (args := []) Try.func31 rfl (r0 + r1 + 0) ?_
 intro t ht htL
 refine ⟨_, rfl, ?_⟩
 refine CP.refr 4 [] (by kernel_rfl) (by kernel_rfl) ?_
 intro ds
 have tot : Step (fun l => NoM l ∨ t ≤ l) g0 g0 := Step.refl _ _
 unfold F.notary_NewBook at hs
 refine CP.seqR ?_
 refine WP.stl 1 ?_
 refine WP.dn ?_
 refine NX.then_n ?_
 refine CP.seqR ?_
 refine WP.mkMap (t + 1) kv_S_notary_entry (Value.int .i64) (by kernel_rfl) ?_
 intro g1 b1 st1 hB1
 replace tot := tot.trans st1.pure
 refine WP.stl 1 ?_
 refine WP.alloc (T := 91) (t + 2) [[.slice none 0 0], [.map (some b1)]] [1, 1] (by kernel_rfl) rfl ?_
 intro g2 b2 st2 hB2
 replace hB1 := hB1.mono st2 (fun x => x)
 replace tot := tot.trans st2.pure
 refine WP.stl 1 ?_
 refine WP.dn ?_
 refine NX.then_n ?_
 refine CP.ret ?_
 obtain ⟨g3, hw1, st3, hnew⟩ := hB2.relab r0
 refine NX.regw hw1 ?_
 replace hB1 := hB1.mono st3 (WL.no1 (by omega))
 replace tot := tot.trans (st3.up1 (.inr (by omega)))
 clear hB2
 have hB2 := hnew
 clear hnew
 obtain ⟨g4, hw2, st4, hnew⟩ := hB1.relab r1
 refine NX.regw hw2 ?_
 replace hB2 := hB2.mono st4 (WL.no1 (by omega))
 replace tot := tot.trans (st4.up1 (.inr (by omega)))
 clear hB1
 have hB1 := hnew
 clear hnew
 replace hs := Option.some.inj hs
 obtain rfl := hs
 exact NX.fin (v := .pointer (some ⟨b2, 0, none⟩)) (Res.still (by kernel_rfl)) tot htL ⟨b2, b1, rfl, hB2, hB1⟩
def F.notary_Book_Signer (l1 : List S_notary_entry) (w1 : (List (S_notary_entry × Int))) (d1 : Arr Int 8) : Option ((Arr Int 8)) := (some d1)
theorem P.notary_Book_Signer (g0 : GW) (m0 : Nat) (m1 : Nat) (l1 : List S_notary_entry) (w1 : (List (S_notary_entry × Int))) (d1 : Arr Int 8) (a1 : Option Addr) (n1 : Nat) (c1 : Nat) (b1 : Nat) (b2 : Nat) (hR1 : RdS k_S_notary_entry g0 136 a1 n1 c1 l1) (hB1 : MapB g0 m1 b2 kv_S_notary_entry (Value.int .i64) w1) (hB2 : Box g0 m0 b1 91 [[.slice a1 n1 c1], [.map (some b2)]] [1, 1]) (hm1_0 : m1 ≠ m0) (hm0 : m0 ≠ 0) (hm1 : m1 ≠ 0) (o1 : Arr Int 8) (hs : F.notary_Book_Signer l1 w1 d1 = some o1) :
  Calls Try.prog 32 #[.pointer (some ⟨b1, 0, none⟩), AG [encA .u8 d1]] g0.w (Ret NoM g0 fun v g => v = .iface 93 (AG [[.pointer (some ⟨b1, 0, none⟩)], encA .u8 o1])) := by
 refine calls_of (args := [.pointer (some ⟨b1, 0, none⟩), AG [encA .u8 d1]]) Try.func32 rfl (m0 + m1 + 0) ?_
 intro t ht htL
 refine ⟨_, rfl, ?_⟩
 refine CP.refr 9 [(0, .pointer (some ⟨b1, 0, none⟩)), (1, AG [encA .u8 d1])] (by kernel_rfl) (by kernel_rfl) ?_
 intro ds
 have tot : Step (fun l => NoM l ∨ t ≤ l) g0 g0 := Step.refl _ _
 unfold F.notary_Book_Signer at hs
 refine CP.seqR ?_
 refine WP.alloc (T := 47) (t + 1) [encA .u8 d1] [8] (by kernel_rfl) (by simp [len_encA]) ?_
 intro g1 b3 st1 hB3
 replace hB2 := hB2.mono st1 (fun x => x)
 replace hR1 := hR1.mono st1 (fun x => x)
 replace hB1 := hB1.mono st1 (fun x => x)
 replace tot := tot.trans st1.pure
 refine WP.stl 1 ?_
 refine WP.dn ?_
 refine NX.then_n ?_
 refine CP.seqR ?_
 refine WP.stl 1 ?_
 refine WP.loadB (v := AG [encA .u8 d1]) hB3 (by kernel_rfl) (by kernel_rfl) ?_
 refine WP.buildS (places := #[(0, 1), (1, 8)]) (t := 93) [[.pointer none], encA .u8 (zA 8)] [1, 8] (by kernel_rfl) (by kernel_rfl) (by simp [len_encA]) (by kernel_rfl) ((.cons (i := 0) (off := 0) (v := .pointer (some ⟨b1, 0, none⟩)) (mid := [[.pointer (some ⟨b1, 0, none⟩)], encA .u8 (zA 8)]) [[.pointer (some ⟨b1, 0, none⟩)]] [1] (by kernel_rfl) (by kernel_rfl) rfl (by kernel_rfl) (.cons (i := 1) (off := 1) (v := AG [encA .u8 d1]) (mid := [[.pointer (some ⟨b1, 0, none⟩)], encA .u8 d1]) [encA .u8 d1] [8] (by kernel_rfl) (by kernel_rfl) (by simp [len_encA]) (by kernel_rfl) .nil))) ?_
 refine WP.stl 2 ?_
 refine WP.dn ?_
 refine NX.then_n ?_
 refine CP.ret ?_
 replace hs := Option.some.inj hs
 obtain rfl := hs
 exact NX.fin (v := .iface 93 (AG [[.pointer (some ⟨b1, 0, none⟩)], encA .u8 d1])) (Res.still (by kernel_rfl)) tot htL rfl
def F.baizelaw35_at.c1 (q1 : Bool) : Option (Bool) := (some q1)
def F.baizelaw35_at (l1 : List Bool) (x1 : Int) : Option (Bool) := (if decide (x1 < (l1.length : Int)) = true then (if (0 : Int) ≤ x1 ∧ x1 < (l1.length : Int) then (F.baizelaw35_at.c1 (getI l1 x1)) else none) else (F.baizelaw35_at.c1 false))
theorem P.baizelaw35_at (g0 : GW) (l1 : List Bool) (x1 : Int) (a1 : Option Addr) (n1 : Nat) (c1 : Nat) (hR1 : RdS Kd.bool g0 4 a1 n1 c1 l1) (o1 : Bool) (hs : F.baizelaw35_at l1 x1 = some o1) :
  Calls Try.prog 17 #[.slice a1 n1 c1, .int .i64 x1] g0.w (Ret NoM g0 fun v g => v = .bool o1) := by
 refine calls_of (args := [.slice a1 n1 c1, .int .i64 x1]) Try.func17 rfl (0) ?_
 intro t ht htL
 refine ⟨_, rfl, ?_⟩
 refine CP.refr 15 [(0, .slice a1 n1 c1), (1, .int .i64 x1)] (by kernel_rfl) (by kernel_rfl) ?_
 intro ds
 have tot : Step (fun l => NoM l ∨ t ≤ l) g0 g0 := Step.refl _ _
 unfold F.baizelaw35_at at hs
 refine CP.seqR ?_
 refine WP.stl 1 ?_
 refine WP.dn ?_
 refine NX.then_n ?_
 refine CP.cut (fun tm g => ∃ (q1 : Bool), Fr 15 [(4, .bool q1)] tm ∧ Step (fun l => NoM l ∨ t ≤ l) g0 g ∧ (F.baizelaw35_at.c1 q1) = some o1) ?_ ?_
 ·refine CP.region ?_
  refine WP.stl 2 ?_
  refine WP.len (a := a1) (cp := c1) hR1.len (by kernel_rfl) ?_
  refine WP.stl 2 ?_
  refine WP.guard 9 (b := decide (x1 < (l1.length : Int))) (by kernel_rfl) (fun h2 => ?_) (fun h2 => ?_)
  ·replace hs := of_if_t hs h2
   refine WP.stl 2 ?_
   by_cases hc2 : (0 : Int) ≤ x1 ∧ x1 < (l1.length : Int)
   case neg => rw [if_neg hc2] at hs; cases hs
   replace hs := of_if_p hs hc2
   obtain ⟨b2, u2, ha2⟩ := hR1.at hc2
   refine WP.indexA (t := 28) (e := 4) (sz := 1) (cap := c1) (k := .i64) (i := x1) hR1.len ha2 (by kernel_rfl) (by kernel_rfl) hc2 ?_
   obtain ⟨cs2, hcR2, hcV2⟩ := hR1.src.view (getI_some hc2) ha2
   replace hcR2 := Kd.o_bool hcR2
   refine WP.loadV [[.bool (getI l1 x1)]] [1] hcV2 hcR2 rfl (f := 0) (ty := 4) (agg := false) (size := 1) (rs := [[.bool (getI l1 x1)]]) (v := .bool (getI l1 x1)) (by kernel_rfl) (by kernel_rfl) (by kernel_rfl) (by kernel_rfl) ?_
   refine WP.stl 2 ?_
   refine WP.dn ?_
   refine NX.post ?_
   exact ⟨(getI l1 x1), ⟨by kernel_rfl, by kernel_rfl⟩, tot, hs⟩
  replace hs := of_if_f hs h2
  refine WP.stl 6 ?_
  refine WP.dn ?_
  refine NX.post ?_
  exact ⟨false, ⟨by kernel_rfl, by kernel_rfl⟩, tot, hs⟩
 clear tot hs hR1
 rintro tm g ⟨q1, hF, tot, hs⟩
 clear ds
 obtain ⟨ds, rfl⟩ := hF.open
 clear hF
 unfold F.baizelaw35_at.c1 at hs
 refine CP.ret ?_
 replace hs := Option.some.inj hs
 obtain rfl := hs
 exact NX.fin (v := .bool q1) (Res.still (by kernel_rfl)) tot htL rfl
def N.notary_bookSigner_Sign_0 : List (List Nat) := [[], [0], [0, 1], [0, 1, 2], [], [0, 1, 2, 3, 4], [0, 1, 2, 3, 4, 5], [0, 1, 2, 3, 4, 5, 6], [0, 1, 2, 3, 4, 5, 6], [0, 1, 2, 3, 4, 5, 6, 7], [0, 1, 2, 3, 4, 5, 6, 7, 8, 9]]
def F.notary_bookSigner_Sign.c1 (l2 : List S_notary_entry) (w2 : (List (S_notary_entry × Int))) (x1 : Int) : Option ((List Int) × Int × (List (S_notary_entry × Int)) × (List S_notary_entry)) := (some ([(IntKind.u8.wrap x1), (IntKind.u8.wrap (shV false .i64 x1 8))], 0, w2, l2))
def N.notary_bookSigner_Sign_1 : List (List Nat) := [[], [], [1], [1, 2], [1, 2, 3], [], [5], [1, 2, 3, 4, 5, 6], [0, 1, 2, 3, 4, 5, 6, 7], [0, 1, 2, 3, 4, 5, 6, 7, 8], [0, 1, 2, 3, 4, 5, 6, 7, 8, 9]]
def F.notary_bookSigner_Sign (l1 : List S_notary_entry) (w1 : (List (S_notary_entry × Int))) (d1 : Arr Int 8) (d2 : Arr Int 8) : Option ((List Int) × Int × (List (S_notary_entry × Int)) × (List S_notary_entry)) := (if (!((mapGet eqk_S_notary_entry 0 w1 (⟨d1, d2⟩ : S_notary_entry)).2)) = true then (if ((l1.length : Int) == 65536) = true then (some ([], 17, w1, l1)) else (if l1.length + ([(⟨d1, d2⟩ : S_notary_entry)]).length ≤ 8796093022208 then (F.notary_bookSigner_Sign.c1 (l1 ++ [(⟨d1, d2⟩ : S_notary_entry)]) (mapSet eqk_S_notary_entry w1 (⟨d1, d2⟩ : S_notary_entry) (l1.length : Int)) (l1.length : Int)) else none)) else (F.notary_bookSigner_Sign.c1 l1 w1 ((mapGet eqk_S_notary_entry 0 w1 (⟨d1, d2⟩ : S_notary_entry)).1)))
theorem P.notary_bookSigner_Sign (g0 : GW) (m0 : Nat) (m1 : Nat) (m2 : Nat) (r0 : Nat) (l1 : List S_notary_entry) (w1 : (List (S_notary_entry × Int))) (d1 : Arr Int 8) (d2 : Arr Int 8) (a1 : Option Addr) (n1 : Nat) (c1 : Nat) (b1 : Nat) (b2 : Nat) (hR1 : OwnS k_S_notary_entry g0 m1 136 a1 n1 c1 l1) (hB1 : MapB g0 m2 b2 kv_S_notary_entry (Value.int .i64) w1) (hB2 : Box g0 m0 b1 91 [[.slice a1 n1 c1], [.map (some b2)]] [1, 1]) (hm1_0 : m1 ≠ m0) (hm2_0 : m2 ≠ m0) (hm2_1 : m2 ≠ m1) (hm0 : m0 ≠ 0) (hm1 : m1 ≠ 0) (hm2 : m2 ≠ 0) (o1 : List Int) (o2 : Int) (o3 : (List (S_notary_entry × Int))) (o4 : (List S_notary_entry)) (hs : F.notary_bookSigner_Sign l1 w1 d1 d2 = some (o1, o2, o3, o4)) :
  Calls Try.prog 82 #[AG [[.pointer (some ⟨b1, 0, none⟩)], encA .u8 d1], AG [encA .u8 d2]] g0.w (Ret (WL [m2, m0, m1]) g0 fun v g => ∃ (a_1 : Option Addr) (n_1 : Nat) (c_1 : Nat) (a_4 : Option Addr) (n_4 : Nat) (c_4 : Nat), v = .tuple #[.slice a_1 n_1 c_1, .int .i64 o2] ∧ OwnS (Kd.int .u8) g r0 5 a_1 n_1 c_1 o1 ∧ MapB g m2 b2 kv_S_notary_entry (Value.int .i64) o3 ∧ OwnS k_S_notary_entry g m1 136 a_4 n_4 c_4 o4 ∧ Box g m0 b1 91 [[.slice a_4 n_4 c_4], [.map (some b2)]] [1, 1]) := by
 refine calls_of (args := [AG [[.pointer (some ⟨b1, 0, none⟩)], encA .u8 d1], AG [encA .u8 d2]]) Try.func82 rfl (m0 + m1 + m2 + r0 + 0) ?_
 intro t ht htL
 refine ⟨_, rfl, ?_⟩
 refine CP.refr 62 [(0, AG [[.pointer (some ⟨b1, 0, none⟩)], encA .u8 d1]), (1, AG [encA .u8 d2])] (by kernel_rfl) (by kernel_rfl) ?_
 intro ds
 have tot : Step (fun l => (WL [m2, m0, m1]) l ∨ t ≤ l) g0 g0 := Step.refl _ _
 unfold F.notary_bookSigner_Sign at hs
 refine CP.seqR ?_
 refine WP.alloc (T := 93) (t + 1) [[.pointer (some ⟨b1, 0, none⟩)], encA .u8 d1] [1, 8] (by kernel_rfl) (by simp [len_encA]) ?_
 intro g1 b3 st1 hB3
 replace hB2 := hB2.mono st1 (fun x => x)
 replace hR1 := hR1.mono st1 (fun x => x) (fun x => x)
 replace hB1 := hB1.mono st1 (fun x => x)
 replace tot := tot.trans st1.pure
 refine WP.alloc (T := 47) (t + 2) [encA .u8 d2] [8] (by kernel_rfl) (by simp [len_encA]) ?_
 intro g2 b4 st2 hB4
 replace hB2 := hB2.mono st2 (fun x => x)
 replace hR1 := hR1.mono st2 (fun x => x) (fun x => x)
 replace hB1 := hB1.mono st2 (fun x => x)
 replace hB3 := hB3.mono st2 (fun x => x)
 replace tot := tot.trans st2.pure
 refine WP.stl 2 ?_
 refine WP.dn ?_
 refine NX.then_n ?_
 refine CP.seqR ?_
 refine WP.stl 1 ?_
 refine WP.loadB (v := .pointer (some ⟨b1, 0, none⟩)) hB3 (by kernel_rfl) (by kernel_rfl) ?_
 refine WP.stl 1 ?_
 refine WP.dn ?_
 refine NX.then_n ?_
 refine CP.seq ?_
 refine CP.seqR ?_
 refine WP.stl 2 ?_
 refine WP.dn ?_
 refine NX.then_n ?_
 refine CP.cond_f (by kernel_rfl) ?_
 refine CP.skip ?_
 refine NX.then_n ?_
 refine CP.seqR ?_
 refine WP.stl 1 ?_
 refine WP.loadB (v := AG [encA .u8 d1]) hB3 (by kernel_rfl) (by kernel_rfl) ?_
 refine WP.loadB (v := AG [encA .u8 d2]) hB4 (by kernel_rfl) (by kernel_rfl) ?_
 refine WP.buildS (places := #[(0, 8), (8, 8)]) (t := 136) [encA .u8 (zA 8), encA .u8 (zA 8)] [8, 8] (by kernel_rfl) (by kernel_rfl) (by simp [len_encA]) (by kernel_rfl) ((.cons (i := 0) (off := 0) (v := AG [encA .u8 d1]) (mid := [encA .u8 d1, encA .u8 (zA 8)]) [encA .u8 d1] [8] (by kernel_rfl) (by kernel_rfl) (by simp [len_encA]) (by kernel_rfl) (.cons (i := 1) (off := 8) (v := AG [encA .u8 d2]) (mid := [encA .u8 d1, encA .u8 d2]) [encA .u8 d2] [8] (by kernel_rfl) (by kernel_rfl) (by simp [len_encA]) (by kernel_rfl) .nil))) ?_
 refine WP.alloc (T := 136) (t + 3) [encA .u8 (zA 8), encA .u8 (zA 8)] [8, 8] (by kernel_rfl) (by simp [len_encA]) ?_
 intro g3 b5 st3 hB5
 replace hB1 := hB1.mono st3 (fun x => x)
 replace hB2 := hB2.mono st3 (fun x => x)
 replace hR1 := hR1.mono st3 (fun x => x) (fun x => x)
 replace hB3 := hB3.mono st3 (fun x => x)
 replace hB4 := hB4.mono st3 (fun x => x)
 replace tot := tot.trans st3.pure
 refine WP.storeB (ty := 136) (off := 0) (v := AG [encA .u8 d1, encA .u8 d2]) hB5 [encA .u8 d1, encA .u8 d2] [8, 8] (by kernel_rfl) (by kernel_rfl) (by simp [len_encA]) (by kernel_rfl) [encA .u8 d1, encA .u8 d2] (by kernel_rfl) (.arr (.arr .nil)) ?_
 intro g4 st4 hB6
 replace hB1 := hB1.mono st4 (WL.no1 (by omega))
 replace hB2 := hB2.mono st4 (WL.no1 (by omega))
 replace hR1 := hR1.mono st4 (WL.no1 (by omega)) (WL.no1 (by omega))
 replace hB3 := hB3.mono st4 (WL.no1 (by omega))
 replace hB4 := hB4.mono st4 (WL.no1 (by omega))
 replace tot := tot.trans (st4.up1 (.inr (by omega)))
 clear hB5
 have hB5 := hB6
 clear hB6
 refine WP.dn ?_
 refine NX.then_n ?_
 refine CP.refr 62 [(6, .pointer (some ⟨b1, 0, none⟩)), (7, .pointer (some ⟨b5, 0, none⟩))] (by kernel_rfl) (by kernel_rfl) ?_
 clear ds
 intro ds
 refine CP.seq ?_
 refine CP.drawL (by kernel_rfl) [3, 4, 5] N.notary_bookSigner_Sign_0 [⟨none, [], [], fun l g => MapB g m2 b2 kv_S_notary_entry (Value.int .i64) w1⟩, ⟨none, [], [], fun l g => Box g m0 b1 91 [[.slice a1 n1 c1], [.map (some b2)]] [1, 1]⟩, ⟨none, [], [], fun l g => Box g (t + 3) b5 136 [encA .u8 d1, encA .u8 d2] [8, 8]⟩, ⟨some 0, [], [0], fun l g => l.getD 0 undef = .map (some b2)⟩, ⟨some 1, [], [1], fun l g => l.getD 0 undef = AG [encA .u8 d1, encA .u8 d2]⟩, ⟨some 2, [], [2], fun l g => l.getD 0 undef = .tuple #[.int .i64 ((mapGet eqk_S_notary_entry 0 w1 (⟨d1, d2⟩ : S_notary_entry)).1), .bool ((mapGet eqk_S_notary_entry 0 w1 (⟨d1, d2⟩ : S_notary_entry)).2)]⟩] [[], [], []] [] [0, 1, 2] [6, 7, 8, 9, 10] (by kernel_rfl) (by simp) (by simp) ⟨fun _ _ _ _ st h0 hl hj hB1 => (hB1.mono st (fun h => absurd (hl _ h) (by simp))), fun _ _ _ _ st h0 hl hj hB2 => (hB2.mono st (fun h => absurd (hl _ h) (by simp))), fun _ _ _ _ st h0 hl hj hB5 => (hB5.mono st (fun h => absurd (hl _ h) (by simp))), fun _ _ _ _ st h0 hl hj e0 => e0, fun _ _ _ _ st h0 hl hj e1 => e1, fun _ _ _ _ st h0 hl hj e2 => e2, tv⟩ ⟨hB1, hB2, hB5, tv, tv, tv, tv⟩ (by kernel_rfl) (fun vs => by kernel_rfl) ?_ ?_ ?_
 ·intro j hj
  have hq : j = 0 ∨ j = 1 ∨ j = 2 ∨ j = 3 ∨ j = 4 := by have h : j < 5 := hj; omega
  rcases hq with rfl | rfl | rfl | rfl | rfl
  ·intro vs gq stq hl hf
   obtain ⟨v0, v1, v2, rfl⟩ := len_k3 hl
   have e2 := (show v2 = .tuple #[.int .i64 ((mapGet eqk_S_notary_entry 0 w1 (⟨d1, d2⟩ : S_notary_entry)).1), .bool ((mapGet eqk_S_notary_entry 0 w1 (⟨d1, d2⟩ : S_notary_entry)).2)] from hf _ (memI 5 rfl) (by kernel_rfl))
   subst e2
   show Option.isSome _ = true
   kernel_rfl
  ·intro vs gq stq hl hf
   obtain ⟨v0, v1, v2, rfl⟩ := len_k3 hl
   have e2 := (show v2 = .tuple #[.int .i64 ((mapGet eqk_S_notary_entry 0 w1 (⟨d1, d2⟩ : S_notary_entry)).1), .bool ((mapGet eqk_S_notary_entry 0 w1 (⟨d1, d2⟩ : S_notary_entry)).2)] from hf _ (memI 5 rfl) (by kernel_rfl))
   subst e2
   show Option.isSome _ = true
   kernel_rfl
  ·intro vs gq stq hl hf
   obtain ⟨v0, v1, v2, rfl⟩ := len_k3 hl
   have e2 := (show v2 = .tuple #[.int .i64 ((mapGet eqk_S_notary_entry 0 w1 (⟨d1, d2⟩ : S_notary_entry)).1), .bool ((mapGet eqk_S_notary_entry 0 w1 (⟨d1, d2⟩ : S_notary_entry)).2)] from hf _ (memI 5 rfl) (by kernel_rfl))
   subst e2
   show Option.isSome _ = true
   kernel_rfl
  ·intro vs gq stq hl hf
   obtain ⟨v0, v1, v2, rfl⟩ := len_k3 hl
   have e2 := (show v2 = .tuple #[.int .i64 ((mapGet eqk_S_notary_entry 0 w1 (⟨d1, d2⟩ : S_notary_entry)).1), .bool ((mapGet eqk_S_notary_entry 0 w1 (⟨d1, d2⟩ : S_notary_entry)).2)] from hf _ (memI 5 rfl) (by kernel_rfl))
   subst e2
   show Option.isSome _ = true
   kernel_rfl
  ·intro vs gq stq hl hf
   obtain ⟨v0, v1, v2, rfl⟩ := len_k3 hl
   have e2 := (show v2 = .tuple #[.int .i64 ((mapGet eqk_S_notary_entry 0 w1 (⟨d1, d2⟩ : S_notary_entry)).1), .bool ((mapGet eqk_S_notary_entry 0 w1 (⟨d1, d2⟩ : S_notary_entry)).2)] from hf _ (memI 5 rfl) (by kernel_rfl))
   subst e2
   show Option.isSome _ = true
   kernel_rfl
 ·intro j hj
  have hq : j = 0 ∨ j = 1 ∨ j = 2 := by have h : j < 3 := hj; omega
  rcases hq with rfl | rfl | rfl
  ·intro vs gq stq hl hf
   obtain ⟨v0, v1, v2, rfl⟩ := len_k3 hl
   have hB2 := (show Box gq m0 b1 91 [[.slice a1 n1 c1], [.map (some b2)]] [1, 1] from hf _ (memI 1 rfl) (by kernel_rfl))
   refine WP.loadB (v := .map (some b2)) hB2 (by kernel_rfl) (by kernel_rfl) ?_
   refine WP.dn (Shown.ok (v := .map (some b2)) (by kernel_rfl) (Step.refl _ _) ?_)
   exact ⟨tv, tv, tv, rfl, tv, tv, tv⟩
  ·intro vs gq stq hl hf
   obtain ⟨v0, v1, v2, rfl⟩ := len_k3 hl
   have hB5 := (show Box gq (t + 3) b5 136 [encA .u8 d1, encA .u8 d2] [8, 8] from hf _ (memI 2 rfl) (by kernel_rfl))
   refine WP.loadB (v := AG [encA .u8 d1, encA .u8 d2]) hB5 (by kernel_rfl) (by kernel_rfl) ?_
   refine WP.dn (Shown.ok (v := AG [encA .u8 d1, encA .u8 d2]) (by kernel_rfl) (Step.refl _ _) ?_)
   exact ⟨tv, tv, tv, tv, rfl, tv, tv⟩
  ·intro vs gq stq hl hf
   obtain ⟨v0, v1, v2, rfl⟩ := len_k3 hl
   have hB1 := (show MapB gq m2 b2 kv_S_notary_entry (Value.int .i64) w1 from hf _ (memI 0 rfl) (by kernel_rfl))
   have e0 := (show v0 = .map (some b2) from hf _ (memI 3 rfl) (by kernel_rfl))
   subst e0
   have e1 := (show v1 = AG [encA .u8 d1, encA .u8 d2] from hf _ (memI 4 rfl) (by kernel_rfl))
   subst e1
   refine WP.mapGet (et := 3) (z := 0) (k := (⟨d1, d2⟩ : S_notary_entry)) hB1 keyOk_S_notary_entry (by kernel_rfl) (by kernel_rfl) ?_
   refine WP.dn (Shown.ok (v := .tuple #[.int .i64 ((mapGet eqk_S_notary_entry 0 w1 (⟨d1, d2⟩ : S_notary_entry)).1), .bool ((mapGet eqk_S_notary_entry 0 w1 (⟨d1, d2⟩ : S_notary_entry)).2)]) (by kernel_rfl) (Step.refl _ _) ?_)
   exact ⟨tv, tv, tv, tv, tv, rfl, tv⟩
 intro vs g5 st5 hl hf
 obtain ⟨v0, v1, v2, rfl⟩ := len_k3 hl
 have e2 := (show v2 = .tuple #[.int .i64 ((mapGet eqk_S_notary_entry 0 w1 (⟨d1, d2⟩ : S_notary_entry)).1), .bool ((mapGet eqk_S_notary_entry 0 w1 (⟨d1, d2⟩ : S_notary_entry)).2)] from hf _ (memI 5 rfl) (by kernel_rfl))
 subst e2
 replace hB1 := hB1.mono st5.toNo (fun x => x)
 replace hB2 := hB2.mono st5.toNo (fun x => x)
 replace hR1 := hR1.mono st5.toNo (fun x => x) (fun x => x)
 replace hB5 := hB5.mono st5.toNo (fun x => x)
 replace tot := tot.trans st5.toNo.pure
 refine NX.then_n ?_
 refine CP.refr 62 [(6, .pointer (some ⟨b1, 0, none⟩)), (7, .pointer (some ⟨b5, 0, none⟩)), (8, .int .i64 ((mapGet eqk_S_notary_entry 0 w1 (⟨d1, d2⟩ : S_notary_entry)).1)), (9, .bool ((mapGet eqk_S_notary_entry 0 w1 (⟨d1, d2⟩ : S_notary_entry)).2))] (by kernel_rfl) (by kernel_rfl) ?_
 clear ds
 intro ds
 refine CP.cut (fun tm g => ∃ (l2 : List S_notary_entry) (a4 : Option Addr) (n2 : Nat) (c3 : Nat) (w2 : (List (S_notary_entry × Int))) (x1 : Int), Fr 62 [(8, .int .i64 x1)] tm ∧ Step (fun l => (WL [m2, m0, m1]) l ∨ t ≤ l) g0 g ∧ Box g m0 b1 91 [[.slice a4 n2 c3], [.map (some b2)]] [1, 1] ∧ OwnS k_S_notary_entry g m1 136 a4 n2 c3 l2 ∧ MapB g m2 b2 kv_S_notary_entry (Value.int .i64) w2 ∧ (F.notary_bookSigner_Sign.c1 l2 w2 x1) = some (o1, o2, o3, o4)) ?_ ?_
 ·refine CP.seqR ?_
  refine WP.stl 2 ?_
  refine WP.dn ?_
  refine NX.then_n ?_
  refine CP.cond (b := (!((mapGet eqk_S_notary_entry 0 w1 (⟨d1, d2⟩ : S_notary_entry)).2))) (by kernel_rfl) (fun h3 => ?_) (fun h3 => ?_)
  ·replace hs := of_if_t hs h3
   refine CP.seq ?_
   refine CP.seqR ?_
   refine WP.stl 3 ?_
   refine WP.loadB (v := .slice a1 n1 c1) hB2 (by kernel_rfl) (by kernel_rfl) ?_
   refine WP.len (a := a1) (cp := c1) hR1.len (by kernel_rfl) ?_
   refine WP.stl 1 ?_
   refine WP.dn ?_
   refine NX.then_n ?_
   refine CP.cond (b := ((l1.length : Int) == 65536)) (by kernel_rfl) (fun h4 => ?_) (fun h4 => ?_)
   ·replace hs := of_if_t hs h4
    refine CP.seqR ?_
    refine WP.stl 2 ?_
    refine WP.dn ?_
    refine NX.then_n ?_
    refine CP.ret ?_
    refine NX.then_r ?_
    refine NX.then_r ?_
    replace hs := Option.some.inj hs
    simp only [Prod.mk.injEq] at hs
    obtain ⟨rfl, rfl, rfl, rfl⟩ := hs
    exact NX.fin (v := .tuple #[.slice none 0 0, .int .i64 17]) (Res.still (by kernel_rfl)) tot htL ⟨none, 0, 0, a1, n1, c1, rfl, (OwnS.nil _ _ _ _), hB1, hR1, hB2⟩
   replace hs := of_if_f hs h4
   refine CP.skip ?_
   refine NX.then_n ?_
   refine CP.seqR ?_
   refine WP.stl 3 ?_
   refine WP.loadB (v := .slice a1 n1 c1) hB2 (by kernel_rfl) (by kernel_rfl) ?_
   refine WP.len (a := a1) (cp := c1) hR1.len (by kernel_rfl) ?_
   refine WP.stl 1 ?_
   refine WP.dn ?_
   refine NX.then_n ?_
   refine CP.refr 62 [(6, .pointer (some ⟨b1, 0, none⟩)), (7, .pointer (some ⟨b5, 0, none⟩)), (8, .int .i64 (l1.length : Int))] (by kernel_rfl) (by kernel_rfl) ?_
   clear ds
   intro ds
   refine CP.seq ?_
   by_cases hc2 : l1.length + ([(⟨d1, d2⟩ : S_notary_entry)]).length ≤ 8796093022208
   case neg => rw [if_neg hc2] at hs; cases hs
   replace hs := of_if_p hs hc2
   refine CP.drawL (by kernel_rfl) [4, 5, 6, 7, 10] N.notary_bookSigner_Sign_1 [⟨none, [1], [], fun l g => Box g m0 b1 91 [[.slice a1 n1 c1], [.map (some b2)]] [1, 1]⟩, ⟨none, [0], [], fun l g => OwnS k_S_notary_entry g m1 136 a1 n1 c1 l1⟩, ⟨none, [], [], fun l g => Box g (t + 3) b5 136 [encA .u8 d1, encA .u8 d2] [8, 8]⟩, ⟨some 0, [], [0], fun l g => l.getD 0 undef = .slice a1 n1 c1⟩, ⟨some 1, [], [1], fun l g => l.getD 0 undef = AG [encA .u8 d1, encA .u8 d2]⟩, ⟨some 2, [], [2], fun l g => ∃ (a6 : Option Addr), l.getD 0 undef = .slice a6 1 1 ∧ OwnS k_S_notary_entry g (t + 6) 136 a6 1 1 ([(⟨d1, d2⟩ : S_notary_entry)])⟩, ⟨some 3, [0], [3], fun l g => ∃ (a7 : Option Addr) (c4 : Nat), l.getD 0 undef = .slice a7 (n1 + 1) c4 ∧ OwnS k_S_notary_entry g m1 136 a7 (n1 + 1) c4 (l1 ++ [(⟨d1, d2⟩ : S_notary_entry)])⟩, ⟨some 4, [0, 1], [3], fun l g => ∃ (a7 : Option Addr) (c4 : Nat), l.getD 0 undef = .slice a7 (n1 + 1) c4 ∧ OwnS k_S_notary_entry g m1 136 a7 (n1 + 1) c4 (l1 ++ [(⟨d1, d2⟩ : S_notary_entry)]) ∧ Box g m0 b1 91 [[.slice a7 (n1 + 1) c4], [.map (some b2)]] [1, 1]⟩] [[], [], [], [0], [1]] [m1, m0] [0, 1, 2, 3, 8, 9] [] (by kernel_rfl) (by simp <;> omega) (by simp <;> omega) ⟨fun _ _ _ _ st h0 hl hj hB2 => (hB2.mono st (hj 1 (by simp) _ rfl)), fun _ _ _ _ st h0 hl hj hR1 => (hR1.mono st h0 (hj 0 (by simp) _ rfl)), fun _ _ _ _ st h0 hl hj hB5 => (hB5.mono st (fun h => absurd (hl _ h) (by simp <;> omega))), fun _ _ _ _ st h0 hl hj e0 => e0, fun _ _ _ _ st h0 hl hj e1 => e1, fun _ _ _ _ st h0 hl hj ⟨a6, e2, hR6⟩ => ⟨a6, e2, (hR6.mono st h0 (fun h => absurd (hl _ h) (by simp <;> omega)))⟩, fun _ _ _ _ st h0 hl hj ⟨a7, c4, e3, hR7⟩ => ⟨a7, c4, e3, (hR7.mono st h0 (hj 0 (by simp) _ rfl))⟩, fun _ _ _ _ st h0 hl hj ⟨a7, c4, e3, hR7, hB2⟩ => ⟨a7, c4, e3, (hR7.mono st h0 (hj 0 (by simp) _ rfl)), (hB2.mono st (hj 1 (by simp) _ rfl))⟩, tv⟩ ⟨hB2, hR1, hB5, tv, tv, tv, tv, tv, tv⟩ (by kernel_rfl) (fun vs => by kernel_rfl) ?_ ?_ ?_
   ·intro j hj; exact absurd hj (by simp)
   ·intro j hj
    have hq : j = 0 ∨ j = 1 ∨ j = 2 ∨ j = 3 ∨ j = 4 := by have h : j < 5 := hj; omega
    rcases hq with rfl | rfl | rfl | rfl | rfl
    ·intro vs gq stq hl hf
     obtain ⟨v0, v1, v2, v3, v4, rfl⟩ := len_k5 hl
     have hB2 := (show Box gq m0 b1 91 [[.slice a1 n1 c1], [.map (some b2)]] [1, 1] from hf _ (memI 0 rfl) (by kernel_rfl))
     refine WP.loadB (v := .slice a1 n1 c1) hB2 (by kernel_rfl) (by kernel_rfl) ?_
     refine WP.dn (Shown.ok (v := .slice a1 n1 c1) (by kernel_rfl) (Step.refl _ _) ?_)
     exact ⟨tv, tv, tv, rfl, tv, tv, tv, tv, tv⟩
    ·intro vs gq stq hl hf
     obtain ⟨v0, v1, v2, v3, v4, rfl⟩ := len_k5 hl
     have hB5 := (show Box gq (t + 3) b5 136 [encA .u8 d1, encA .u8 d2] [8, 8] from hf _ (memI 2 rfl) (by kernel_rfl))
     refine WP.loadB (v := AG [encA .u8 d1, encA .u8 d2]) hB5 (by kernel_rfl) (by kernel_rfl) ?_
     refine WP.dn (Shown.ok (v := AG [encA .u8 d1, encA .u8 d2]) (by kernel_rfl) (Step.refl _ _) ?_)
     exact ⟨tv, tv, tv, tv, rfl, tv, tv, tv, tv⟩
    ·intro vs gq stq hl hf
     obtain ⟨v0, v1, v2, v3, v4, rfl⟩ := len_k5 hl
     have e1 := (show v1 = AG [encA .u8 d1, encA .u8 d2] from hf _ (memI 4 rfl) (by kernel_rfl))
     subst e1
     refine WP.mkSl (kd := k_S_notary_entry) (t := 89) (e := 136) (bytes := 16) (t + 6) [AG [encA .u8 d1, encA .u8 d2]] [(⟨d1, d2⟩ : S_notary_entry)] (by kernel_rfl) (by kernel_rfl) (Nat.le_of_ble_eq_true rfl) (Nat.le_of_ble_eq_true rfl) (all_cons (Kd.len k_S_notary_entry (g := gq) (x := (⟨d1, d2⟩ : S_notary_entry)) (k_S_notary_entry.mk rfl rfl)) all_nil) (⟨_, _, rfl, (k_S_notary_entry.mk rfl rfl), rfl⟩) rfl ?_
     intro g12 a6 st12 hR6
     refine WP.dn (Shown.o (v := .slice a6 1 1) st12.pure ?_)
     exact ⟨tv, tv, tv, tv, tv, ⟨a6, rfl, hR6⟩, tv, tv, tv⟩
    ·intro vs gq stq hl hf
     obtain ⟨v0, v1, v2, v3, v4, rfl⟩ := len_k5 hl
     have hR1 := (show OwnS k_S_notary_entry gq m1 136 a1 n1 c1 l1 from hf _ (memI 1 rfl) (by kernel_rfl))
     have e0 := (show v0 = .slice a1 n1 c1 from hf _ (memI 3 rfl) (by kernel_rfl))
     subst e0
     obtain ⟨a6, e2, hR6⟩ := (show ∃ (a6 : Option Addr), v2 = .slice a6 1 1 ∧ OwnS k_S_notary_entry gq (t + 6) 136 a6 1 1 ([(⟨d1, d2⟩ : S_notary_entry)]) from hf _ (memI 5 rfl) (by kernel_rfl))
     subst e2
     refine WP.append (kd := k_S_notary_entry) (t := 89) (e := 136) (bytes := 16) (a2 := a6) (c2 := 1) hR1 hR6.src hR6.len (by kernel_rfl) (by kernel_rfl) (by omega) (by simp only [maxLen]; omega) (by omega) ?_
     intro g13 a7 c4 st13 hR7
     refine WP.dn (Shown.o (v := .slice a7 (n1 + 1) c4) st13 ?_)
     exact ⟨tv, tv, tv, tv, tv, tv, ⟨a7, c4, rfl, hR7⟩, tv, tv⟩
    ·intro vs gq stq hl hf
     obtain ⟨v0, v1, v2, v3, v4, rfl⟩ := len_k5 hl
     have hB2 := (show Box gq m0 b1 91 [[.slice a1 n1 c1], [.map (some b2)]] [1, 1] from hf _ (memI 0 rfl) (by kernel_rfl))
     obtain ⟨a7, c4, e3, hR7⟩ := (show ∃ (a7 : Option Addr) (c4 : Nat), v3 = .slice a7 (n1 + 1) c4 ∧ OwnS k_S_notary_entry gq m1 136 a7 (n1 + 1) c4 (l1 ++ [(⟨d1, d2⟩ : S_notary_entry)]) from hf _ (memI 6 rfl) (by kernel_rfl))
     subst e3
     refine WP.storeB (ty := 89) (off := 0) (v := .slice a7 (n1 + 1) c4) hB2 [[.slice a7 (n1 + 1) c4]] [1] (by kernel_rfl) (by kernel_rfl) rfl (by kernel_rfl) [[.slice a7 (n1 + 1) c4], [.map (some b2)]] (by kernel_rfl) (.one rfl .nil) ?_
     intro g14 st14 hB9
     refine WP.dn (Shown.o (v := undef) st14 ?_)
     exact ⟨tv, tv, tv, tv, tv, tv, tv, ⟨a7, c4, rfl, (hR7.mono st14 (WL.no (by simp <;> omega)) (WL.no (by simp <;> omega))), hB9⟩, tv⟩
   intro vs g15 st15 hl hf
   obtain ⟨v0, v1, v2, v3, v4, rfl⟩ := len_k5 hl
   obtain ⟨a7, c4, e3, hR7, hB2⟩ := (show ∃ (a7 : Option Addr) (c4 : Nat), v3 = .slice a7 (n1 + 1) c4 ∧ OwnS k_S_notary_entry g15 m1 136 a7 (n1 + 1) c4 (l1 ++ [(⟨d1, d2⟩ : S_notary_entry)]) ∧ Box g15 m0 b1 91 [[.slice a7 (n1 + 1) c4], [.map (some b2)]] [1, 1] from hf _ (memI 7 rfl) (by kernel_rfl))
   subst e3
   replace hB1 := hB1.mono st15 (WL.no2 (by omega) (by omega))
   replace hB5 := hB5.mono st15 (WL.no2 (by omega) (by omega))
   replace tot := tot.trans (st15.up2 (.inl (by simp [WL])) (.inl (by simp [WL])))
   refine NX.then_n ?_
   refine CP.refr 62 [(6, .pointer (some ⟨b1, 0, none⟩)), (7, .pointer (some ⟨b5, 0, none⟩)), (8, .int .i64 (l1.length : Int))] (by kernel_rfl) (by kernel_rfl) ?_
   clear ds
   intro ds
   refine CP.drawL (by kernel_rfl) [3, 4, 6] [[], [0], [0, 1], [0, 1, 2], [], [], [0, 1, 2, 3, 4, 5]] [⟨none, [0], [], fun l g => MapB g m2 b2 kv_S_notary_entry (Value.int .i64) w1⟩, ⟨none, [], [], fun l g => Box g m0 b1 91 [[.slice a7 (n1 + 1) c4], [.map (some b2)]] [1, 1]⟩, ⟨none, [], [], fun l g => Box g (t + 3) b5 136 [encA .u8 d1, encA .u8 d2] [8, 8]⟩, ⟨some 0, [], [0], fun l g => l.getD 0 undef = .map (some b2)⟩, ⟨some 1, [], [1], fun l g => l.getD 0 undef = AG [encA .u8 d1, encA .u8 d2]⟩, ⟨some 2, [0], [], fun l g => MapB g m2 b2 kv_S_notary_entry (Value.int .i64) (mapSet eqk_S_notary_entry w1 (⟨d1, d2⟩ : S_notary_entry) (l1.length : Int))⟩] [[], [], [0]] [m2] [0, 1, 2, 5] [] (by kernel_rfl) (by simp <;> omega) (by simp) ⟨fun _ _ _ _ st h0 hl hj hB1 => (hB1.mono st (hj 0 (by simp) _ rfl)), fun _ _ _ _ st h0 hl hj hB2 => (hB2.mono st (fun h => absurd (hl _ h) (by simp <;> omega))), fun _ _ _ _ st h0 hl hj hB5 => (hB5.mono st (fun h => absurd (hl _ h) (by simp <;> omega))), fun _ _ _ _ st h0 hl hj e0 => e0, fun _ _ _ _ st h0 hl hj e1 => e1, fun _ _ _ _ st h0 hl hj hB1 => (hB1.mono st (hj 0 (by simp) _ rfl)), tv⟩ ⟨hB1, hB2, hB5, tv, tv, tv, tv⟩ (by kernel_rfl) (fun vs => by kernel_rfl) ?_ ?_ ?_
   ·intro j hj; exact absurd hj (by simp)
   ·intro j hj
    have hq : j = 0 ∨ j = 1 ∨ j = 2 := by have h : j < 3 := hj; omega
    rcases hq with rfl | rfl | rfl
    ·intro vs gq stq hl hf
     obtain ⟨v0, v1, v2, rfl⟩ := len_k3 hl
     have hB2 := (show Box gq m0 b1 91 [[.slice a7 (n1 + 1) c4], [.map (some b2)]] [1, 1] from hf _ (memI 1 rfl) (by kernel_rfl))
     refine WP.loadB (v := .map (some b2)) hB2 (by kernel_rfl) (by kernel_rfl) ?_
     refine WP.dn (Shown.ok (v := .map (some b2)) (by kernel_rfl) (Step.refl _ _) ?_)
     exact ⟨tv, tv, tv, rfl, tv, tv, tv⟩
    ·intro vs gq stq hl hf
     obtain ⟨v0, v1, v2, rfl⟩ := len_k3 hl
     have hB5 := (show Box gq (t + 3) b5 136 [encA .u8 d1, encA .u8 d2] [8, 8] from hf _ (memI 2 rfl) (by kernel_rfl))
     refine WP.loadB (v := AG [encA .u8 d1, encA .u8 d2]) hB5 (by kernel_rfl) (by kernel_rfl) ?_
     refine WP.dn (Shown.ok (v := AG [encA .u8 d1, encA .u8 d2]) (by kernel_rfl) (Step.refl _ _) ?_)
     exact ⟨tv, tv, tv, tv, rfl, tv, tv⟩
    ·intro vs gq stq hl hf
     obtain ⟨v0, v1, v2, rfl⟩ := len_k3 hl
     have hB1 := (show MapB gq m2 b2 kv_S_notary_entry (Value.int .i64) w1 from hf _ (memI 0 rfl) (by kernel_rfl))
     have e0 := (show v0 = .map (some b2) from hf _ (memI 3 rfl) (by kernel_rfl))
     subst e0
     have e1 := (show v1 = AG [encA .u8 d1, encA .u8 d2] from hf _ (memI 4 rfl) (by kernel_rfl))
     subst e1
     refine WP.mapSet (k := (⟨d1, d2⟩ : S_notary_entry)) (v := (l1.length : Int)) hB1 keyOk_S_notary_entry (by kernel_rfl) ?_
     intro g16 st16 hB10
     refine WP.dn (Shown.o (v := undef) st16 ?_)
     exact ⟨tv, tv, tv, tv, tv, hB10, tv⟩
   intro vs g17 st17 hl hf
   obtain ⟨v0, v1, v2, rfl⟩ := len_k3 hl
   have hB1 := (show MapB g17 m2 b2 kv_S_notary_entry (Value.int .i64) (mapSet eqk_S_notary_entry w1 (⟨d1, d2⟩ : S_notary_entry) (l1.length : Int)) from hf _ (memI 5 rfl) (by kernel_rfl))
   replace hB2 := hB2.mono st17 (WL.no1 (by omega))
   replace hR7 := hR7.mono st17 (WL.no1 (by omega)) (WL.no1 (by omega))
   replace tot := tot.trans (st17.up1 (.inl (by simp [WL])))
   refine NX.post ?_
   exact ⟨(l1 ++ [(⟨d1, d2⟩ : S_notary_entry)]), a7, (n1 + 1), c4, (mapSet eqk_S_notary_entry w1 (⟨d1, d2⟩ : S_notary_entry) (l1.length : Int)), (l1.length : Int), ⟨by kernel_rfl, by kernel_rfl⟩, tot, hB2, hR7, hB1, hs⟩
  replace hs := of_if_f hs h3
  refine CP.skip ?_
  refine NX.post ?_
  exact ⟨l1, a1, n1, c1, w1, (mapGet eqk_S_notary_entry 0 w1 (⟨d1, d2⟩ : S_notary_entry)).1, ⟨by kernel_rfl, by kernel_rfl⟩, tot, hB2, hR1, hB1, hs⟩
 clear tot hs hB1 hB2 hR1 hB5
 rintro tm g ⟨l2, a4, n2, c3, w2, x1, hF, tot, hB2, hR4, hB1, hs⟩
 clear ds
 obtain ⟨ds, rfl⟩ := hF.open
 clear hF
 unfold F.notary_bookSigner_Sign.c1 at hs
 refine CP.seqR ?_
 refine WP.stl 5 ?_
 refine WP.mkSl (kd := (Kd.int .u8)) (t := 74) (e := 5) (bytes := 1) (t + 5) [.int .u8 (IntKind.u8.wrap x1), .int .u8 (IntKind.u8.wrap (shV false .i64 x1 8))] [(IntKind.u8.wrap x1), (IntKind.u8.wrap (shV false .i64 x1 8))] (by kernel_rfl) (by kernel_rfl) (Nat.le_of_ble_eq_true rfl) (Nat.le_of_ble_eq_true rfl) (all_cons rfl (all_cons rfl all_nil)) (⟨_, _, rfl, (by exact rfl), ⟨_, _, rfl, (by exact rfl), rfl⟩⟩) rfl ?_
 intro g10 a5 st10 hR5
 replace hB2 := hB2.mono st10 (fun x => x)
 replace hR4 := hR4.mono st10 (fun x => x) (fun x => x)
 replace hB1 := hB1.mono st10 (fun x => x)
 replace tot := tot.trans st10.pure
 refine WP.stl 2 ?_
 refine WP.dn ?_
 refine NX.then_n ?_
 refine CP.ret ?_
 obtain ⟨g11, hw1, st11, hnew⟩ := hR5.relab (by omega) r0
 refine NX.regw hw1 ?_
 replace hB2 := hB2.mono st11 (WL.no1 (by omega))
 replace hR4 := hR4.mono st11 (WL.no1 (by omega)) (WL.no1 (by omega))
 replace hB1 := hB1.mono st11 (WL.no1 (by omega))
 replace tot := tot.trans (st11.up1 (.inr (by omega)))
 clear hR5
 have hR5 := hnew
 clear hnew
 replace hs := Option.some.inj hs
 simp only [Prod.mk.injEq] at hs
 obtain ⟨rfl, rfl, rfl, rfl⟩ := hs
 exact NX.fin (v := .tuple #[.slice a5 2 2, .int .i64 0]) (Res.still (by kernel_rfl)) tot htL ⟨a5, 2, 2, a4, n2, c3, rfl, hR5, hB1, hR4, hB2⟩
def F.baizelaw35_vote_2.c1 (nx1 : (List S_notary_entry) → (List (S_notary_entry × Int)) → (List (Arr Int 8)) → (List (List Int)) → Int → Option ((List S_notary_entry) × (List (S_notary_entry × Int)) × (List (Arr Int 8)) × (List (List Int)) × (List Int) × (List Int) × (List Bool) × (List Bool) × (List Bool))) (l11 : List (Arr Int 8)) (l12 : List (List Int)) (x4 : Int) (l22 : List S_notary_entry) (w5 : (List (S_notary_entry × Int))) (l23 : List Int) : Option ((List S_notary_entry) × (List (S_notary_entry × Int)) × (List (Arr Int 8)) × (List (List Int)) × (List Int) × (List Int) × (List Bool) × (List Bool) × (List Bool)) := (if l11.length + ([(⟨[(IntKind.u8.wrap (IntKind.i64.wrap (x4 + 1))), 0, 0, 0, 0, 0, 0, 0], rfl⟩ : Arr Int 8)]).length ≤ 17592186044416 then (if l12.length + ([l23]).length ≤ 5864062014805 then (nx1 l22 w5 (l11 ++ [(⟨[(IntKind.u8.wrap (IntKind.i64.wrap (x4 + 1))), 0, 0, 0, 0, 0, 0, 0], rfl⟩ : Arr Int 8)]) (l12 ++ [l23]) (IntKind.i64.wrap (x4 + 1))) else none) else none)
def N.baizelaw35_vote_2_0 : List (List Nat) := [[], [], [1], [0], [0, 3], [0, 3, 4], [0, 1, 2, 3, 4, 5], [0, 1, 2, 3, 4, 5, 6], [0, 1, 2, 3, 4, 5, 6, 7], [0, 1, 2, 3, 4, 5, 6, 7], [0, 1, 2, 3, 4, 5, 6, 7, 8]]
def F.baizelaw35_vote_2.l1 (d1 : Arr Int 8) (l1 : List Int) (d2 : Arr Int 8) (l2 : List Int) (x1 : Int) (l3 : List Bool) (l4 : List Bool) (l5 : List Bool) : Nat → (List S_notary_entry) → (List (S_notary_entry × Int)) → (List (Arr Int 8)) → (List (List Int)) → Int → Option ((List S_notary_entry) × (List (S_notary_entry × Int)) × (List (Arr Int 8)) × (List (List Int)) × (List Int) × (List Int) × (List Bool) × (List Bool) × (List Bool))
 | 0, _, _, _, _, _ => none
 | k + 1, l10, w2, l11, l12, x4 => (if decide (x4 < x1) = true then ((F.notary_Book_Signer l10 w2 (⟨[(IntKind.u8.wrap (IntKind.i64.wrap (x4 + 1))), 0, 0, 0, 0, 0, 0, 0], rfl⟩ : Arr Int 8)).bind fun d18 => ((F.baizelaw35_at l3 x4).bind fun q7 => (if q7 = true then ((F.state_Payout_Digest d1 l1).bind fun d25 => ((F.notary_bookSigner_Sign l10 w2 d18 d25).bind fun (l24, x10, d26, d27) => (F.baizelaw35_vote_2.c1 (F.baizelaw35_vote_2.l1 d1 l1 d2 l2 x1 l3 l4 l5 k) l11 l12 x4 d27 d26 l24))) else ((F.baizelaw35_at l4 x4).bind fun q8 => (if q8 = true then ((F.state_Payout_Digest d2 l2).bind fun d28 => ((F.notary_bookSigner_Sign l10 w2 d18 d28).bind fun (l25, x11, d29, d30) => (F.baizelaw35_vote_2.c1 (F.baizelaw35_vote_2.l1 d1 l1 d2 l2 x1 l3 l4 l5 k) l11 l12 x4 d30 d29 l25))) else (F.baizelaw35_vote_2.c1 (F.baizelaw35_vote_2.l1 d1 l1 d2 l2 x1 l3 l4 l5 k) l11 l12 x4 l10 w2 ([]))))))) else (some (l10, w2, l11, l12, l1, l2, l3, l4, l5)))
def F.baizelaw35_vote_2 (d1 : Arr Int 8) (l1 : List Int) (d2 : Arr Int 8) (l2 : List Int) (x1 : Int) (l3 : List Bool) (l4 : List Bool) (l5 : List Bool) : Option ((List S_notary_entry) × (List (S_notary_entry × Int)) × (List (Arr Int 8)) × (List (List Int)) × (List Int) × (List Int) × (List Bool) × (List Bool) × (List Bool)) := ((F.notary_NewBook).bind fun d3 => (F.baizelaw35_vote_2.l1 d1 l1 d2 l2 x1 l3 l4 l5 fuel ([]) d3 ([]) ([]) 0))
theorem P.baizelaw35_vote_2 (g0 : GW) (m0 : Nat) (m1 : Nat) (m2 : Nat) (m3 : Nat) (m4 : Nat) (r0 : Nat) (r1 : Nat) (r2 : Nat) (r3 : Nat) (r4 : Nat) (d1 : Arr Int 8) (l1 : List Int) (d2 : Arr Int 8) (l2 : List Int) (x1 : Int) (l3 : List Bool) (l4 : List Bool) (l5 : List Bool) (a1 : Option Addr) (n1 : Nat) (c1 : Nat) (a2 : Option Addr) (n2 : Nat) (c2 : Nat) (a3 : Option Addr) (n3 : Nat) (c3 : Nat) (a4 : Option Addr) (n4 : Nat) (c4 : Nat) (a5 : Option Addr) (n5 : Nat) (c5 : Nat) (hR1 : OwnS (Kd.int .i64) g0 m0 3 a1 n1 c1 l1) (hR2 : OwnS (Kd.int .i64) g0 m1 3 a2 n2 c2 l2) (hR3 : OwnS Kd.bool g0 m2 4 a3 n3 c3 l3) (hR4 : OwnS Kd.bool g0 m3 4 a4 n4 c4 l4) (hR5 : OwnS Kd.bool g0 m4 4 a5 n5 c5 l5) (hm1_0 : m1 ≠ m0) (hm2_0 : m2 ≠ m0) (hm2_1 : m2 ≠ m1) (hm3_0 : m3 ≠ m0) (hm3_1 : m3 ≠ m1) (hm3_2 : m3 ≠ m2) (hm4_0 : m4 ≠ m0) (hm4_1 : m4 ≠ m1) (hm4_2 : m4 ≠ m2) (hm4_3 : m4 ≠ m3) (hm0 : m0 ≠ 0) (hm1 : m1 ≠ 0) (hm2 : m2 ≠ 0) (hm3 : m3 ≠ 0) (hm4 : m4 ≠ 0) (o1 : List S_notary_entry) (o2 : (List (S_notary_entry × Int))) (o3 : List (Arr Int 8)) (o4 : List (List Int)) (o5 : List Int) (o6 : List Int) (o7 : List Bool) (o8 : List Bool) (o9 : List Bool) (hs : F.baizelaw35_vote_2 d1 l1 d2 l2 x1 l3 l4 l5 = some (o1, o2, o3, o4, o5, o6, o7, o8, o9)) :
  Calls Try.prog 16 #[AG [encA .u8 d1, [.slice a1 n1 c1]], AG [encA .u8 d2, [.slice a2 n2 c2]], .int .i64 x1, AG [[.slice a3 n3 c3], [.slice a4 n4 c4], [.slice a5 n5 c5]]] g0.w (Ret (WL [m0, m1, m2, m3, m4]) g0 fun v g => ∃ (b_1 : Nat) (a_2 : Option Addr) (n_2 : Nat) (c_2 : Nat) (b_5 : Nat) (a_6 : Option Addr) (n_6 : Nat) (c_6 : Nat) (a_9 : Option Addr) (n_9 : Nat) (c_9 : Nat), v = .tuple #[.pointer (some ⟨b_1, 0, none⟩), .slice a_6 n_6 c_6, .slice a_9 n_9 c_9] ∧ Box g r0 b_1 91 [[.slice a_2 n_2 c_2], [.map (some b_5)]] [1, 1] ∧ OwnS k_S_notary_entry g r1 136 a_2 n_2 c_2 o1 ∧ MapB g r2 b_5 kv_S_notary_entry (Value.int .i64) o2 ∧ OwnS (Kd.arrI 8 .u8) g r3 47 a_6 n_6 c_6 o3 ∧ OwnS (Kd.slice 5 (Kd.int .u8)) g r4 74 a_9 n_9 c_9 o4 ∧ OwnS (Kd.int .i64) g m0 3 a1 n1 c1 o5 ∧ OwnS (Kd.int .i64) g m1 3 a2 n2 c2 o6 ∧ OwnS Kd.bool g m2 4 a3 n3 c3 o7 ∧ OwnS Kd.bool g m3 4 a4 n4 c4 o8 ∧ OwnS Kd.bool g m4 4 a5 n5 c5 o9) := by
 refine calls_of (args := [AG [encA .u8 d1, [.slice a1 n1 c1]], AG [encA .u8 d2, [.slice a2 n2 c2]], .int .i64 x1, AG [[.slice a3 n3 c3], [.slice a4 n4 c4], [.slice a5 n5 c5]]]) Try.func16 rfl (m0 + m1 + m2 + m3 + m4 + r0 + r1 + r2 + r3 + r4 + 0) ?_
 intro t ht htL
 refine ⟨_, rfl, ?_⟩
 refine CP.refr 74 [(0, AG [encA .u8 d1, [.slice a1 n1 c1]]), (1, AG [encA .u8 d2, [.slice a2 n2 c2]]), (2, .int .i64 x1), (3, AG [[.slice a3 n3 c3], [.slice a4 n4 c4], [.slice a5 n5 c5]])] (by kernel_rfl) (by kernel_rfl) ?_
 intro ds
 have tot : Step (fun l => (WL [m0, m1, m2, m3, m4]) l ∨ t ≤ l) g0 g0 := Step.refl _ _
 unfold F.baizelaw35_vote_2 at hs
 refine CP.seqR ?_
 refine WP.alloc (T := 49) (t + 1) [encA .u8 d1, [.slice a1 n1 c1]] [8, 1] (by kernel_rfl) (by simp [len_encA]) ?_
 intro g1 b1 st1 hB1
 replace hR1 := hR1.mono st1 (fun x => x) (fun x => x)
 replace hR2 := hR2.mono st1 (fun x => x) (fun x => x)
 replace hR3 := hR3.mono st1 (fun x => x) (fun x => x)
 replace hR4 := hR4.mono st1 (fun x => x) (fun x => x)
 replace hR5 := hR5.mono st1 (fun x => x) (fun x => x)
 replace tot := tot.trans st1.pure
 refine WP.alloc (T := 49) (t + 2) [encA .u8 d2, [.slice a2 n2 c2]] [8, 1] (by kernel_rfl) (by simp [len_encA]) ?_
 intro g2 b2 st2 hB2
 replace hR1 := hR1.mono st2 (fun x => x) (fun x => x)
 replace hR2 := hR2.mono st2 (fun x => x) (fun x => x)
 replace hR3 := hR3.mono st2 (fun x => x) (fun x => x)
 replace hR4 := hR4.mono st2 (fun x => x) (fun x => x)
 replace hR5 := hR5.mono st2 (fun x => x) (fun x => x)
 replace hB1 := hB1.mono st2 (fun x => x)
 replace tot := tot.trans st2.pure
 refine WP.alloc (T := 45) (t + 3) [[.slice a3 n3 c3], [.slice a4 n4 c4], [.slice a5 n5 c5]] [1, 1, 1] (by kernel_rfl) rfl ?_
 intro g3 b3 st3 hB3
 replace hR1 := hR1.mono st3 (fun x => x) (fun x => x)
 replace hR2 := hR2.mono st3 (fun x => x) (fun x => x)
 replace hR3 := hR3.mono st3 (fun x => x) (fun x => x)
 replace hR4 := hR4.mono st3 (fun x => x) (fun x => x)
 replace hR5 := hR5.mono st3 (fun x => x) (fun x => x)
 replace hB1 := hB1.mono st3 (fun x => x)
 replace hB2 := hB2.mono st3 (fun x => x)
 replace tot := tot.trans st3.pure
 refine WP.stl 3 ?_
 refine WP.dn ?_
 refine NX.then_n ?_
 refine CP.seqR ?_
 replace hs := Option.bind_eq_some_iff.1 hs
 obtain ⟨d3, hk1, hs⟩ := hs
 have hcal1 := P.notary_NewBook g3 (t + 4) (t + 5) d3 hk1
 refine WP.callC hcal1 (by kernel_rfl) ?_
 rintro _ g4 st4 ⟨b4, b5, rfl, hB4, hB5⟩
 replace hR1 := hR1.mono st4 (fun x => x) (fun x => x)
 replace hR2 := hR2.mono st4 (fun x => x) (fun x => x)
 replace hR3 := hR3.mono st4 (fun x => x) (fun x => x)
 replace hR4 := hR4.mono st4 (fun x => x) (fun x => x)
 replace hR5 := hR5.mono st4 (fun x => x) (fun x => x)
 replace hB1 := hB1.mono st4 (fun x => x)
 replace hB2 := hB2.mono st4 (fun x => x)
 replace hB3 := hB3.mono st4 (fun x => x)
 replace tot := tot.trans st4.pure
 refine WP.stl 1 ?_
 refine WP.dn ?_
 refine NX.then_n ?_
 refine CP.seq ?_
 refine CP.seqR ?_
 refine WP.stl 2 ?_
 refine WP.dn ?_
 refine NX.then_n ?_
 refine CP.cond_f (by kernel_rfl) ?_
 refine CP.skip ?_
 refine NX.then_n ?_
 refine CP.seqR ?_
 refine WP.stl 1 ?_
 refine WP.dn ?_
 refine NX.then_n ?_
 refine CP.seqR ?_
 refine WP.stl 1 ?_
 refine WP.dn ?_
 refine NX.then_n ?_
 refine CP.seq ?_
 refine CP.seqR ?_
 refine WP.stl 1 ?_
 refine WP.dn ?_
 refine NX.then_n ?_
 refine CP.refr 74 [(2, .int .i64 x1), (4, .pointer (some ⟨b1, 0, none⟩)), (5, .pointer (some ⟨b2, 0, none⟩)), (7, .pointer (some ⟨b3, 0, none⟩)), (11, .pointer (some ⟨b4, 0, none⟩)), (12, .slice none 0 0), (13, .slice none 0 0), (14, .int .i64 0)] (by kernel_rfl) (by kernel_rfl) ?_
 clear ds
 intro ds
 refine CP.block ?_
 generalize fuel = k1 at hs
 refine CP.loop (fun k1 tm g => ∃ (l10 : List S_notary_entry) (a16 : Option Addr) (n12 : Nat) (c14 : Nat) (w2 : (List (S_notary_entry × Int))) (l11 : List (Arr Int 8)) (a17 : Option Addr) (n13 : Nat) (c15 : Nat) (l12 : List (List Int)) (a18 : Option Addr) (n14 : Nat) (c16 : Nat) (x4 : Int), Fr 74 [(2, .int .i64 x1), (4, .pointer (some ⟨b1, 0, none⟩)), (5, .pointer (some ⟨b2, 0, none⟩)), (7, .pointer (some ⟨b3, 0, none⟩)), (11, .pointer (some ⟨b4, 0, none⟩)), (12, .slice a17 n13 c15), (13, .slice a18 n14 c16), (14, .int .i64 x4)] tm ∧ Step (fun l => (WL [m0, m1, m2, m3, m4]) l ∨ t ≤ l) g0 g ∧ OwnS Kd.bool g m4 4 a5 n5 c5 l5 ∧ OwnS Kd.bool g m3 4 a4 n4 c4 l4 ∧ OwnS Kd.bool g m2 4 a3 n3 c3 l3 ∧ OwnS (Kd.int .i64) g m1 3 a2 n2 c2 l2 ∧ OwnS (Kd.int .i64) g m0 3 a1 n1 c1 l1 ∧ Box g (t + 1) b1 49 [encA .u8 d1, [.slice a1 n1 c1]] [8, 1] ∧ Box g (t + 2) b2 49 [encA .u8 d2, [.slice a2 n2 c2]] [8, 1] ∧ Box g (t + 3) b3 45 [[.slice a3 n3 c3], [.slice a4 n4 c4], [.slice a5 n5 c5]] [1, 1, 1] ∧ Box g (t + 4) b4 91 [[.slice a16 n12 c14], [.map (some b5)]] [1, 1] ∧ OwnS k_S_notary_entry g (t + 7) 136 a16 n12 c14 l10 ∧ MapB g (t + 5) b5 kv_S_notary_entry (Value.int .i64) w2 ∧ OwnS (Kd.arrI 8 .u8) g (t + 12) 47 a17 n13 c15 l11 ∧ OwnS (Kd.slice 5 (Kd.int .u8)) g (t + 14) 74 a18 n14 c16 l12 ∧ F.baizelaw35_vote_2.l1 d1 l1 d2 l2 x1 l3 l4 l5 k1 l10 w2 l11 l12 x4 = some (o1, o2, o3, o4, o5, o6, o7, o8, o9)) k1 ?_ ?_ ?_
 ·exact ⟨[], none, 0, 0, d3, [], none, 0, 0, [], none, 0, 0, 0, ⟨by kernel_rfl, by kernel_rfl⟩, tot, hR5, hR4, hR3, hR2, hR1, hB1, hB2, hB3, hB4, (OwnS.nil _ _ _ _), hB5, (OwnS.nil _ _ _ _), (OwnS.nil _ _ _ _), hs⟩
 ·rintro tm g ⟨l10, a16, n12, c14, w2, l11, a17, n13, c15, l12, a18, n14, c16, x4, hF, tot, hR5, hR4, hR3, hR2, hR1, hB1, hB2, hB3, hB4, hR16, hB5, hR17, hR18, hs⟩
  exact absurd hs (by simp [F.baizelaw35_vote_2.l1])
 clear tot hs hR5 hR4 hR3 hR2 hR1 hB1 hB2 hB3 hB4 hB5
 rintro k1 tm g ⟨l10, a16, n12, c14, w2, l11, a17, n13, c15, l12, a18, n14, c16, x4, hF, tot, hR5, hR4, hR3, hR2, hR1, hB1, hB2, hB3, hB4, hR16, hB5, hR17, hR18, hs⟩
 clear ds
 obtain ⟨ds, rfl⟩ := hF.open
 clear hF
 unfold F.baizelaw35_vote_2.l1 at hs
 refine CP.seq ?_
 refine CP.seqR ?_
 refine WP.stl 3 ?_
 refine WP.dn ?_
 refine NX.then_n ?_
 refine CP.cond (b := decide (x4 < x1)) (by kernel_rfl) (fun h7 => ?_) (fun h7 => ?_)
 ·replace hs := of_if_t hs h7
  refine CP.skip ?_
  refine NX.then_n ?_
  refine CP.seq ?_
  refine CP.block ?_
  refine CP.seqR ?_
  refine WP.stl 4 ?_
  refine WP.alloc (T := 47) (t + 20) [encA .u8 (zA 8)] [8] (by kernel_rfl) (by simp [len_encA]) ?_
  intro g42 b8 st42 hB18
  replace hR5 := hR5.mono st42 (fun x => x) (fun x => x)
  replace hR4 := hR4.mono st42 (fun x => x) (fun x => x)
  replace hR3 := hR3.mono st42 (fun x => x) (fun x => x)
  replace hR2 := hR2.mono st42 (fun x => x) (fun x => x)
  replace hR1 := hR1.mono st42 (fun x => x) (fun x => x)
  replace hB1 := hB1.mono st42 (fun x => x)
  replace hB2 := hB2.mono st42 (fun x => x)
  replace hB3 := hB3.mono st42 (fun x => x)
  replace hB4 := hB4.mono st42 (fun x => x)
  replace hR16 := hR16.mono st42 (fun x => x) (fun x => x)
  replace hB5 := hB5.mono st42 (fun x => x)
  replace hR17 := hR17.mono st42 (fun x => x) (fun x => x)
  replace hR18 := hR18.mono st42 (fun x => x) (fun x => x)
  replace tot := tot.trans st42.pure
  refine WP.storeB (ty := 47) (off := 0) (v := AG [encA .u8 (⟨[(IntKind.u8.wrap (IntKind.i64.wrap (x4 + 1))), 0, 0, 0, 0, 0, 0, 0], rfl⟩ : Arr Int 8)]) hB18 [encA .u8 (⟨[(IntKind.u8.wrap (IntKind.i64.wrap (x4 + 1))), 0, 0, 0, 0, 0, 0, 0], rfl⟩ : Arr Int 8)] [8] (by kernel_rfl) (by kernel_rfl) (by simp [len_encA]) (by kernel_rfl) [encA .u8 (⟨[(IntKind.u8.wrap (IntKind.i64.wrap (x4 + 1))), 0, 0, 0, 0, 0, 0, 0], rfl⟩ : Arr Int 8)] (by kernel_rfl) (.arr .nil) ?_
  intro g43 st43 hB19
  replace hR5 := hR5.mono st43 (WL.no1 (by omega)) (WL.no1 (by omega))
  replace hR4 := hR4.mono st43 (WL.no1 (by omega)) (WL.no1 (by omega))
  replace hR3 := hR3.mono st43 (WL.no1 (by omega)) (WL.no1 (by omega))
  replace hR2 := hR2.mono st43 (WL.no1 (by omega)) (WL.no1 (by omega))
  replace hR1 := hR1.mono st43 (WL.no1 (by omega)) (WL.no1 (by omega))
  replace hB1 := hB1.mono st43 (WL.no1 (by omega))
  replace hB2 := hB2.mono st43 (WL.no1 (by omega))
  replace hB3 := hB3.mono st43 (WL.no1 (by omega))
  replace hB4 := hB4.mono st43 (WL.no1 (by omega))
  replace hR16 := hR16.mono st43 (WL.no1 (by omega)) (WL.no1 (by omega))
  replace hB5 := hB5.mono st43 (WL.no1 (by omega))
  replace hR17 := hR17.mono st43 (WL.no1 (by omega)) (WL.no1 (by omega))
  replace hR18 := hR18.mono st43 (WL.no1 (by omega)) (WL.no1 (by omega))
  replace tot := tot.trans (st43.up1 (.inr (by omega)))
  clear hB18
  have hB18 := hB19
  clear hB19
  refine WP.dn ?_
  refine NX.then_n ?_
  refine CP.seqR ?_
  refine WP.stl 1 ?_
  refine WP.loadB (v := AG [encA .u8 (⟨[(IntKind.u8.wrap (IntKind.i64.wrap (x4 + 1))), 0, 0, 0, 0, 0, 0, 0], rfl⟩ : Arr Int 8)]) hB18 (by kernel_rfl) (by kernel_rfl) ?_
  replace hs := Option.bind_eq_some_iff.1 hs
  obtain ⟨d18, hk16, hs⟩ := hs
  have hS10 : 0 ∉ ([(t + 7)] : List Nat) := by simp <;> omega
  have stl10 := GW.lend_step g43 [(t + 7)]
  have hRl10 := hR16.lendTo hS10 (by simp)
  refine WP.regw (g' := GW.lend g43 [(t + 7)]) rfl ?_
  have hcal16 := P.notary_Book_Signer (GW.lend g43 [(t + 7)]) (t + 4) (t + 5) l10 w2 (⟨[(IntKind.u8.wrap (IntKind.i64.wrap (x4 + 1))), 0, 0, 0, 0, 0, 0, 0], rfl⟩ : Arr Int 8) a16 n12 c14 b4 b5 hRl10 (hB5.mono stl10 (WL.no (by simp <;> omega))) (hB4.mono stl10 (WL.no (by simp <;> omega))) (by omega) (by omega) (by omega) d18 hk16
  refine WP.callC hcal16 (by kernel_rfl) ?_
  rintro _ g44 st44 rfl
  have st45 := (GW.back_step st44).lentS
  have hO10 := hR16.backTo hS10 (by simp) st44 (fun x => x)
  refine WP.regw (g' := GW.back g43 g44 [(t + 7)]) rfl ?_
  generalize GW.back g43 g44 [(t + 7)] = g45 at *
  replace hR5 := hR5.mono st45 (WL.no1 (by omega)) (WL.no1 (by omega))
  replace hR4 := hR4.mono st45 (WL.no1 (by omega)) (WL.no1 (by omega))
  replace hR3 := hR3.mono st45 (WL.no1 (by omega)) (WL.no1 (by omega))
  replace hR2 := hR2.mono st45 (WL.no1 (by omega)) (WL.no1 (by omega))
  replace hR1 := hR1.mono st45 (WL.no1 (by omega)) (WL.no1 (by omega))
  replace hB1 := hB1.mono st45 (WL.no1 (by omega))
  replace hB2 := hB2.mono st45 (WL.no1 (by omega))
  replace hB3 := hB3.mono st45 (WL.no1 (by omega))
  replace hB4 := hB4.mono st45 (WL.no1 (by omega))
  replace hB5 := hB5.mono st45 (WL.no1 (by omega))
  replace hR17 := hR17.mono st45 (WL.no1 (by omega)) (WL.no1 (by omega))
  replace hR18 := hR18.mono st45 (WL.no1 (by omega)) (WL.no1 (by omega))
  replace hB18 := hB18.mono st45 (WL.no1 (by omega))
  replace tot := tot.trans (st45.up1 (.inr (by omega)))
  clear hR16
  have hR16 : OwnS k_S_notary_entry g45 (t + 7) 136 a16 n12 c14 l10 := hO10
  clear hO10
  refine WP.stl 1 ?_
  refine WP.dn ?_
  refine NX.then_n ?_
  refine CP.refr 74 [(2, .int .i64 x1), (4, .pointer (some ⟨b1, 0, none⟩)), (5, .pointer (some ⟨b2, 0, none⟩)), (7, .pointer (some ⟨b3, 0, none⟩)), (11, .pointer (some ⟨b4, 0, none⟩)), (12, .slice a17 n13 c15), (13, .slice a18 n14 c16), (14, .int .i64 x4), (15, .pointer (some ⟨b8, 0, none⟩)), (16, .iface 93 (AG [[.pointer (some ⟨b4, 0, none⟩)], encA .u8 d18]))] (by kernel_rfl) (by kernel_rfl) ?_
  clear ds
  intro ds
  refine CP.seq ?_
  refine CP.seqR ?_
  refine WP.stl 2 ?_
  refine WP.dn ?_
  refine NX.then_n ?_
  refine CP.cond_f (by kernel_rfl) ?_
  refine CP.skip ?_
  refine NX.then_n ?_
  refine CP.seqR ?_
  refine WP.stl 1 ?_
  refine WP.dn ?_
  refine NX.then_n ?_
  refine CP.cut (fun tm g => ∃ (l22 : List S_notary_entry) (a36 : Option Addr) (n28 : Nat) (c32 : Nat) (w5 : (List (S_notary_entry × Int))) (l23 : List Int) (a37 : Option Addr) (n29 : Nat) (c33 : Nat), Fr 74 [(2, .int .i64 x1), (4, .pointer (some ⟨b1, 0, none⟩)), (5, .pointer (some ⟨b2, 0, none⟩)), (7, .pointer (some ⟨b3, 0, none⟩)), (11, .pointer (some ⟨b4, 0, none⟩)), (12, .slice a17 n13 c15), (13, .slice a18 n14 c16), (14, .int .i64 x4), (15, .pointer (some ⟨b8, 0, none⟩)), (17, .slice a37 n29 c33)] tm ∧ Step (fun l => (WL [m0, m1, m2, m3, m4]) l ∨ t ≤ l) g0 g ∧ OwnS Kd.bool g m4 4 a5 n5 c5 l5 ∧ OwnS Kd.bool g m3 4 a4 n4 c4 l4 ∧ OwnS Kd.bool g m2 4 a3 n3 c3 l3 ∧ OwnS (Kd.int .i64) g m1 3 a2 n2 c2 l2 ∧ OwnS (Kd.int .i64) g m0 3 a1 n1 c1 l1 ∧ Box g (t + 1) b1 49 [encA .u8 d1, [.slice a1 n1 c1]] [8, 1] ∧ Box g (t + 2) b2 49 [encA .u8 d2, [.slice a2 n2 c2]] [8, 1] ∧ Box g (t + 3) b3 45 [[.slice a3 n3 c3], [.slice a4 n4 c4], [.slice a5 n5 c5]] [1, 1, 1] ∧ Box g (t + 4) b4 91 [[.slice a36 n28 c32], [.map (some b5)]] [1, 1] ∧ OwnS k_S_notary_entry g (t + 7) 136 a36 n28 c32 l22 ∧ MapB g (t + 5) b5 kv_S_notary_entry (Value.int .i64) w5 ∧ OwnS (Kd.arrI 8 .u8) g (t + 12) 47 a17 n13 c15 l11 ∧ OwnS (Kd.slice 5 (Kd.int .u8)) g (t + 14) 74 a18 n14 c16 l12 ∧ Box g (t + 20) b8 47 [encA .u8 (⟨[(IntKind.u8.wrap (IntKind.i64.wrap (x4 + 1))), 0, 0, 0, 0, 0, 0, 0], rfl⟩ : Arr Int 8)] [8] ∧ OwnS (Kd.int .u8) g (t + 21) 5 a37 n29 c33 l23 ∧ (F.baizelaw35_vote_2.c1 (F.baizelaw35_vote_2.l1 d1 l1 d2 l2 x1 l3 l4 l5 k1) l11 l12 x4 l22 w5 l23) = some (o1, o2, o3, o4, o5, o6, o7, o8, o9)) ?_ ?_
  ·refine CP.seqR ?_
   refine WP.stl 1 ?_
   refine WP.loadB (v := .slice a3 n3 c3) hB3 (by kernel_rfl) (by kernel_rfl) ?_
   refine WP.stl 1 ?_
   replace hs := Option.bind_eq_some_iff.1 hs
   obtain ⟨q7, hk23, hs⟩ := hs
   have hS15 : 0 ∉ ([m2] : List Nat) := by simp <;> omega
   have stl15 := GW.lend_step g45 [m2]
   have hRl15 := hR3.lendTo hS15 (by simp)
   refine WP.regw (g' := GW.lend g45 [m2]) rfl ?_
   have hcal23 := P.baizelaw35_at (GW.lend g45 [m2]) l3 x4 a3 n3 c3 hRl15 q7 hk23
   refine WP.callC hcal23 (by kernel_rfl) ?_
   rintro _ g61 st61 rfl
   have st62 := (GW.back_step st61).lentS
   have hO15 := hR3.backTo hS15 (by simp) st61 (fun x => x)
   refine WP.regw (g' := GW.back g45 g61 [m2]) rfl ?_
   generalize GW.back g45 g61 [m2] = g62 at *
   replace hR5 := hR5.mono st62 (WL.no1 (by omega)) (WL.no1 (by omega))
   replace hR4 := hR4.mono st62 (WL.no1 (by omega)) (WL.no1 (by omega))
   replace hR2 := hR2.mono st62 (WL.no1 (by omega)) (WL.no1 (by omega))
   replace hR1 := hR1.mono st62 (WL.no1 (by omega)) (WL.no1 (by omega))
   replace hB1 := hB1.mono st62 (WL.no1 (by omega))
   replace hB2 := hB2.mono st62 (WL.no1 (by omega))
   replace hB3 := hB3.mono st62 (WL.no1 (by omega))
   replace hB4 := hB4.mono st62 (WL.no1 (by omega))
   replace hR16 := hR16.mono st62 (WL.no1 (by omega)) (WL.no1 (by omega))
   replace hB5 := hB5.mono st62 (WL.no1 (by omega))
   replace hR17 := hR17.mono st62 (WL.no1 (by omega)) (WL.no1 (by omega))
   replace hR18 := hR18.mono st62 (WL.no1 (by omega)) (WL.no1 (by omega))
   replace hB18 := hB18.mono st62 (WL.no1 (by omega))
   replace tot := tot.trans (st62.up1 (.inl (by simp [WL])))
   clear hR3
   have hR3 : OwnS Kd.bool g62 m2 4 a3 n3 c3 l3 := hO15
   clear hO15
   refine WP.dn ?_
   refine NX.then_n ?_
   refine CP.cond (b := q7) (by kernel_rfl) (fun h10 => ?_) (fun h10 => ?_)
   ·replace hs := of_if_t hs h10
    replace hs := Option.bind_eq_some_iff.1 hs
    obtain ⟨d25, hk24, hs⟩ := hs
    replace hs := Option.bind_eq_some_iff.1 hs
    obtain ⟨⟨l24, x10, d26, d27⟩, hk25, hs⟩ := hs
    dsimp only at hs
    refine CP.drawL (by kernel_rfl) [1, 2, 6] N.baizelaw35_vote_2_0 [⟨none, [0], [], fun l g => OwnS (Kd.int .i64) g m0 3 a1 n1 c1 l1⟩, ⟨none, [], [], fun l g => Box g (t + 1) b1 49 [encA .u8 d1, [.slice a1 n1 c1]] [8, 1]⟩, ⟨none, [2], [], fun l g => Box g (t + 4) b4 91 [[.slice a16 n12 c14], [.map (some b5)]] [1, 1]⟩, ⟨none, [3], [], fun l g => OwnS k_S_notary_entry g (t + 7) 136 a16 n12 c14 l10⟩, ⟨none, [1], [], fun l g => MapB g (t + 5) b5 kv_S_notary_entry (Value.int .i64) w2⟩, ⟨some 0, [], [0], fun l g => l.getD 0 undef = AG [encA .u8 d1, [.slice a1 n1 c1]]⟩, ⟨some 1, [], [1], fun l g => l.getD 0 undef = AG [encA .u8 d25]⟩, ⟨some 1, [0], [], fun l g => OwnS (Kd.int .i64) g m0 3 a1 n1 c1 l1⟩, ⟨some 2, [1], [], fun l g => MapB g (t + 5) b5 kv_S_notary_entry (Value.int .i64) d26⟩, ⟨some 2, [2, 3], [2], fun l g => ∃ (a42 : Option Addr) (c36 : Nat) (a43 : Option Addr) (c37 : Nat), l.getD 0 undef = .tuple #[.slice a42 l24.length c36, .int .i64 x10] ∧ OwnS (Kd.int .u8) g (t + 25) 5 a42 l24.length c36 l24 ∧ OwnS k_S_notary_entry g (t + 7) 136 a43 d27.length c37 d27 ∧ Box g (t + 4) b4 91 [[.slice a43 d27.length c37], [.map (some b5)]] [1, 1]⟩] [[], [0], [1, 2, 3]] [m0, (t + 5), (t + 4), (t + 7)] [0, 3, 4, 5] [7, 8, 9, 10] (by kernel_rfl) (by simp <;> omega) (by simp <;> omega) ⟨fun _ _ _ _ st h0 hl hj hR1 => (hR1.mono st h0 (hj 0 (by simp) _ rfl)), fun _ _ _ _ st h0 hl hj hB1 => (hB1.mono st (fun h => absurd (hl _ h) (by simp <;> omega))), fun _ _ _ _ st h0 hl hj hB4 => (hB4.mono st (hj 2 (by simp) _ rfl)), fun _ _ _ _ st h0 hl hj hR16 => (hR16.mono st h0 (hj 3 (by simp) _ rfl)), fun _ _ _ _ st h0 hl hj hB5 => (hB5.mono st (hj 1 (by simp) _ rfl)), fun _ _ _ _ st h0 hl hj e0 => e0, fun _ _ _ _ st h0 hl hj e1 => e1, fun _ _ _ _ st h0 hl hj hR1 => (hR1.mono st h0 (hj 0 (by simp) _ rfl)), fun _ _ _ _ st h0 hl hj hB5 => (hB5.mono st (hj 1 (by simp) _ rfl)), fun _ _ _ _ st h0 hl hj ⟨a42, c36, a43, c37, e2, hR42, hR43, hB4⟩ => ⟨a42, c36, a43, c37, e2, (hR42.mono st h0 (fun h => absurd (hl _ h) (by simp <;> omega))), (hR43.mono st h0 (hj 3 (by simp) _ rfl)), (hB4.mono st (hj 2 (by simp) _ rfl))⟩, tv⟩ ⟨hR1, hB1, hB4, hR16, hB5, tv, tv, tv, tv, tv, tv⟩ (by kernel_rfl) (fun vs => by kernel_rfl) ?_ ?_ ?_
    ·intro j hj
     have hq : j = 0 ∨ j = 1 ∨ j = 2 ∨ j = 3 := by have h : j < 4 := hj; omega
     rcases hq with rfl | rfl | rfl | rfl
     ·intro vs gq stq hl hf
      obtain ⟨v0, v1, v2, rfl⟩ := len_k3 hl
      obtain ⟨a42, c36, a43, c37, e2, hR42, hR43, hB4⟩ := (show ∃ (a42 : Option Addr) (c36 : Nat) (a43 : Option Addr) (c37 : Nat), v2 = .tuple #[.slice a42 l24.length c36, .int .i64 x10] ∧ OwnS (Kd.int .u8) gq (t + 25) 5 a42 l24.length c36 l24 ∧ OwnS k_S_notary_entry gq (t + 7) 136 a43 d27.length c37 d27 ∧ Box gq (t + 4) b4 91 [[.slice a43 d27.length c37], [.map (some b5)]] [1, 1] from hf _ (memI 9 rfl) (by kernel_rfl))
      subst e2
      show Option.isSome _ = true
      kernel_rfl
     ·intro vs gq stq hl hf
      obtain ⟨v0, v1, v2, rfl⟩ := len_k3 hl
      obtain ⟨a42, c36, a43, c37, e2, hR42, hR43, hB4⟩ := (show ∃ (a42 : Option Addr) (c36 : Nat) (a43 : Option Addr) (c37 : Nat), v2 = .tuple #[.slice a42 l24.length c36, .int .i64 x10] ∧ OwnS (Kd.int .u8) gq (t + 25) 5 a42 l24.length c36 l24 ∧ OwnS k_S_notary_entry gq (t + 7) 136 a43 d27.length c37 d27 ∧ Box gq (t + 4) b4 91 [[.slice a43 d27.length c37], [.map (some b5)]] [1, 1] from hf _ (memI 9 rfl) (by kernel_rfl))
      subst e2
      show Option.isSome _ = true
      kernel_rfl
     ·intro vs gq stq hl hf
      obtain ⟨v0, v1, v2, rfl⟩ := len_k3 hl
      obtain ⟨a42, c36, a43, c37, e2, hR42, hR43, hB4⟩ := (show ∃ (a42 : Option Addr) (c36 : Nat) (a43 : Option Addr) (c37 : Nat), v2 = .tuple #[.slice a42 l24.length c36, .int .i64 x10] ∧ OwnS (Kd.int .u8) gq (t + 25) 5 a42 l24.length c36 l24 ∧ OwnS k_S_notary_entry gq (t + 7) 136 a43 d27.length c37 d27 ∧ Box gq (t + 4) b4 91 [[.slice a43 d27.length c37], [.map (some b5)]] [1, 1] from hf _ (memI 9 rfl) (by kernel_rfl))
      subst e2
      show Option.isSome _ = true
      kernel_rfl
     ·intro vs gq stq hl hf
      obtain ⟨v0, v1, v2, rfl⟩ := len_k3 hl
      obtain ⟨a42, c36, a43, c37, e2, hR42, hR43, hB4⟩ := (show ∃ (a42 : Option Addr) (c36 : Nat) (a43 : Option Addr) (c37 : Nat), v2 = .tuple #[.slice a42 l24.length c36, .int .i64 x10] ∧ OwnS (Kd.int .u8) gq (t + 25) 5 a42 l24.length c36 l24 ∧ OwnS k_S_notary_entry gq (t + 7) 136 a43 d27.length c37 d27 ∧ Box gq (t + 4) b4 91 [[.slice a43 d27.length c37], [.map (some b5)]] [1, 1] from hf _ (memI 9 rfl) (by kernel_rfl))
      subst e2
      show Option.isSome _ = true
      kernel_rfl
    ·intro j hj
     have hq : j = 0 ∨ j = 1 ∨ j = 2 := by have h : j < 3 := hj; omega
     rcases hq with rfl | rfl | rfl
     ·intro vs gq stq hl hf
      obtain ⟨v0, v1, v2, rfl⟩ := len_k3 hl
      have hB1 := (show Box gq (t + 1) b1 49 [encA .u8 d1, [.slice a1 n1 c1]] [8, 1] from hf _ (memI 1 rfl) (by kernel_rfl))
      refine WP.loadB (v := AG [encA .u8 d1, [.slice a1 n1 c1]]) hB1 (by kernel_rfl) (by kernel_rfl) ?_
      refine WP.dn (Shown.ok (v := AG [encA .u8 d1, [.slice a1 n1 c1]]) (by kernel_rfl) (Step.refl _ _) ?_)
      exact ⟨tv, tv, tv, tv, tv, rfl, tv, tv, tv, tv, tv⟩
     ·intro vs gq stq hl hf
      obtain ⟨v0, v1, v2, rfl⟩ := len_k3 hl
      have hR1 := (show OwnS (Kd.int .i64) gq m0 3 a1 n1 c1 l1 from hf _ (memI 0 rfl) (by kernel_rfl))
      have e0 := (show v0 = AG [encA .u8 d1, [.slice a1 n1 c1]] from hf _ (memI 5 rfl) (by kernel_rfl))
      subst e0
      have hS16 : 0 ∉ ([m0] : List Nat) := by simp <;> omega
      have stl16 := GW.lend_step gq [m0]
      have hRl16 := hR1.lendTo hS16 (by simp)
      refine WP.regw (g' := GW.lend gq [m0]) rfl ?_
      have hcal24 := P.state_Payout_Digest (GW.lend gq [m0]) d1 l1 a1 n1 c1 hRl16 d25 hk24
      refine WP.callC hcal24 (by kernel_rfl) ?_
      rintro _ g63 st63 rfl
      have st64 := (GW.back_step st63).lentS
      have hO16 := hR1.backTo hS16 (by simp) st63 (fun x => x)
      refine WP.regw (g' := GW.back gq g63 [m0]) rfl ?_
      generalize GW.back gq g63 [m0] = g64 at *
      refine WP.dn (Shown.o (v := AG [encA .u8 d25]) st64 ?_)
      exact ⟨tv, tv, tv, tv, tv, tv, rfl, hO16, tv, tv, tv⟩
     ·intro vs gq stq hl hf
      obtain ⟨v0, v1, v2, rfl⟩ := len_k3 hl
      have hB4 := (show Box gq (t + 4) b4 91 [[.slice a16 n12 c14], [.map (some b5)]] [1, 1] from hf _ (memI 2 rfl) (by kernel_rfl))
      have hR16 := (show OwnS k_S_notary_entry gq (t + 7) 136 a16 n12 c14 l10 from hf _ (memI 3 rfl) (by kernel_rfl))
      have hB5 := (show MapB gq (t + 5) b5 kv_S_notary_entry (Value.int .i64) w2 from hf _ (memI 4 rfl) (by kernel_rfl))
      have e1 := (show v1 = AG [encA .u8 d25] from hf _ (memI 6 rfl) (by kernel_rfl))
      subst e1
      have hcal25 := P.notary_bookSigner_Sign gq (t + 4) (t + 7) (t + 5) (t + 25) l10 w2 d18 d25 a16 n12 c14 b4 b5 hR16 hB5 hB4 (by omega) (by omega) (by omega) (by omega) (by omega) (by omega) l24 x10 d26 d27 hk25
      refine WP.callC hcal25 (by kernel_rfl) ?_
      rintro _ g65 st65 ⟨a42, n30, c36, a43, n31, c37, rfl, hR42, hB24, hR43, hB25⟩
      obtain rfl := hR42.len
      obtain rfl := hR43.len
      refine WP.dn (Shown.o (v := .tuple #[.slice a42 l24.length c36, .int .i64 x10]) st65 ?_)
      exact ⟨tv, tv, tv, tv, tv, tv, tv, tv, hB24, ⟨a42, c36, a43, c37, rfl, hR42, hR43, hB25⟩, tv⟩
    intro vs g66 st66 hl hf
    obtain ⟨v0, v1, v2, rfl⟩ := len_k3 hl
    have hR1 := (show OwnS (Kd.int .i64) g66 m0 3 a1 n1 c1 l1 from hf _ (memI 7 rfl) (by kernel_rfl))
    have hB5 := (show MapB g66 (t + 5) b5 kv_S_notary_entry (Value.int .i64) d26 from hf _ (memI 8 rfl) (by kernel_rfl))
    obtain ⟨a42, c36, a43, c37, e2, hR42, hR43, hB4⟩ := (show ∃ (a42 : Option Addr) (c36 : Nat) (a43 : Option Addr) (c37 : Nat), v2 = .tuple #[.slice a42 l24.length c36, .int .i64 x10] ∧ OwnS (Kd.int .u8) g66 (t + 25) 5 a42 l24.length c36 l24 ∧ OwnS k_S_notary_entry g66 (t + 7) 136 a43 d27.length c37 d27 ∧ Box g66 (t + 4) b4 91 [[.slice a43 d27.length c37], [.map (some b5)]] [1, 1] from hf _ (memI 9 rfl) (by kernel_rfl))
    subst e2
    replace hR5 := hR5.mono st66 (WL.no (by simp <;> omega)) (WL.no (by simp <;> omega))
    replace hR4 := hR4.mono st66 (WL.no (by simp <;> omega)) (WL.no (by simp <;> omega))
    replace hR3 := hR3.mono st66 (WL.no (by simp <;> omega)) (WL.no (by simp <;> omega))
    replace hR2 := hR2.mono st66 (WL.no (by simp <;> omega)) (WL.no (by simp <;> omega))
    replace hB1 := hB1.mono st66 (WL.no (by simp <;> omega))
    replace hB2 := hB2.mono st66 (WL.no (by simp <;> omega))
    replace hB3 := hB3.mono st66 (WL.no (by simp <;> omega))
    replace hR17 := hR17.mono st66 (WL.no (by simp <;> omega)) (WL.no (by simp <;> omega))
    replace hR18 := hR18.mono st66 (WL.no (by simp <;> omega)) (WL.no (by simp <;> omega))
    replace hB18 := hB18.mono st66 (WL.no (by simp <;> omega))
    replace tot := tot.trans (st66.up (by intro l hl; simp at hl; rcases hl with rfl | rfl | rfl | rfl <;> first | exact .inr (by omega) | exact .inl (by simp [WL])))
    obtain ⟨g67, hw4, st67, hnew⟩ := hR42.relab (by omega) (t + 21)
    refine NX.regw hw4 ?_
    replace hR5 := hR5.mono st67 (WL.no1 (by omega)) (WL.no1 (by omega))
    replace hR4 := hR4.mono st67 (WL.no1 (by omega)) (WL.no1 (by omega))
    replace hR3 := hR3.mono st67 (WL.no1 (by omega)) (WL.no1 (by omega))
    replace hR2 := hR2.mono st67 (WL.no1 (by omega)) (WL.no1 (by omega))
    replace hR1 := hR1.mono st67 (WL.no1 (by omega)) (WL.no1 (by omega))
    replace hB1 := hB1.mono st67 (WL.no1 (by omega))
    replace hB2 := hB2.mono st67 (WL.no1 (by omega))
    replace hB3 := hB3.mono st67 (WL.no1 (by omega))
    replace hB4 := hB4.mono st67 (WL.no1 (by omega))
    replace hR43 := hR43.mono st67 (WL.no1 (by omega)) (WL.no1 (by omega))
    replace hB5 := hB5.mono st67 (WL.no1 (by omega))
    replace hR17 := hR17.mono st67 (WL.no1 (by omega)) (WL.no1 (by omega))
    replace hR18 := hR18.mono st67 (WL.no1 (by omega)) (WL.no1 (by omega))
    replace hB18 := hB18.mono st67 (WL.no1 (by omega))
    replace tot := tot.trans (st67.up1 (.inr (by omega)))
    clear hR42
    have hR42 := hnew
    clear hnew
    refine NX.post ?_
    exact ⟨d27, a43, d27.length, c37, d26, l24, a42, l24.length, c36, ⟨by kernel_rfl, by kernel_rfl⟩, tot, hR5, hR4, hR3, hR2, hR1, hB1, hB2, hB3, hB4, hR43, hB5, hR17, hR18, hB18, hR42, hs⟩
   replace hs := of_if_f hs h10
   refine CP.seqR ?_
   refine WP.stl 1 ?_
   refine WP.loadB (v := .slice a4 n4 c4) hB3 (by kernel_rfl) (by kernel_rfl) ?_
   refine WP.stl 1 ?_
   replace hs := Option.bind_eq_some_iff.1 hs
   obtain ⟨q8, hk26, hs⟩ := hs
   have hS17 : 0 ∉ ([m3] : List Nat) := by simp <;> omega
   have stl17 := GW.lend_step g62 [m3]
   have hRl17 := hR4.lendTo hS17 (by simp)
   refine WP.regw (g' := GW.lend g62 [m3]) rfl ?_
   have hcal26 := P.baizelaw35_at (GW.lend g62 [m3]) l4 x4 a4 n4 c4 hRl17 q8 hk26
   refine WP.callC hcal26 (by kernel_rfl) ?_
   rintro _ g68 st68 rfl
   have st69 := (GW.back_step st68).lentS
   have hO17 := hR4.backTo hS17 (by simp) st68 (fun x => x)
   refine WP.regw (g' := GW.back g62 g68 [m3]) rfl ?_
   generalize GW.back g62 g68 [m3] = g69 at *
   replace hR5 := hR5.mono st69 (WL.no1 (by omega)) (WL.no1 (by omega))
   replace hR3 := hR3.mono st69 (WL.no1 (by omega)) (WL.no1 (by omega))
   replace hR2 := hR2.mono st69 (WL.no1 (by omega)) (WL.no1 (by omega))
   replace hR1 := hR1.mono st69 (WL.no1 (by omega)) (WL.no1 (by omega))
   replace hB1 := hB1.mono st69 (WL.no1 (by omega))
   replace hB2 := hB2.mono st69 (WL.no1 (by omega))
   replace hB3 := hB3.mono st69 (WL.no1 (by omega))
   replace hB4 := hB4.mono st69 (WL.no1 (by omega))
   replace hR16 := hR16.mono st69 (WL.no1 (by omega)) (WL.no1 (by omega))
   replace hB5 := hB5.mono st69 (WL.no1 (by omega))
   replace hR17 := hR17.mono st69 (WL.no1 (by omega)) (WL.no1 (by omega))
   replace hR18 := hR18.mono st69 (WL.no1 (by omega)) (WL.no1 (by omega))
   replace hB18 := hB18.mono st69 (WL.no1 (by omega))
   replace tot := tot.trans (st69.up1 (.inl (by simp [WL])))
   clear hR4
   have hR4 : OwnS Kd.bool g69 m3 4 a4 n4 c4 l4 := hO17
   clear hO17
   refine WP.dn ?_
   refine NX.then_n ?_
   refine CP.cond (b := q8) (by kernel_rfl) (fun h11 => ?_) (fun h11 => ?_)
   ·replace hs := of_if_t hs h11
    replace hs := Option.bind_eq_some_iff.1 hs
    obtain ⟨d28, hk27, hs⟩ := hs
    replace hs := Option.bind_eq_some_iff.1 hs
    obtain ⟨⟨l25, x11, d29, d30⟩, hk28, hs⟩ := hs
    dsimp only at hs
    refine CP.drawL (by kernel_rfl) [1, 2, 6] N.baizelaw35_vote_2_0 [⟨none, [0], [], fun l g => OwnS (Kd.int .i64) g m1 3 a2 n2 c2 l2⟩, ⟨none, [], [], fun l g => Box g (t + 2) b2 49 [encA .u8 d2, [.slice a2 n2 c2]] [8, 1]⟩, ⟨none, [2], [], fun l g => Box g (t + 4) b4 91 [[.slice a16 n12 c14], [.map (some b5)]] [1, 1]⟩, ⟨none, [3], [], fun l g => OwnS k_S_notary_entry g (t + 7) 136 a16 n12 c14 l10⟩, ⟨none, [1], [], fun l g => MapB g (t + 5) b5 kv_S_notary_entry (Value.int .i64) w2⟩, ⟨some 0, [], [0], fun l g => l.getD 0 undef = AG [encA .u8 d2, [.slice a2 n2 c2]]⟩, ⟨some 1, [], [1], fun l g => l.getD 0 undef = AG [encA .u8 d28]⟩, ⟨some 1, [0], [], fun l g => OwnS (Kd.int .i64) g m1 3 a2 n2 c2 l2⟩, ⟨some 2, [1], [], fun l g => MapB g (t + 5) b5 kv_S_notary_entry (Value.int .i64) d29⟩, ⟨some 2, [2, 3], [2], fun l g => ∃ (a44 : Option Addr) (c38 : Nat) (a45 : Option Addr) (c39 : Nat), l.getD 0 undef = .tuple #[.slice a44 l25.length c38, .int .i64 x11] ∧ OwnS (Kd.int .u8) g (t + 26) 5 a44 l25.length c38 l25 ∧ OwnS k_S_notary_entry g (t + 7) 136 a45 d30.length c39 d30 ∧ Box g (t + 4) b4 91 [[.slice a45 d30.length c39], [.map (some b5)]] [1, 1]⟩] [[], [0], [1, 2, 3]] [m1, (t + 5), (t + 4), (t + 7)] [0, 3, 4, 5] [7, 8, 9, 10] (by kernel_rfl) (by simp <;> omega) (by simp <;> omega) ⟨fun _ _ _ _ st h0 hl hj hR2 => (hR2.mono st h0 (hj 0 (by simp) _ rfl)), fun _ _ _ _ st h0 hl hj hB2 => (hB2.mono st (fun h => absurd (hl _ h) (by simp <;> omega))), fun _ _ _ _ st h0 hl hj hB4 => (hB4.mono st (hj 2 (by simp) _ rfl)), fun _ _ _ _ st h0 hl hj hR16 => (hR16.mono st h0 (hj 3 (by simp) _ rfl)), fun _ _ _ _ st h0 hl hj hB5 => (hB5.mono st (hj 1 (by simp) _ rfl)), fun _ _ _ _ st h0 hl hj e0 => e0, fun _ _ _ _ st h0 hl hj e1 => e1, fun _ _ _ _ st h0 hl hj hR2 => (hR2.mono st h0 (hj 0 (by simp) _ rfl)), fun _ _ _ _ st h0 hl hj hB5 => (hB5.mono st (hj 1 (by simp) _ rfl)), fun _ _ _ _ st h0 hl hj ⟨a44, c38, a45, c39, e2, hR44, hR45, hB4⟩ => ⟨a44, c38, a45, c39, e2, (hR44.mono st h0 (fun h => absurd (hl _ h) (by simp <;> omega))), (hR45.mono st h0 (hj 3 (by simp) _ rfl)), (hB4.mono st (hj 2 (by simp) _ rfl))⟩, tv⟩ ⟨hR2, hB2, hB4, hR16, hB5, tv, tv, tv, tv, tv, tv⟩ (by kernel_rfl) (fun vs => by kernel_rfl) ?_ ?_ ?_
    ·intro j hj
     have hq : j = 0 ∨ j = 1 ∨ j = 2 ∨ j = 3 := by have h : j < 4 := hj; omega
     rcases hq with rfl | rfl | rfl | rfl
     ·intro vs gq stq hl hf
      obtain ⟨v0, v1, v2, rfl⟩ := len_k3 hl
      obtain ⟨a44, c38, a45, c39, e2, hR44, hR45, hB4⟩ := (show ∃ (a44 : Option Addr) (c38 : Nat) (a45 : Option Addr) (c39 : Nat), v2 = .tuple #[.slice a44 l25.length c38, .int .i64 x11] ∧ OwnS (Kd.int .u8) gq (t + 26) 5 a44 l25.length c38 l25 ∧ OwnS k_S_notary_entry gq (t + 7) 136 a45 d30.length c39 d30 ∧ Box gq (t + 4) b4 91 [[.slice a45 d30.length c39], [.map (some b5)]] [1, 1] from hf _ (memI 9 rfl) (by kernel_rfl))
      subst e2
      show Option.isSome _ = true
      kernel_rfl
     ·intro vs gq stq hl hf
      obtain ⟨v0, v1, v2, rfl⟩ := len_k3 hl
      obtain ⟨a44, c38, a45, c39, e2, hR44, hR45, hB4⟩ := (show ∃ (a44 : Option Addr) (c38 : Nat) (a45 : Option Addr) (c39 : Nat), v2 = .tuple #[.slice a44 l25.length c38, .int .i64 x11] ∧ OwnS (Kd.int .u8) gq (t + 26) 5 a44 l25.length c38 l25 ∧ OwnS k_S_notary_entry gq (t + 7) 136 a45 d30.length c39 d30 ∧ Box gq (t + 4) b4 91 [[.slice a45 d30.length c39], [.map (some b5)]] [1, 1] from hf _ (memI 9 rfl) (by kernel_rfl))
      subst e2
      show Option.isSome _ = true
      kernel_rfl
     ·intro vs gq stq hl hf
      obtain ⟨v0, v1, v2, rfl⟩ := len_k3 hl
      obtain ⟨a44, c38, a45, c39, e2, hR44, hR45, hB4⟩ := (show ∃ (a44 : Option Addr) (c38 : Nat) (a45 : Option Addr) (c39 : Nat), v2 = .tuple #[.slice a44 l25.length c38, .int .i64 x11] ∧ OwnS (Kd.int .u8) gq (t + 26) 5 a44 l25.length c38 l25 ∧ OwnS k_S_notary_entry gq (t + 7) 136 a45 d30.length c39 d30 ∧ Box gq (t + 4) b4 91 [[.slice a45 d30.length c39], [.map (some b5)]] [1, 1] from hf _ (memI 9 rfl) (by kernel_rfl))
      subst e2
      show Option.isSome _ = true
      kernel_rfl
     ·intro vs gq stq hl hf
      obtain ⟨v0, v1, v2, rfl⟩ := len_k3 hl
      obtain ⟨a44, c38, a45, c39, e2, hR44, hR45, hB4⟩ := (show ∃ (a44 : Option Addr) (c38 : Nat) (a45 : Option Addr) (c39 : Nat), v2 = .tuple #[.slice a44 l25.length c38, .int .i64 x11] ∧ OwnS (Kd.int .u8) gq (t + 26) 5 a44 l25.length c38 l25 ∧ OwnS k_S_notary_entry gq (t + 7) 136 a45 d30.length c39 d30 ∧ Box gq (t + 4) b4 91 [[.slice a45 d30.length c39], [.map (some b5)]] [1, 1] from hf _ (memI 9 rfl) (by kernel_rfl))
      subst e2
      show Option.isSome _ = true
      kernel_rfl
    ·intro j hj
     have hq : j = 0 ∨ j = 1 ∨ j = 2 := by have h : j < 3 := hj; omega
     rcases hq with rfl | rfl | rfl
     ·intro vs gq stq hl hf
      obtain ⟨v0, v1, v2, rfl⟩ := len_k3 hl
      have hB2 := (show Box gq (t + 2) b2 49 [encA .u8 d2, [.slice a2 n2 c2]] [8, 1] from hf _ (memI 1 rfl) (by kernel_rfl))
      refine WP.loadB (v := AG [encA .u8 d2, [.slice a2 n2 c2]]) hB2 (by kernel_rfl) (by kernel_rfl) ?_
      refine WP.dn (Shown.ok (v := AG [encA .u8 d2, [.slice a2 n2 c2]]) (by kernel_rfl) (Step.refl _ _) ?_)
      exact ⟨tv, tv, tv, tv, tv, rfl, tv, tv, tv, tv, tv⟩
     ·intro vs gq stq hl hf
      obtain ⟨v0, v1, v2, rfl⟩ := len_k3 hl
      have hR2 := (show OwnS (Kd.int .i64) gq m1 3 a2 n2 c2 l2 from hf _ (memI 0 rfl) (by kernel_rfl))
      have e0 := (show v0 = AG [encA .u8 d2, [.slice a2 n2 c2]] from hf _ (memI 5 rfl) (by kernel_rfl))
      subst e0
      have hS18 : 0 ∉ ([m1] : List Nat) := by simp <;> omega
      have stl18 := GW.lend_step gq [m1]
      have hRl18 := hR2.lendTo hS18 (by simp)
      refine WP.regw (g' := GW.lend gq [m1]) rfl ?_
      have hcal27 := P.state_Payout_Digest (GW.lend gq [m1]) d2 l2 a2 n2 c2 hRl18 d28 hk27
      refine WP.callC hcal27 (by kernel_rfl) ?_
      rintro _ g70 st70 rfl
      have st71 := (GW.back_step st70).lentS
      have hO18 := hR2.backTo hS18 (by simp) st70 (fun x => x)
      refine WP.regw (g' := GW.back gq g70 [m1]) rfl ?_
      generalize GW.back gq g70 [m1] = g71 at *
      refine WP.dn (Shown.o (v := AG [encA .u8 d28]) st71 ?_)
      exact ⟨tv, tv, tv, tv, tv, tv, rfl, hO18, tv, tv, tv⟩
     ·intro vs gq stq hl hf
      obtain ⟨v0, v1, v2, rfl⟩ := len_k3 hl
      have hB4 := (show Box gq (t + 4) b4 91 [[.slice a16 n12 c14], [.map (some b5)]] [1, 1] from hf _ (memI 2 rfl) (by kernel_rfl))
      have hR16 := (show OwnS k_S_notary_entry gq (t + 7) 136 a16 n12 c14 l10 from hf _ (memI 3 rfl) (by kernel_rfl))
      have hB5 := (show MapB gq (t + 5) b5 kv_S_notary_entry (Value.int .i64) w2 from hf _ (memI 4 rfl) (by kernel_rfl))
      have e1 := (show v1 = AG [encA .u8 d28] from hf _ (memI 6 rfl) (by kernel_rfl))
      subst e1
      have hcal28 := P.notary_bookSigner_Sign gq (t + 4) (t + 7) (t + 5) (t + 26) l10 w2 d18 d28 a16 n12 c14 b4 b5 hR16 hB5 hB4 (by omega) (by omega) (by omega) (by omega) (by omega) (by omega) l25 x11 d29 d30 hk28
      refine WP.callC hcal28 (by kernel_rfl) ?_
      rintro _ g72 st72 ⟨a44, n32, c38, a45, n33, c39, rfl, hR44, hB26, hR45, hB27⟩
      obtain rfl := hR44.len
      obtain rfl := hR45.len
      refine WP.dn (Shown.o (v := .tuple #[.slice a44 l25.length c38, .int .i64 x11]) st72 ?_)
      exact ⟨tv, tv, tv, tv, tv, tv, tv, tv, hB26, ⟨a44, c38, a45, c39, rfl, hR44, hR45, hB27⟩, tv⟩
    intro vs g73 st73 hl hf
    obtain ⟨v0, v1, v2, rfl⟩ := len_k3 hl
    have hR2 := (show OwnS (Kd.int .i64) g73 m1 3 a2 n2 c2 l2 from hf _ (memI 7 rfl) (by kernel_rfl))
    have hB5 := (show MapB g73 (t + 5) b5 kv_S_notary_entry (Value.int .i64) d29 from hf _ (memI 8 rfl) (by kernel_rfl))
    obtain ⟨a44, c38, a45, c39, e2, hR44, hR45, hB4⟩ := (show ∃ (a44 : Option Addr) (c38 : Nat) (a45 : Option Addr) (c39 : Nat), v2 = .tuple #[.slice a44 l25.length c38, .int .i64 x11] ∧ OwnS (Kd.int .u8) g73 (t + 26) 5 a44 l25.length c38 l25 ∧ OwnS k_S_notary_entry g73 (t + 7) 136 a45 d30.length c39 d30 ∧ Box g73 (t + 4) b4 91 [[.slice a45 d30.length c39], [.map (some b5)]] [1, 1] from hf _ (memI 9 rfl) (by kernel_rfl))
    subst e2
    replace hR5 := hR5.mono st73 (WL.no (by simp <;> omega)) (WL.no (by simp <;> omega))
    replace hR4 := hR4.mono st73 (WL.no (by simp <;> omega)) (WL.no (by simp <;> omega))
    replace hR3 := hR3.mono st73 (WL.no (by simp <;> omega)) (WL.no (by simp <;> omega))
    replace hR1 := hR1.mono st73 (WL.no (by simp <;> omega)) (WL.no (by simp <;> omega))
    replace hB1 := hB1.mono st73 (WL.no (by simp <;> omega))
    replace hB2 := hB2.mono st73 (WL.no (by simp <;> omega))
    replace hB3 := hB3.mono st73 (WL.no (by simp <;> omega))
    replace hR17 := hR17.mono st73 (WL.no (by simp <;> omega)) (WL.no (by simp <;> omega))
    replace hR18 := hR18.mono st73 (WL.no (by simp <;> omega)) (WL.no (by simp <;> omega))
    replace hB18 := hB18.mono st73 (WL.no (by simp <;> omega))
    replace tot := tot.trans (st73.up (by intro l hl; simp at hl; rcases hl with rfl | rfl | rfl | rfl <;> first | exact .inr (by omega) | exact .inl (by simp [WL])))
    obtain ⟨g74, hw5, st74, hnew⟩ := hR44.relab (by omega) (t + 21)
    refine NX.regw hw5 ?_
    replace hR5 := hR5.mono st74 (WL.no1 (by omega)) (WL.no1 (by omega))
    replace hR4 := hR4.mono st74 (WL.no1 (by omega)) (WL.no1 (by omega))
    replace hR3 := hR3.mono st74 (WL.no1 (by omega)) (WL.no1 (by omega))
    replace hR2 := hR2.mono st74 (WL.no1 (by omega)) (WL.no1 (by omega))
    replace hR1 := hR1.mono st74 (WL.no1 (by omega)) (WL.no1 (by omega))
    replace hB1 := hB1.mono st74 (WL.no1 (by omega))
    replace hB2 := hB2.mono st74 (WL.no1 (by omega))
    replace hB3 := hB3.mono st74 (WL.no1 (by omega))
    replace hB4 := hB4.mono st74 (WL.no1 (by omega))
    replace hR45 := hR45.mono st74 (WL.no1 (by omega)) (WL.no1 (by omega))
    replace hB5 := hB5.mono st74 (WL.no1 (by omega))
    replace hR17 := hR17.mono st74 (WL.no1 (by omega)) (WL.no1 (by omega))
    replace hR18 := hR18.mono st74 (WL.no1 (by omega)) (WL.no1 (by omega))
    replace hB18 := hB18.mono st74 (WL.no1 (by omega))
    replace tot := tot.trans (st74.up1 (.inr (by omega)))
    clear hR44
    have hR44 := hnew
    clear hnew
    refine NX.post ?_
    exact ⟨d30, a45, d30.length, c39, d29, l25, a44, l25.length, c38, ⟨by kernel_rfl, by kernel_rfl⟩, tot, hR5, hR4, hR3, hR2, hR1, hB1, hB2, hB3, hB4, hR45, hB5, hR17, hR18, hB18, hR44, hs⟩
   replace hs := of_if_f hs h11
   refine CP.skip ?_
   refine NX.post ?_
   exact ⟨l10, a16, n12, c14, w2, [], none, 0, 0, ⟨by kernel_rfl, by kernel_rfl⟩, tot, hR5, hR4, hR3, hR2, hR1, hB1, hB2, hB3, hB4, hR16, hB5, hR17, hR18, hB18, (OwnS.nil _ _ _ _), hs⟩
  clear tot hs hR5 hR4 hR3 hR2 hR1 hB1 hB2 hB3 hB4 hR16 hB5 hR17 hR18 hB18
  rintro tm g ⟨l22, a36, n28, c32, w5, l23, a37, n29, c33, hF, tot, hR5, hR4, hR3, hR2, hR1, hB1, hB2, hB3, hB4, hR36, hB5, hR17, hR18, hB18, hR37, hs⟩
  clear ds
  obtain ⟨ds, rfl⟩ := hF.open
  clear hF
  unfold F.baizelaw35_vote_2.c1 at hs
  refine CP.seqR ?_
  refine WP.stl 1 ?_
  refine WP.loadB (v := AG [encA .u8 (⟨[(IntKind.u8.wrap (IntKind.i64.wrap (x4 + 1))), 0, 0, 0, 0, 0, 0, 0], rfl⟩ : Arr Int 8)]) hB18 (by kernel_rfl) (by kernel_rfl) ?_
  refine WP.mkSl (kd := (Kd.arrI 8 .u8)) (t := 51) (e := 47) (bytes := 8) (t + 23) [AG [encA .u8 (⟨[(IntKind.u8.wrap (IntKind.i64.wrap (x4 + 1))), 0, 0, 0, 0, 0, 0, 0], rfl⟩ : Arr Int 8)]] [(⟨[(IntKind.u8.wrap (IntKind.i64.wrap (x4 + 1))), 0, 0, 0, 0, 0, 0, 0], rfl⟩ : Arr Int 8)] (by kernel_rfl) (by kernel_rfl) (Nat.le_of_ble_eq_true rfl) (Nat.le_of_ble_eq_true rfl) (all_cons (Kd.len (Kd.arrI 8 .u8) (g := g) (x := (⟨[(IntKind.u8.wrap (IntKind.i64.wrap (x4 + 1))), 0, 0, 0, 0, 0, 0, 0], rfl⟩ : Arr Int 8)) (AG_one _)) all_nil) (⟨_, _, rfl, (AG_one _), rfl⟩) rfl ?_
  intro g56 a38 st56 hR38
  replace hR5 := hR5.mono st56 (fun x => x) (fun x => x)
  replace hR4 := hR4.mono st56 (fun x => x) (fun x => x)
  replace hR3 := hR3.mono st56 (fun x => x) (fun x => x)
  replace hR2 := hR2.mono st56 (fun x => x) (fun x => x)
  replace hR1 := hR1.mono st56 (fun x => x) (fun x => x)
  replace hB1 := hB1.mono st56 (fun x => x)
  replace hB2 := hB2.mono st56 (fun x => x)
  replace hB3 := hB3.mono st56 (fun x => x)
  replace hB4 := hB4.mono st56 (fun x => x)
  replace hR36 := hR36.mono st56 (fun x => x) (fun x => x)
  replace hB5 := hB5.mono st56 (fun x => x)
  replace hR17 := hR17.mono st56 (fun x => x) (fun x => x)
  replace hR18 := hR18.mono st56 (fun x => x) (fun x => x)
  replace hB18 := hB18.mono st56 (fun x => x)
  replace hR37 := hR37.mono st56 (fun x => x) (fun x => x)
  replace tot := tot.trans st56.pure
  by_cases hc5 : l11.length + ([(⟨[(IntKind.u8.wrap (IntKind.i64.wrap (x4 + 1))), 0, 0, 0, 0, 0, 0, 0], rfl⟩ : Arr Int 8)]).length ≤ 17592186044416
  case neg => rw [if_neg hc5] at hs; cases hs
  replace hs := of_if_p hs hc5
  refine WP.append (kd := (Kd.arrI 8 .u8)) (t := 51) (e := 47) (bytes := 8) (a2 := a38) (c2 := 1) hR17 hR38.src hR38.len (by kernel_rfl) (by kernel_rfl) (by omega) (by simp only [maxLen]; omega) (by omega) ?_
  intro g57 a39 c34 st57 hR39
  replace hR5 := hR5.mono st57 (WL.no1 (by omega)) (WL.no1 (by omega))
  replace hR4 := hR4.mono st57 (WL.no1 (by omega)) (WL.no1 (by omega))
  replace hR3 := hR3.mono st57 (WL.no1 (by omega)) (WL.no1 (by omega))
  replace hR2 := hR2.mono st57 (WL.no1 (by omega)) (WL.no1 (by omega))
  replace hR1 := hR1.mono st57 (WL.no1 (by omega)) (WL.no1 (by omega))
  replace hB1 := hB1.mono st57 (WL.no1 (by omega))
  replace hB2 := hB2.mono st57 (WL.no1 (by omega))
  replace hB3 := hB3.mono st57 (WL.no1 (by omega))
  replace hB4 := hB4.mono st57 (WL.no1 (by omega))
  replace hR36 := hR36.mono st57 (WL.no1 (by omega)) (WL.no1 (by omega))
  replace hB5 := hB5.mono st57 (WL.no1 (by omega))
  replace hR18 := hR18.mono st57 (WL.no1 (by omega)) (WL.no1 (by omega))
  replace hB18 := hB18.mono st57 (WL.no1 (by omega))
  replace hR37 := hR37.mono st57 (WL.no1 (by omega)) (WL.no1 (by omega))
  replace hR38 := hR38.mono st57 (WL.no1 (by omega)) (WL.no1 (by omega))
  replace tot := tot.trans (st57.up1 (.inr (by omega)))
  refine WP.stl 1 ?_
  refine WP.dn ?_
  refine NX.then_n ?_
  refine CP.region ?_
  refine WP.stl 2 ?_
  obtain ⟨g59, hw3, st59, hnew⟩ := hR37.freeze (by omega)
  refine WP.regw hw3 ?_
  replace hR5 := hR5.mono st59 (WL.no1 (by omega)) (WL.no1 (by omega))
  replace hR4 := hR4.mono st59 (WL.no1 (by omega)) (WL.no1 (by omega))
  replace hR3 := hR3.mono st59 (WL.no1 (by omega)) (WL.no1 (by omega))
  replace hR2 := hR2.mono st59 (WL.no1 (by omega)) (WL.no1 (by omega))
  replace hR1 := hR1.mono st59 (WL.no1 (by omega)) (WL.no1 (by omega))
  replace hB1 := hB1.mono st59 (WL.no1 (by omega))
  replace hB2 := hB2.mono st59 (WL.no1 (by omega))
  replace hB3 := hB3.mono st59 (WL.no1 (by omega))
  replace hB4 := hB4.mono st59 (WL.no1 (by omega))
  replace hR36 := hR36.mono st59 (WL.no1 (by omega)) (WL.no1 (by omega))
  replace hB5 := hB5.mono st59 (WL.no1 (by omega))
  replace hR39 := hR39.mono st59 (WL.no1 (by omega)) (WL.no1 (by omega))
  replace hR18 := hR18.mono st59 (WL.no1 (by omega)) (WL.no1 (by omega))
  replace tot := tot.trans (st59.up1 (.inr (by omega)))
  clear hR37
  have hR37 := hnew
  clear hnew
  refine WP.mkSl (kd := (Kd.slice 5 (Kd.int .u8))) (t := 52) (e := 74) (bytes := 24) (t + 24) [.slice a37 n29 c33] [l23] (by kernel_rfl) (by kernel_rfl) (Nat.le_of_ble_eq_true rfl) (Nat.le_of_ble_eq_true rfl) (all_cons rfl all_nil) (⟨_, _, rfl, (by exact ⟨_, _, _, rfl, hR37⟩), rfl⟩) rfl ?_
  intro g58 a40 st58 hR40
  replace hR5 := hR5.mono st58 (fun x => x) (fun x => x)
  replace hR4 := hR4.mono st58 (fun x => x) (fun x => x)
  replace hR3 := hR3.mono st58 (fun x => x) (fun x => x)
  replace hR2 := hR2.mono st58 (fun x => x) (fun x => x)
  replace hR1 := hR1.mono st58 (fun x => x) (fun x => x)
  replace hB1 := hB1.mono st58 (fun x => x)
  replace hB2 := hB2.mono st58 (fun x => x)
  replace hB3 := hB3.mono st58 (fun x => x)
  replace hB4 := hB4.mono st58 (fun x => x)
  replace hR36 := hR36.mono st58 (fun x => x) (fun x => x)
  replace hB5 := hB5.mono st58 (fun x => x)
  replace hR39 := hR39.mono st58 (fun x => x) (fun x => x)
  replace hR18 := hR18.mono st58 (fun x => x) (fun x => x)
  replace hR37 := hR37.mono st58 (fun x => x)
  replace tot := tot.trans st58.pure
  by_cases hc6 : l12.length + ([l23]).length ≤ 5864062014805
  case neg => rw [if_neg hc6] at hs; cases hs
  replace hs := of_if_p hs hc6
  refine WP.append (kd := (Kd.slice 5 (Kd.int .u8))) (t := 52) (e := 74) (bytes := 24) (a2 := a40) (c2 := 1) hR18 hR40.src hR40.len (by kernel_rfl) (by kernel_rfl) (by omega) (by simp only [maxLen]; omega) (by omega) ?_
  intro g60 a41 c35 st60 hR41
  replace hR5 := hR5.mono st60 (WL.no1 (by omega)) (WL.no1 (by omega))
  replace hR4 := hR4.mono st60 (WL.no1 (by omega)) (WL.no1 (by omega))
  replace hR3 := hR3.mono st60 (WL.no1 (by omega)) (WL.no1 (by omega))
  replace hR2 := hR2.mono st60 (WL.no1 (by omega)) (WL.no1 (by omega))
  replace hR1 := hR1.mono st60 (WL.no1 (by omega)) (WL.no1 (by omega))
  replace hB1 := hB1.mono st60 (WL.no1 (by omega))
  replace hB2 := hB2.mono st60 (WL.no1 (by omega))
  replace hB3 := hB3.mono st60 (WL.no1 (by omega))
  replace hB4 := hB4.mono st60 (WL.no1 (by omega))
  replace hR36 := hR36.mono st60 (WL.no1 (by omega)) (WL.no1 (by omega))
  replace hB5 := hB5.mono st60 (WL.no1 (by omega))
  replace hR39 := hR39.mono st60 (WL.no1 (by omega)) (WL.no1 (by omega))
  replace hR37 := hR37.mono st60 (WL.no1 (by omega))
  replace hR40 := hR40.mono st60 (WL.no1 (by omega)) (WL.no1 (by omega))
  replace tot := tot.trans (st60.up1 (.inr (by omega)))
  refine WP.stl 1 ?_
  refine WP.dn ?_
  refine NX.block_n ?_
  refine NX.then_n ?_
  refine CP.region ?_
  refine WP.stl 3 ?_
  refine WP.dn ?_
  refine NX.post ?_
  exact ⟨l22, a36, n28, c32, w5, (l11 ++ [(⟨[(IntKind.u8.wrap (IntKind.i64.wrap (x4 + 1))), 0, 0, 0, 0, 0, 0, 0], rfl⟩ : Arr Int 8)]), a39, (n13 + 1), c34, (l12 ++ [l23]), a41, (n14 + 1), c35, (IntKind.i64.wrap (x4 + 1)), ⟨by kernel_rfl, by kernel_rfl⟩, tot, hR5, hR4, hR3, hR2, hR1, hB1, hB2, hB3, hB4, hR36, hB5, hR39, hR41, hs⟩
 replace hs := of_if_f hs h7
 refine CP.exit ?_
 refine NX.then_e ?_
 refine NX.then_e ?_
 refine NX.block_s ?_
 refine NX.then_n ?_
 refine CP.seqR ?_
 refine WP.stl 6 ?_
 refine WP.dn ?_
 refine NX.then_n ?_
 refine CP.ret ?_
 obtain ⟨g75, hw6, st75, hnew⟩ := hB4.relab r0
 refine NX.regw hw6 ?_
 replace hR5 := hR5.mono st75 (WL.no1 (by omega)) (WL.no1 (by omega))
 replace hR4 := hR4.mono st75 (WL.no1 (by omega)) (WL.no1 (by omega))
 replace hR3 := hR3.mono st75 (WL.no1 (by omega)) (WL.no1 (by omega))
 replace hR2 := hR2.mono st75 (WL.no1 (by omega)) (WL.no1 (by omega))
 replace hR1 := hR1.mono st75 (WL.no1 (by omega)) (WL.no1 (by omega))
 replace hR16 := hR16.mono st75 (WL.no1 (by omega)) (WL.no1 (by omega))
 replace hB5 := hB5.mono st75 (WL.no1 (by omega))
 replace hR17 := hR17.mono st75 (WL.no1 (by omega)) (WL.no1 (by omega))
 replace hR18 := hR18.mono st75 (WL.no1 (by omega)) (WL.no1 (by omega))
 replace tot := tot.trans (st75.up1 (.inr (by omega)))
 clear hB4
 have hB4 := hnew
 clear hnew
 obtain ⟨g76, hw7, st76, hnew⟩ := hR16.relab (by omega) r1
 refine NX.regw hw7 ?_
 replace hR5 := hR5.mono st76 (WL.no1 (by omega)) (WL.no1 (by omega))
 replace hR4 := hR4.mono st76 (WL.no1 (by omega)) (WL.no1 (by omega))
 replace hR3 := hR3.mono st76 (WL.no1 (by omega)) (WL.no1 (by omega))
 replace hR2 := hR2.mono st76 (WL.no1 (by omega)) (WL.no1 (by omega))
 replace hR1 := hR1.mono st76 (WL.no1 (by omega)) (WL.no1 (by omega))
 replace hB4 := hB4.mono st76 (WL.no1 (by omega))
 replace hB5 := hB5.mono st76 (WL.no1 (by omega))
 replace hR17 := hR17.mono st76 (WL.no1 (by omega)) (WL.no1 (by omega))
 replace hR18 := hR18.mono st76 (WL.no1 (by omega)) (WL.no1 (by omega))
 replace tot := tot.trans (st76.up1 (.inr (by omega)))
 clear hR16
 have hR16 := hnew
 clear hnew
 obtain ⟨g77, hw8, st77, hnew⟩ := hB5.relab r2
 refine NX.regw hw8 ?_
 replace hR5 := hR5.mono st77 (WL.no1 (by omega)) (WL.no1 (by omega))
 replace hR4 := hR4.mono st77 (WL.no1 (by omega)) (WL.no1 (by omega))
 replace hR3 := hR3.mono st77 (WL.no1 (by omega)) (WL.no1 (by omega))
 replace hR2 := hR2.mono st77 (WL.no1 (by omega)) (WL.no1 (by omega))
 replace hR1 := hR1.mono st77 (WL.no1 (by omega)) (WL.no1 (by omega))
 replace hB4 := hB4.mono st77 (WL.no1 (by omega))
 replace hR16 := hR16.mono st77 (WL.no1 (by omega)) (WL.no1 (by omega))
 replace hR17 := hR17.mono st77 (WL.no1 (by omega)) (WL.no1 (by omega))
 replace hR18 := hR18.mono st77 (WL.no1 (by omega)) (WL.no1 (by omega))
 replace tot := tot.trans (st77.up1 (.inr (by omega)))
 clear hB5
 have hB5 := hnew
 clear hnew
 obtain ⟨g78, hw9, st78, hnew⟩ := hR17.relab (by omega) r3
 refine NX.regw hw9 ?_
 replace hR5 := hR5.mono st78 (WL.no1 (by omega)) (WL.no1 (by omega))
 replace hR4 := hR4.mono st78 (WL.no1 (by omega)) (WL.no1 (by omega))
 replace hR3 := hR3.mono st78 (WL.no1 (by omega)) (WL.no1 (by omega))
 replace hR2 := hR2.mono st78 (WL.no1 (by omega)) (WL.no1 (by omega))
 replace hR1 := hR1.mono st78 (WL.no1 (by omega)) (WL.no1 (by omega))
 replace hB4 := hB4.mono st78 (WL.no1 (by omega))
 replace hR16 := hR16.mono st78 (WL.no1 (by omega)) (WL.no1 (by omega))
 replace hB5 := hB5.mono st78 (WL.no1 (by omega))
 replace hR18 := hR18.mono st78 (WL.no1 (by omega)) (WL.no1 (by omega))
 replace tot := tot.trans (st78.up1 (.inr (by omega)))
 clear hR17
 have hR17 := hnew
 clear hnew
 obtain ⟨g79, hw10, st79, hnew⟩ := hR18.relab (by omega) r4
 refine NX.regw hw10 ?_
 replace hR5 := hR5.mono st79 (WL.no1 (by omega)) (WL.no1 (by omega))
 replace hR4 := hR4.mono st79 (WL.no1 (by omega)) (WL.no1 (by omega))
 replace hR3 := hR3.mono st79 (WL.no1 (by omega)) (WL.no1 (by omega))
 replace hR2 := hR2.mono st79 (WL.no1 (by omega)) (WL.no1 (by omega))
 replace hR1 := hR1.mono st79 (WL.no1 (by omega)) (WL.no1 (by omega))
 replace hB4 := hB4.mono st79 (WL.no1 (by omega))
 replace hR16 := hR16.mono st79 (WL.no1 (by omega)) (WL.no1 (by omega))
 replace hB5 := hB5.mono st79 (WL.no1 (by omega))
 replace hR17 := hR17.mono st79 (WL.no1 (by omega)) (WL.no1 (by omega))
 replace tot := tot.trans (st79.up1 (.inr (by omega)))
 clear hR18
 have hR18 := hnew
 clear hnew
 replace hs := Option.some.inj hs
 simp only [Prod.mk.injEq] at hs
 obtain ⟨rfl, rfl, rfl, rfl, rfl, rfl, rfl, rfl, rfl⟩ := hs
 exact NX.fin (v := .tuple #[.pointer (some ⟨b4, 0, none⟩), .slice a17 n13 c15, .slice a18 n14 c16]) (Res.still (by kernel_rfl)) tot htL ⟨b4, a16, n12, c14, b5, a17, n13, c15, a18, n14, c16, rfl, hB4, hR16, hB5, hR17, hR18, hR1, hR2, hR3, hR4, hR5⟩
def F.baizeref03_Right.c1 (q1 : Bool) : Option (Bool) := (some q1)
def F.baizeref03_Right (x1 : Int) : Option (Bool) := (if decide (x1 ≥ 0) = true then (F.baizeref03_Right.c1 (decide (x1 ≤ 1125899906842624))) else (F.baizeref03_Right.c1 false))
theorem P.baizeref03_Right (g0 : GW) (x1 : Int) (o1 : Bool) (hs : F.baizeref03_Right x1 = some o1) :
  Calls Try.prog 25 #[.int .i64 x1] g0.w (Ret NoM g0 fun v g => v = .bool o1) := by
 refine calls_of (args := [.int .i64 x1]) Try.func25 rfl (0) ?_
 intro t ht htL
 refine ⟨_, rfl, ?_⟩
 refine CP.refr 9 [(0, .int .i64 x1)] (by kernel_rfl) (by kernel_rfl) ?_
 intro ds
 have tot : Step (fun l => NoM l ∨ t ≤ l) g0 g0 := Step.refl _ _
 unfold F.baizeref03_Right at hs
 refine CP.seqR ?_
 refine WP.stl 1 ?_
 refine WP.dn ?_
 refine NX.then_n ?_
 refine CP.cut (fun tm g => ∃ (q1 : Bool), Fr 9 [(2, .bool q1)] tm ∧ Step (fun l => NoM l ∨ t ≤ l) g0 g ∧ (F.baizeref03_Right.c1 q1) = some o1) ?_ ?_
 ·refine CP.region ?_
  refine WP.stl 3 ?_
  refine WP.guard 5 (b := decide (x1 ≥ 0)) (by kernel_rfl) (fun h2 => ?_) (fun h2 => ?_)
  ·replace hs := of_if_t hs h2
   refine WP.stl 4 ?_
   refine WP.dn ?_
   refine NX.post ?_
   exact ⟨decide (x1 ≤ 1125899906842624), ⟨by kernel_rfl, by kernel_rfl⟩, tot, hs⟩
  replace hs := of_if_f hs h2
  refine WP.stl 4 ?_
  refine WP.dn ?_
  refine NX.post ?_
  exact ⟨false, ⟨by kernel_rfl, by kernel_rfl⟩, tot, hs⟩
 clear tot hs
 rintro tm g ⟨q1, hF, tot, hs⟩
 clear ds
 obtain ⟨ds, rfl⟩ := hF.open
 clear hF
 unfold F.baizeref03_Right.c1 at hs
 refine CP.ret ?_
 replace hs := Option.some.inj hs
 obtain rfl := hs
 exact NX.fin (v := .bool q1) (Res.still (by kernel_rfl)) tot htL rfl
def F.baizeref03_Add.c1 (x1 : Int) (x2 : Int) (q4 : Bool) : Option (Int × Int) := (if q4 = true then (some (0, 2)) else (some ((IntKind.i64.wrap (x1 + x2)), 0)))
def F.baizeref03_Add (x1 : Int) (x2 : Int) : Option (Int × Int) := ((F.baizeref03_Right x1).bind fun q5 => (if (!q5) = true then (F.baizeref03_Add.c1 x1 x2 true) else ((F.baizeref03_Right x2).bind fun q6 => (if (!q6) = true then (F.baizeref03_Add.c1 x1 x2 true) else ((F.baizeref03_Right (IntKind.i64.wrap (x1 + x2))).bind fun q7 => (F.baizeref03_Add.c1 x1 x2 (!q7)))))))
theorem P.baizeref03_Add (g0 : GW) (x1 : Int) (x2 : Int) (o1 : Int) (o2 : Int) (hs : F.baizeref03_Add x1 x2 = some (o1, o2)) :
  Calls Try.prog 30 #[.int .i64 x1, .int .i64 x2] g0.w (Ret NoM g0 fun v g => v = .tuple #[.int .i64 o1, .int .i64 o2]) := by
 refine calls_of (args := [.int .i64 x1, .int .i64 x2]) Try.func30 rfl (0) ?_
 intro t ht htL
 refine ⟨_, rfl, ?_⟩
 refine CP.refr 24 [(0, .int .i64 x1), (1, .int .i64 x2)] (by kernel_rfl) (by kernel_rfl) ?_
 intro ds
 have tot : Step (fun l => NoM l ∨ t ≤ l) g0 g0 := Step.refl _ _
 unfold F.baizeref03_Add at hs
 refine CP.seqR ?_
 refine WP.stl 2 ?_
 refine WP.dn ?_
 refine NX.then_n ?_
 refine CP.seq ?_
 refine CP.cut (fun tm g => ∃ (q4 : Bool), Fr 24 [(0, .int .i64 x1), (1, .int .i64 x2), (20, .bool q4)] tm ∧ Step (fun l => NoM l ∨ t ≤ l) g0 g ∧ (F.baizeref03_Add.c1 x1 x2 q4) = some (o1, o2)) ?_ ?_
 ·refine CP.region ?_
  refine WP.stl 1 ?_
  replace hs := Option.bind_eq_some_iff.1 hs
  obtain ⟨q5, hk4, hs⟩ := hs
  have hcal4 := P.baizeref03_Right g0 x1 q5 hk4
  refine WP.callC hcal4 (by kernel_rfl) ?_
  rintro _ g4 st4 rfl
  replace tot := tot.trans st4.pure
  refine WP.stl 2 ?_
  refine WP.guard 9 (b := (!q5)) (by kernel_rfl) (fun h4 => ?_) (fun h4 => ?_)
  ·replace hs := of_if_t hs h4
   refine WP.stl 11 ?_
   refine WP.dn ?_
   refine NX.post ?_
   exact ⟨true, ⟨by kernel_rfl, by kernel_rfl⟩, tot, hs⟩
  replace hs := of_if_f hs h4
  refine WP.stl 1 ?_
  replace hs := Option.bind_eq_some_iff.1 hs
  obtain ⟨q6, hk5, hs⟩ := hs
  have hcal5 := P.baizeref03_Right g4 x2 q6 hk5
  refine WP.callC hcal5 (by kernel_rfl) ?_
  rintro _ g5 st5 rfl
  replace tot := tot.trans st5.pure
  refine WP.stl 3 ?_
  refine WP.guard 14 (b := (!q6)) (by kernel_rfl) (fun h5 => ?_) (fun h5 => ?_)
  ·replace hs := of_if_t hs h5
   refine WP.stl 6 ?_
   refine WP.dn ?_
   refine NX.post ?_
   exact ⟨true, ⟨by kernel_rfl, by kernel_rfl⟩, tot, hs⟩
  replace hs := of_if_f hs h5
  refine WP.stl 3 ?_
  replace hs := Option.bind_eq_some_iff.1 hs
  obtain ⟨q7, hk6, hs⟩ := hs
  have hcal6 := P.baizeref03_Right g5 (IntKind.i64.wrap (x1 + x2)) q7 hk6
  refine WP.callC hcal6 (by kernel_rfl) ?_
  rintro _ g6 st6 rfl
  replace tot := tot.trans st6.pure
  refine WP.stl 2 ?_
  refine WP.dn ?_
  refine NX.post ?_
  exact ⟨(!q7), ⟨by kernel_rfl, by kernel_rfl⟩, tot, hs⟩
 clear tot hs
 rintro tm g ⟨q4, hF, tot, hs⟩
 clear ds
 obtain ⟨ds, rfl⟩ := hF.open
 clear hF
 unfold F.baizeref03_Add.c1 at hs
 refine CP.cond (b := q4) (by kernel_rfl) (fun h3 => ?_) (fun h3 => ?_)
 ·replace hs := of_if_t hs h3
  refine CP.seqR ?_
  refine WP.stl 2 ?_
  refine WP.dn ?_
  refine NX.then_n ?_
  refine CP.ret ?_
  refine NX.then_r ?_
  replace hs := Option.some.inj hs
  obtain ⟨rfl, rfl⟩ := Prod.mk.inj hs
  exact NX.fin (v := .tuple #[.int .i64 0, .int .i64 2]) (Res.still (by kernel_rfl)) tot htL rfl
 replace hs := of_if_f hs h3
 refine CP.skip ?_
 refine NX.then_n ?_
 refine CP.seqR ?_
 refine WP.stl 5 ?_
 refine WP.dn ?_
 refine NX.then_n ?_
 refine CP.ret ?_
 replace hs := Option.some.inj hs
 obtain ⟨rfl, rfl⟩ := Prod.mk.inj hs
 exact NX.fin (v := .tuple #[.int .i64 (IntKind.i64.wrap (x1 + x2)), .int .i64 0]) (Res.still (by kernel_rfl)) tot htL rfl
def F.baizeref03_Sum.l1 (l1 : List Int) : Nat → Int → Int → Option (Int × Int)
 | 0, _, _ => none
 | k + 1, x3, x4 => (if decide (x4 < (l1.length : Int)) = true then (if (0 : Int) ≤ x4 ∧ x4 < (l1.length : Int) then ((F.baizeref03_Add x3 (getI l1 x4)).bind fun (x9, x10) => (if (x10 != 0) = true then (some (0, x10)) else (F.baizeref03_Sum.l1 l1 k x9 (IntKind.i64.wrap (x4 + 1))))) else none) else (some (x3, 0)))
def F.baizeref03_Sum (l1 : List Int) : Option (Int × Int) := (F.baizeref03_Sum.l1 l1 fuel 0 0)
theorem P.baizeref03_Sum (g0 : GW) (l1 : List Int) (a1 : Option Addr) (n1 : Nat) (c1 : Nat) (hR1 : RdS (Kd.int .i64) g0 3 a1 n1 c1 l1) (o1 : Int) (o2 : Int) (hs : F.baizeref03_Sum l1 = some (o1, o2)) :
  Calls Try.prog 15 #[.slice a1 n1 c1] g0.w (Ret NoM g0 fun v g => v = .tuple #[.int .i64 o1, .int .i64 o2]) := by
 refine calls_of (args := [.slice a1 n1 c1]) Try.func15 rfl (0) ?_
 intro t ht htL
 refine ⟨_, rfl, ?_⟩
 refine CP.refr 28 [(0, .slice a1 n1 c1)] (by kernel_rfl) (by kernel_rfl) ?_
 intro ds
 have tot : Step (fun l => NoM l ∨ t ≤ l) g0 g0 := Step.refl _ _
 unfold F.baizeref03_Sum at hs
 refine CP.seqR ?_
 refine WP.stl 2 ?_
 refine WP.dn ?_
 refine NX.then_n ?_
 refine CP.seqR ?_
 refine WP.stl 1 ?_
 refine WP.dn ?_
 refine NX.then_n ?_
 refine CP.seq ?_
 refine CP.seqR ?_
 refine WP.stl 1 ?_
 refine WP.dn ?_
 refine NX.then_n ?_
 refine CP.block ?_
 generalize fuel = k1 at hs
 refine CP.loop (fun k1 tm g => ∃ (x3 : Int) (x4 : Int), Fr 28 [(0, .slice a1 n1 c1), (4, .int .i64 x3), (5, .int .i64 x4)] tm ∧ Step (fun l => NoM l ∨ t ≤ l) g0 g ∧ RdS (Kd.int .i64) g 3 a1 n1 c1 l1 ∧ F.baizeref03_Sum.l1 l1 k1 x3 x4 = some (o1, o2)) k1 ?_ ?_ ?_
 ·exact ⟨0, 0, ⟨by kernel_rfl, by kernel_rfl⟩, tot, hR1, hs⟩
 ·rintro tm g ⟨x3, x4, hF, tot, hR1, hs⟩
  exact absurd hs (by simp [F.baizeref03_Sum.l1])
 clear tot hs hR1
 rintro k1 tm g ⟨x3, x4, hF, tot, hR1, hs⟩
 clear ds
 obtain ⟨ds, rfl⟩ := hF.open
 clear hF
 unfold F.baizeref03_Sum.l1 at hs
 refine CP.seq ?_
 refine CP.seqR ?_
 refine WP.stl 2 ?_
 refine WP.len (a := a1) (cp := c1) hR1.len (by kernel_rfl) ?_
 refine WP.stl 1 ?_
 refine WP.dn ?_
 refine NX.then_n ?_
 refine CP.cond (b := decide (x4 < (l1.length : Int))) (by kernel_rfl) (fun h5 => ?_) (fun h5 => ?_)
 ·replace hs := of_if_t hs h5
  refine CP.skip ?_
  refine NX.then_n ?_
  refine CP.seq ?_
  refine CP.block ?_
  refine CP.seqR ?_
  refine WP.stl 3 ?_
  by_cases hc3 : (0 : Int) ≤ x4 ∧ x4 < (l1.length : Int)
  case neg => rw [if_neg hc3] at hs; cases hs
  replace hs := of_if_p hs hc3
  obtain ⟨b3, u3, ha3⟩ := hR1.at hc3
  refine WP.indexA (t := 22) (e := 3) (sz := 1) (cap := c1) (k := .i64) (i := x4) hR1.len ha3 (by kernel_rfl) (by kernel_rfl) hc3 ?_
  obtain ⟨cs3, hcR3, hcV3⟩ := hR1.src.view (getI_some hc3) ha3
  replace hcR3 := Kd.o_int hcR3
  refine WP.loadV [[.int .i64 (getI l1 x4)]] [1] hcV3 hcR3 rfl (f := 0) (ty := 3) (agg := false) (size := 1) (rs := [[.int .i64 (getI l1 x4)]]) (v := .int .i64 (getI l1 x4)) (by kernel_rfl) (by kernel_rfl) (by kernel_rfl) (by kernel_rfl) ?_
  replace hs := Option.bind_eq_some_iff.1 hs
  obtain ⟨⟨x9, x10⟩, hk3, hs⟩ := hs
  dsimp only at hs
  have hcal3 := P.baizeref03_Add g x3 (getI l1 x4) x9 x10 hk3
  refine WP.callC hcal3 (by kernel_rfl) ?_
  rintro _ g3 st3 rfl
  replace hR1 := hR1.mono st3 (fun x => x)
  replace tot := tot.trans st3.pure
  refine WP.stl 5 ?_
  refine WP.dn ?_
  refine NX.then_n ?_
  refine CP.refr 28 [(0, .slice a1 n1 c1), (5, .int .i64 x4), (6, .int .i64 x9), (7, .int .i64 x10)] (by kernel_rfl) (by kernel_rfl) ?_
  clear ds
  intro ds
  refine CP.seq ?_
  refine CP.seqR ?_
  refine WP.stl 2 ?_
  refine WP.dn ?_
  refine NX.then_n ?_
  refine CP.cond (b := (x10 != 0)) (by kernel_rfl) (fun h6 => ?_) (fun h6 => ?_)
  ·replace hs := of_if_t hs h6
   refine CP.seqR ?_
   refine WP.stl 3 ?_
   refine WP.dn ?_
   refine NX.then_n ?_
   refine CP.ret ?_
   refine NX.then_r ?_
   refine NX.block_r ?_
   refine NX.then_r ?_
   refine NX.then_r ?_
   refine NX.block_r ?_
   refine NX.then_r ?_
   replace hs := Option.some.inj hs
   obtain ⟨rfl, rfl⟩ := Prod.mk.inj hs
   exact NX.fin (v := .tuple #[.int .i64 0, .int .i64 x10]) (Res.still (by kernel_rfl)) tot htL rfl
  replace hs := of_if_f hs h6
  refine CP.skip ?_
  refine NX.then_n ?_
  refine CP.region ?_
  refine WP.stl 2 ?_
  refine WP.dn ?_
  refine NX.block_n ?_
  refine NX.then_n ?_
  refine CP.region ?_
  refine WP.stl 3 ?_
  refine WP.dn ?_
  refine NX.post ?_
  exact ⟨x9, (IntKind.i64.wrap (x4 + 1)), ⟨by kernel_rfl, by kernel_rfl⟩, tot, hR1, hs⟩
 replace hs := of_if_f hs h5
 refine CP.exit ?_
 refine NX.then_e ?_
 refine NX.then_e ?_
 refine NX.block_s ?_
 refine NX.then_n ?_
 refine CP.seqR ?_
 refine WP.stl 3 ?_
 refine WP.dn ?_
 refine NX.then_n ?_
 refine CP.ret ?_
 replace hs := Option.some.inj hs
 obtain ⟨rfl, rfl⟩ := Prod.mk.inj hs
 exact NX.fin (v := .tuple #[.int .i64 x3, .int .i64 0]) (Res.still (by kernel_rfl)) tot htL rfl
def F.slices_Index_bool_bool.l1 (l1 : List Bool) (q1 : Bool) : Nat → Int → Option (Int)
 | 0, _ => none
 | k + 1, x1 => (if decide (x1 < (l1.length : Int)) = true then (if (0 : Int) ≤ x1 ∧ x1 < (l1.length : Int) then (if (q1 == (getI l1 x1)) = true then (some x1) else (F.slices_Index_bool_bool.l1 l1 q1 k (IntKind.i64.wrap (x1 + 1)))) else none) else (some (-1)))
def F.slices_Index_bool_bool (l1 : List Bool) (q1 : Bool) : Option (Int) := (F.slices_Index_bool_bool.l1 l1 q1 fuel 0)
theorem P.slices_Index_bool_bool (g0 : GW) (l1 : List Bool) (q1 : Bool) (a1 : Option Addr) (n1 : Nat) (c1 : Nat) (hR1 : RdS Kd.bool g0 4 a1 n1 c1 l1) (o1 : Int) (hs : F.slices_Index_bool_bool l1 q1 = some o1) :
  Calls Try.prog 48 #[.slice a1 n1 c1, .bool q1] g0.w (Ret NoM g0 fun v g => v = .int .i64 o1) := by
 refine calls_of (args := [.slice a1 n1 c1, .bool q1]) Try.func48 rfl (0) ?_
 intro t ht htL
 refine ⟨_, rfl, ?_⟩
 refine CP.refr 19 [(0, .slice a1 n1 c1), (1, .bool q1)] (by kernel_rfl) (by kernel_rfl) ?_
 intro ds
 have tot : Step (fun l => NoM l ∨ t ≤ l) g0 g0 := Step.refl _ _
 unfold F.slices_Index_bool_bool at hs
 refine CP.seqR ?_
 refine WP.stl 1 ?_
 refine WP.dn ?_
 refine NX.then_n ?_
 refine CP.seq ?_
 refine CP.seqR ?_
 refine WP.stl 1 ?_
 refine WP.len (a := a1) (cp := c1) hR1.len (by kernel_rfl) ?_
 refine WP.stl 1 ?_
 refine WP.dn ?_
 refine NX.then_n ?_
 refine CP.block ?_
 generalize fuel = k1 at hs
 refine CP.loop (fun k1 tm g => ∃ (x1 : Int), Fr 19 [(0, .slice a1 n1 c1), (1, .bool q1), (7, .int .i64 (l1.length : Int)), (8, .int .i64 x1)] tm ∧ Step (fun l => NoM l ∨ t ≤ l) g0 g ∧ RdS Kd.bool g 4 a1 n1 c1 l1 ∧ F.slices_Index_bool_bool.l1 l1 q1 k1 x1 = some o1) k1 ?_ ?_ ?_
 ·exact ⟨0, ⟨by kernel_rfl, by kernel_rfl⟩, tot, hR1, hs⟩
 ·rintro tm g ⟨x1, hF, tot, hR1, hs⟩
  exact absurd hs (by simp [F.slices_Index_bool_bool.l1])
 clear tot hs hR1
 rintro k1 tm g ⟨x1, hF, tot, hR1, hs⟩
 clear ds
 obtain ⟨ds, rfl⟩ := hF.open
 clear hF
 unfold F.slices_Index_bool_bool.l1 at hs
 refine CP.seqR ?_
 refine WP.stl 1 ?_
 refine WP.dn ?_
 refine NX.then_n ?_
 refine CP.seq ?_
 refine CP.cond (b := decide (x1 < (l1.length : Int))) (by kernel_rfl) (fun h5 => ?_) (fun h5 => ?_)
 ·replace hs := of_if_t hs h5
  refine CP.skip ?_
  refine NX.then_n ?_
  refine CP.seq ?_
  refine CP.block ?_
  refine CP.seqR ?_
  refine WP.stl 2 ?_
  refine WP.dn ?_
  refine NX.then_n ?_
  refine CP.seqR ?_
  refine WP.stl 3 ?_
  by_cases hc3 : (0 : Int) ≤ x1 ∧ x1 < (l1.length : Int)
  case neg => rw [if_neg hc3] at hs; cases hs
  replace hs := of_if_p hs hc3
  obtain ⟨b3, u3, ha3⟩ := hR1.at hc3
  refine WP.indexA (t := 28) (e := 4) (sz := 1) (cap := c1) (k := .i64) (i := x1) hR1.len ha3 (by kernel_rfl) (by kernel_rfl) hc3 ?_
  obtain ⟨cs3, hcR3, hcV3⟩ := hR1.src.view (getI_some hc3) ha3
  replace hcR3 := Kd.o_bool hcR3
  refine WP.loadV [[.bool (getI l1 x1)]] [1] hcV3 hcR3 rfl (f := 0) (ty := 4) (agg := false) (size := 1) (rs := [[.bool (getI l1 x1)]]) (v := .bool (getI l1 x1)) (by kernel_rfl) (by kernel_rfl) (by kernel_rfl) (by kernel_rfl) ?_
  refine WP.stl 1 ?_
  refine WP.dn ?_
  refine NX.then_n ?_
  refine CP.cond (b := (q1 == (getI l1 x1))) (by kernel_rfl) (fun h6 => ?_) (fun h6 => ?_)
  ·replace hs := of_if_t hs h6
   refine CP.seqR ?_
   refine WP.stl 2 ?_
   refine WP.dn ?_
   refine NX.then_n ?_
   refine CP.ret ?_
   refine NX.block_r ?_
   refine NX.then_r ?_
   refine NX.then_r ?_
   refine NX.block_r ?_
   refine NX.then_r ?_
   replace hs := Option.some.inj hs
   obtain rfl := hs
   exact NX.fin (v := .int .i64 x1) (Res.still (by kernel_rfl)) tot htL rfl
  replace hs := of_if_f hs h6
  refine CP.skip ?_
  refine NX.block_n ?_
  refine NX.then_n ?_
  refine CP.region ?_
  refine WP.stl 2 ?_
  refine WP.dn ?_
  refine NX.post ?_
  exact ⟨(IntKind.i64.wrap (x1 + 1)), ⟨by kernel_rfl, by kernel_rfl⟩, tot, hR1, hs⟩
 replace hs := of_if_f hs h5
 refine CP.exit ?_
 refine NX.then_e ?_
 refine NX.then_e ?_
 refine NX.block_s ?_
 refine NX.then_n ?_
 refine CP.seqR ?_
 refine WP.stl 1 ?_
 refine WP.dn ?_
 refine NX.then_n ?_
 refine CP.ret ?_
 replace hs := Option.some.inj hs
 obtain rfl := hs
 exact NX.fin (v := .int .i64 (-1)) (Res.still (by kernel_rfl)) tot htL rfl
def F.slices_Contains_bool_bool (l1 : List Bool) (q1 : Bool) : Option (Bool) := ((F.slices_Index_bool_bool l1 q1).bind fun x1 => (some (decide (x1 ≥ 0))))
theorem P.slices_Contains_bool_bool (g0 : GW) (l1 : List Bool) (q1 : Bool) (a1 : Option Addr) (n1 : Nat) (c1 : Nat) (hR1 : RdS Kd.bool g0 4 a1 n1 c1 l1) (o1 : Bool) (hs : F.slices_Contains_bool_bool l1 q1 = some o1) :
  Calls Try.prog 36 #[.slice a1 n1 c1, .bool q1] g0.w (Ret NoM g0 fun v g => v = .bool o1) := by
 refine calls_of (args := [.slice a1 n1 c1, .bool q1]) Try.func36 rfl (0) ?_
 intro t ht htL
 refine ⟨_, rfl, ?_⟩
 refine CP.refr 9 [(0, .slice a1 n1 c1), (1, .bool q1)] (by kernel_rfl) (by kernel_rfl) ?_
 intro ds
 have tot : Step (fun l => NoM l ∨ t ≤ l) g0 g0 := Step.refl _ _
 unfold F.slices_Contains_bool_bool at hs
 refine CP.seqR ?_
 refine WP.stl 1 ?_
 refine WP.dn ?_
 refine NX.then_n ?_
 refine CP.seqR ?_
 refine WP.stl 2 ?_
 replace hs := Option.bind_eq_some_iff.1 hs
 obtain ⟨x1, hk1, hs⟩ := hs
 have hcal1 := P.slices_Index_bool_bool g0 l1 q1 a1 n1 c1 hR1 x1 hk1
 refine WP.callC hcal1 (by kernel_rfl) ?_
 rintro _ g1 st1 rfl
 replace hR1 := hR1.mono st1 (fun x => x)
 replace tot := tot.trans st1.pure
 refine WP.stl 2 ?_
 refine WP.dn ?_
 refine NX.then_n ?_
 refine CP.ret ?_
 replace hs := Option.some.inj hs
 obtain rfl := hs
 exact NX.fin (v := .bool (decide (x1 ≥ 0))) (Res.still (by kernel_rfl)) tot htL rfl
def N.notary_Book_Verify_0 : List (List Nat) := [[], [0], [0, 1], [0, 1, 2], [], [], [4, 5], [0, 1, 2, 3, 4, 5, 6], [0, 1, 2, 3, 4, 5, 6, 7], [0, 1, 2, 3, 4, 5, 6, 7, 8], [0, 1, 2, 3, 4, 5, 6, 7, 8], [0, 1, 2, 3, 4, 5, 6, 7, 8, 9], [0, 1, 2, 3, 4, 5, 6, 7, 8, 9, 10, 11]]
def F.notary_Book_Verify.c1 (q1 : Bool) : Option (Bool) := (some q1)
def N.notary_Book_Verify_1 : List (List Nat) := [[], [0], [0, 1], [0, 1], [0, 1, 3], [0, 1, 3, 4], [0, 1, 3, 4, 5], [0, 1], [0, 1, 7], [0, 1, 7, 8], [0, 1, 7, 8, 9], [0, 1, 7, 8, 9, 10], [0, 1, 3, 4, 5, 6, 7, 8, 9, 10, 11], [0, 1, 2, 3, 4, 5, 6, 7, 8, 9, 10, 11, 12], [0, 1, 2, 3, 4, 5, 6, 7, 8, 9, 10, 11, 12, 13], [0, 1, 2, 3, 4, 5, 6, 7, 8, 9, 10, 11, 12, 13, 14]]
def F.notary_Book_Verify (l1 : List S_notary_entry) (w1 : (List (S_notary_entry × Int))) (d1 : Arr Int 8) (d2 : Arr Int 8) (l2 : List Int) : Option (Bool) := (if ((l2.length : Int) != 2) = true then (some false) else (if (mapGet eqk_S_notary_entry 0 w1 (⟨d1, d2⟩ : S_notary_entry)).2 = true then (if (0 : Int) ≤ 0 ∧ 0 < (l2.length : Int) then (if (0 : Int) ≤ 1 ∧ 1 < (l2.length : Int) then (F.notary_Book_Verify.c1 (((mapGet eqk_S_notary_entry 0 w1 (⟨d1, d2⟩ : S_notary_entry)).1) == (bitOr .i64 (IntKind.i64.wrap (getI l2 0)) (shV true .i64 (IntKind.i64.wrap (getI l2 1)) 8)))) else none) else none) else (F.notary_Book_Verify.c1 false)))
theorem P.notary_Book_Verify (g0 : GW) (m0 : Nat) (m1 : Nat) (l1 : List S_notary_entry) (w1 : (List (S_notary_entry × Int))) (d1 : Arr Int 8) (d2 : Arr Int 8) (l2 : List Int) (a1 : Option Addr) (n1 : Nat) (c1 : Nat) (a2 : Option Addr) (n2 : Nat) (c2 : Nat) (b1 : Nat) (b2 : Nat) (hR1 : RdS k_S_notary_entry g0 136 a1 n1 c1 l1) (hR2 : RdS (Kd.int .u8) g0 5 a2 n2 c2 l2) (hB1 : MapB g0 m1 b2 kv_S_notary_entry (Value.int .i64) w1) (hB2 : Box g0 m0 b1 91 [[.slice a1 n1 c1], [.map (some b2)]] [1, 1]) (hm1_0 : m1 ≠ m0) (hm0 : m0 ≠ 0) (hm1 : m1 ≠ 0) (o1 : Bool) (hs : F.notary_Book_Verify l1 w1 d1 d2 l2 = some o1) :
  Calls Try.prog 80 #[.pointer (some ⟨b1, 0, none⟩), AG [encA .u8 d1], AG [encA .u8 d2], .slice a2 n2 c2] g0.w (Ret NoM g0 fun v g => v = .bool o1) := by
 refine calls_of (args := [.pointer (some ⟨b1, 0, none⟩), AG [encA .u8 d1], AG [encA .u8 d2], .slice a2 n2 c2]) Try.func80 rfl (m0 + m1 + 0) ?_
 intro t ht htL
 refine ⟨_, rfl, ?_⟩
 refine CP.refr 44 [(0, .pointer (some ⟨b1, 0, none⟩)), (1, AG [encA .u8 d1]), (2, AG [encA .u8 d2]), (3, .slice a2 n2 c2)] (by kernel_rfl) (by kernel_rfl) ?_
 intro ds
 have tot : Step (fun l => NoM l ∨ t ≤ l) g0 g0 := Step.refl _ _
 unfold F.notary_Book_Verify at hs
 refine CP.seqR ?_
 refine WP.alloc (T := 47) (t + 1) [encA .u8 d1] [8] (by kernel_rfl) (by simp [len_encA]) ?_
 intro g1 b3 st1 hB3
 replace hB2 := hB2.mono st1 (fun x => x)
 replace hR1 := hR1.mono st1 (fun x => x)
 replace hB1 := hB1.mono st1 (fun x => x)
 replace hR2 := hR2.mono st1 (fun x => x)
 replace tot := tot.trans st1.pure
 refine WP.alloc (T := 47) (t + 2) [encA .u8 d2] [8] (by kernel_rfl) (by simp [len_encA]) ?_
 intro g2 b4 st2 hB4
 replace hB2 := hB2.mono st2 (fun x => x)
 replace hR1 := hR1.mono st2 (fun x => x)
 replace hB1 := hB1.mono st2 (fun x => x)
 replace hR2 := hR2.mono st2 (fun x => x)
 replace hB3 := hB3.mono st2 (fun x => x)
 replace tot := tot.trans st2.pure
 refine WP.stl 1 ?_
 refine WP.dn ?_
 refine NX.then_n ?_
 refine CP.seq ?_
 refine CP.seq ?_
 refine CP.region ?_
 refine WP.stl 4 ?_
 refine WP.len (a := a2) (cp := c2) hR2.len (by kernel_rfl) ?_
 refine WP.stl 2 ?_
 refine WP.dn ?_
 refine NX.then_n ?_
 refine CP.cond (b := ((l2.length : Int) != 2)) (by kernel_rfl) (fun h1 => ?_) (fun h1 => ?_)
 ·replace hs := of_if_t hs h1
  refine CP.seqR ?_
  refine WP.stl 1 ?_
  refine WP.dn ?_
  refine NX.then_n ?_
  refine CP.ret ?_
  refine NX.then_r ?_
  replace hs := Option.some.inj hs
  obtain rfl := hs
  exact NX.fin (v := .bool false) (Res.still (by kernel_rfl)) tot htL rfl
 replace hs := of_if_f hs h1
 refine CP.skip ?_
 refine NX.then_n ?_
 refine CP.seq ?_
 refine CP.drawL (by kernel_rfl) [3, 4, 5, 6, 7] N.notary_Book_Verify_0 [⟨none, [], [], fun l g => Box g m0 b1 91 [[.slice a1 n1 c1], [.map (some b2)]] [1, 1]⟩, ⟨none, [], [], fun l g => MapB g m1 b2 kv_S_notary_entry (Value.int .i64) w1⟩, ⟨none, [], [], fun l g => Box g (t + 1) b3 47 [encA .u8 d1] [8]⟩, ⟨none, [], [], fun l g => Box g (t + 2) b4 47 [encA .u8 d2] [8]⟩, ⟨some 0, [], [0], fun l g => l.getD 0 undef = .map (some b2)⟩, ⟨some 1, [], [1], fun l g => l.getD 0 undef = AG [encA .u8 d1]⟩, ⟨some 2, [], [2], fun l g => l.getD 0 undef = AG [encA .u8 d2]⟩, ⟨some 3, [], [3], fun l g => l.getD 0 undef = AG [encA .u8 d1, encA .u8 d2]⟩, ⟨some 4, [], [4], fun l g => l.getD 0 undef = .tuple #[.int .i64 ((mapGet eqk_S_notary_entry 0 w1 (⟨d1, d2⟩ : S_notary_entry)).1), .bool ((mapGet eqk_S_notary_entry 0 w1 (⟨d1, d2⟩ : S_notary_entry)).2)]⟩] [[], [], [], [], []] [] [0, 1, 2] [8, 9, 10, 11, 12] (by kernel_rfl) (by simp) (by simp) ⟨fun _ _ _ _ st h0 hl hj hB2 => (hB2.mono st (fun h => absurd (hl _ h) (by simp))), fun _ _ _ _ st h0 hl hj hB1 => (hB1.mono st (fun h => absurd (hl _ h) (by simp))), fun _ _ _ _ st h0 hl hj hB3 => (hB3.mono st (fun h => absurd (hl _ h) (by simp))), fun _ _ _ _ st h0 hl hj hB4 => (hB4.mono st (fun h => absurd (hl _ h) (by simp))), fun _ _ _ _ st h0 hl hj e0 => e0, fun _ _ _ _ st h0 hl hj e1 => e1, fun _ _ _ _ st h0 hl hj e2 => e2, fun _ _ _ _ st h0 hl hj e3 => e3, fun _ _ _ _ st h0 hl hj e4 => e4, tv⟩ ⟨hB2, hB1, hB3, hB4, tv, tv, tv, tv, tv, tv⟩ (by kernel_rfl) (fun vs => by kernel_rfl) ?_ ?_ ?_
 ·intro j hj
  have hq : j = 0 ∨ j = 1 ∨ j = 2 ∨ j = 3 ∨ j = 4 := by have h : j < 5 := hj; omega
  rcases hq with rfl | rfl | rfl | rfl | rfl
  ·intro vs gq stq hl hf
   obtain ⟨v0, v1, v2, v3, v4, rfl⟩ := len_k5 hl
   have e4 := (show v4 = .tuple #[.int .i64 ((mapGet eqk_S_notary_entry 0 w1 (⟨d1, d2⟩ : S_notary_entry)).1), .bool ((mapGet eqk_S_notary_entry 0 w1 (⟨d1, d2⟩ : S_notary_entry)).2)] from hf _ (memI 8 rfl) (by kernel_rfl))
   subst e4
   show Option.isSome _ = true
   kernel_rfl
  ·intro vs gq stq hl hf
   obtain ⟨v0, v1, v2, v3, v4, rfl⟩ := len_k5 hl
   have e4 := (show v4 = .tuple #[.int .i64 ((mapGet eqk_S_notary_entry 0 w1 (⟨d1, d2⟩ : S_notary_entry)).1), .bool ((mapGet eqk_S_notary_entry 0 w1 (⟨d1, d2⟩ : S_notary_entry)).2)] from hf _ (memI 8 rfl) (by kernel_rfl))
   subst e4
   show Option.isSome _ = true
   kernel_rfl
  ·intro vs gq stq hl hf
   obtain ⟨v0, v1, v2, v3, v4, rfl⟩ := len_k5 hl
   have e4 := (show v4 = .tuple #[.int .i64 ((mapGet eqk_S_notary_entry 0 w1 (⟨d1, d2⟩ : S_notary_entry)).1), .bool ((mapGet eqk_S_notary_entry 0 w1 (⟨d1, d2⟩ : S_notary_entry)).2)] from hf _ (memI 8 rfl) (by kernel_rfl))
   subst e4
   show Option.isSome _ = true
   kernel_rfl
  ·intro vs gq stq hl hf
   obtain ⟨v0, v1, v2, v3, v4, rfl⟩ := len_k5 hl
   have e4 := (show v4 = .tuple #[.int .i64 ((mapGet eqk_S_notary_entry 0 w1 (⟨d1, d2⟩ : S_notary_entry)).1), .bool ((mapGet eqk_S_notary_entry 0 w1 (⟨d1, d2⟩ : S_notary_entry)).2)] from hf _ (memI 8 rfl) (by kernel_rfl))
   subst e4
   show Option.isSome _ = true
   kernel_rfl
  ·intro vs gq stq hl hf
   obtain ⟨v0, v1, v2, v3, v4, rfl⟩ := len_k5 hl
   have e4 := (show v4 = .tuple #[.int .i64 ((mapGet eqk_S_notary_entry 0 w1 (⟨d1, d2⟩ : S_notary_entry)).1), .bool ((mapGet eqk_S_notary_entry 0 w1 (⟨d1, d2⟩ : S_notary_entry)).2)] from hf _ (memI 8 rfl) (by kernel_rfl))
   subst e4
   show Option.isSome _ = true
   kernel_rfl
 ·intro j hj
  have hq : j = 0 ∨ j = 1 ∨ j = 2 ∨ j = 3 ∨ j = 4 := by have h : j < 5 := hj; omega
  rcases hq with rfl | rfl | rfl | rfl | rfl
  ·intro vs gq stq hl hf
   obtain ⟨v0, v1, v2, v3, v4, rfl⟩ := len_k5 hl
   have hB2 := (show Box gq m0 b1 91 [[.slice a1 n1 c1], [.map (some b2)]] [1, 1] from hf _ (memI 0 rfl) (by kernel_rfl))
   refine WP.loadB (v := .map (some b2)) hB2 (by kernel_rfl) (by kernel_rfl) ?_
   refine WP.dn (Shown.ok (v := .map (some b2)) (by kernel_rfl) (Step.refl _ _) ?_)
   exact ⟨tv, tv, tv, tv, rfl, tv, tv, tv, tv, tv⟩
  ·intro vs gq stq hl hf
   obtain ⟨v0, v1, v2, v3, v4, rfl⟩ := len_k5 hl
   have hB3 := (show Box gq (t + 1) b3 47 [encA .u8 d1] [8] from hf _ (memI 2 rfl) (by kernel_rfl))
   refine WP.loadB (v := AG [encA .u8 d1]) hB3 (by kernel_rfl) (by kernel_rfl) ?_
   refine WP.dn (Shown.ok (v := AG [encA .u8 d1]) (by kernel_rfl) (Step.refl _ _) ?_)
   exact ⟨tv, tv, tv, tv, tv, rfl, tv, tv, tv, tv⟩
  ·intro vs gq stq hl hf
   obtain ⟨v0, v1, v2, v3, v4, rfl⟩ := len_k5 hl
   have hB4 := (show Box gq (t + 2) b4 47 [encA .u8 d2] [8] from hf _ (memI 3 rfl) (by kernel_rfl))
   refine WP.loadB (v := AG [encA .u8 d2]) hB4 (by kernel_rfl) (by kernel_rfl) ?_
   refine WP.dn (Shown.ok (v := AG [encA .u8 d2]) (by kernel_rfl) (Step.refl _ _) ?_)
   exact ⟨tv, tv, tv, tv, tv, tv, rfl, tv, tv, tv⟩
  ·intro vs gq stq hl hf
   obtain ⟨v0, v1, v2, v3, v4, rfl⟩ := len_k5 hl
   have e1 := (show v1 = AG [encA .u8 d1] from hf _ (memI 5 rfl) (by kernel_rfl))
   subst e1
   have e2 := (show v2 = AG [encA .u8 d2] from hf _ (memI 6 rfl) (by kernel_rfl))
   subst e2
   refine WP.buildS (places := #[(0, 8), (8, 8)]) (t := 136) [encA .u8 (zA 8), encA .u8 (zA 8)] [8, 8] (by kernel_rfl) (by kernel_rfl) (by simp [len_encA]) (by kernel_rfl) ((.cons (i := 0) (off := 0) (v := AG [encA .u8 d1]) (mid := [encA .u8 d1, encA .u8 (zA 8)]) [encA .u8 d1] [8] (by kernel_rfl) (by kernel_rfl) (by simp [len_encA]) (by kernel_rfl) (.cons (i := 1) (off := 8) (v := AG [encA .u8 d2]) (mid := [encA .u8 d1, encA .u8 d2]) [encA .u8 d2] [8] (by kernel_rfl) (by kernel_rfl) (by simp [len_encA]) (by kernel_rfl) .nil))) ?_
   refine WP.dn (Shown.ok (v := AG [encA .u8 d1, encA .u8 d2]) (by kernel_rfl) (Step.refl _ _) ?_)
   exact ⟨tv, tv, tv, tv, tv, tv, tv, rfl, tv, tv⟩
  ·intro vs gq stq hl hf
   obtain ⟨v0, v1, v2, v3, v4, rfl⟩ := len_k5 hl
   have hB1 := (show MapB gq m1 b2 kv_S_notary_entry (Value.int .i64) w1 from hf _ (memI 1 rfl) (by kernel_rfl))
   have e0 := (show v0 = .map (some b2) from hf _ (memI 4 rfl) (by kernel_rfl))
   subst e0
   have e3 := (show v3 = AG [encA .u8 d1, encA .u8 d2] from hf _ (memI 7 rfl) (by kernel_rfl))
   subst e3
   refine WP.mapGet (et := 3) (z := 0) (k := (⟨d1, d2⟩ : S_notary_entry)) hB1 keyOk_S_notary_entry (by kernel_rfl) (by kernel_rfl) ?_
   refine WP.dn (Shown.ok (v := .tuple #[.int .i64 ((mapGet eqk_S_notary_entry 0 w1 (⟨d1, d2⟩ : S_notary_entry)).1), .bool ((mapGet eqk_S_notary_entry 0 w1 (⟨d1, d2⟩ : S_notary_entry)).2)]) (by kernel_rfl) (Step.refl _ _) ?_)
   exact ⟨tv, tv, tv, tv, tv, tv, tv, tv, rfl, tv⟩
 intro vs g3 st3 hl hf
 obtain ⟨v0, v1, v2, v3, v4, rfl⟩ := len_k5 hl
 have e4 := (show v4 = .tuple #[.int .i64 ((mapGet eqk_S_notary_entry 0 w1 (⟨d1, d2⟩ : S_notary_entry)).1), .bool ((mapGet eqk_S_notary_entry 0 w1 (⟨d1, d2⟩ : S_notary_entry)).2)] from hf _ (memI 8 rfl) (by kernel_rfl))
 subst e4
 replace hR2 := hR2.mono st3.toNo (fun x => x)
 replace tot := tot.trans st3.toNo.pure
 refine NX.then_n ?_
 refine CP.refr 44 [(3, .slice a2 n2 c2), (9, .int .i64 ((mapGet eqk_S_notary_entry 0 w1 (⟨d1, d2⟩ : S_notary_entry)).1)), (10, .bool ((mapGet eqk_S_notary_entry 0 w1 (⟨d1, d2⟩ : S_notary_entry)).2))] (by kernel_rfl) (by kernel_rfl) ?_
 clear ds
 intro ds
 refine CP.cut (fun tm g => ∃ (q1 : Bool), Fr 44 [(8, .bool q1)] tm ∧ Step (fun l => NoM l ∨ t ≤ l) g0 g ∧ (F.notary_Book_Verify.c1 q1) = some o1) ?_ ?_
 ·refine bool_split (b := (mapGet eqk_S_notary_entry 0 w1 (⟨d1, d2⟩ : S_notary_entry)).2) (fun h3 => ?_) (fun h3 => ?_)
  ·replace hs := of_if_t hs h3
   by_cases hc3 : (0 : Int) ≤ 0 ∧ 0 < (l2.length : Int)
   case neg => rw [if_neg hc3] at hs; cases hs
   replace hs := of_if_p hs hc3
   by_cases hc4 : (0 : Int) ≤ 1 ∧ 1 < (l2.length : Int)
   case neg => rw [if_neg hc4] at hs; cases hs
   replace hs := of_if_p hs hc4
   obtain ⟨b7, u3, ha3⟩ := hR2.at hc3
   obtain ⟨b8, u4, ha4⟩ := hR2.at hc4
   refine CP.drawL (by kernel_rfl) [1, 4, 5, 8, 9] N.notary_Book_Verify_1 [⟨none, [], [], fun l g => RdS (Kd.int .u8) g 5 a2 n2 c2 l2⟩, ⟨some 0, [], [0], fun l g => l.getD 0 undef = .bool true⟩, ⟨some 1, [], [1], fun l g => l.getD 0 undef = .pointer (some ⟨b7, u3 + (0 : Int).toNat * 1, none⟩)⟩, ⟨some 2, [], [2], fun l g => l.getD 0 undef = .int .u8 (getI l2 0)⟩, ⟨some 3, [], [3], fun l g => l.getD 0 undef = .pointer (some ⟨b8, u4 + (1 : Int).toNat * 1, none⟩)⟩, ⟨some 4, [], [4], fun l g => l.getD 0 undef = .int .u8 (getI l2 1)⟩] [[], [], [], [], []] [] [0] [2, 3, 6, 7, 10, 11, 12, 13, 14, 15] (by kernel_rfl) (by simp) (by simp) ⟨fun _ _ _ _ st h0 hl hj hR2 => (RdS.mono (e := 5) hR2 st h0), fun _ _ _ _ st h0 hl hj e0 => e0, fun _ _ _ _ st h0 hl hj e1 => e1, fun _ _ _ _ st h0 hl hj e2 => e2, fun _ _ _ _ st h0 hl hj e3 => e3, fun _ _ _ _ st h0 hl hj e4 => e4, tv⟩ ⟨hR2, tv, tv, tv, tv, tv, tv⟩ (by kernel_rfl) (fun vs => by kernel_rfl) ?_ ?_ ?_
   ·intro j hj
    have hq : j = 0 ∨ j = 1 ∨ j = 2 ∨ j = 3 ∨ j = 4 ∨ j = 5 ∨ j = 6 ∨ j = 7 ∨ j = 8 ∨ j = 9 := by have h : j < 10 := hj; omega
    rcases hq with rfl | rfl | rfl | rfl | rfl | rfl | rfl | rfl | rfl | rfl
    ·intro vs gq stq hl hf
     obtain ⟨v0, v1, v2, v3, v4, rfl⟩ := len_k5 hl
     have e0 := (show v0 = .bool true from hf _ (memI 1 rfl) (by kernel_rfl))
     subst e0
     show Option.isSome _ = true
     kernel_rfl
    ·intro vs gq stq hl hf
     obtain ⟨v0, v1, v2, v3, v4, rfl⟩ := len_k5 hl
     have e0 := (show v0 = .bool true from hf _ (memI 1 rfl) (by kernel_rfl))
     subst e0
     show Option.isSome _ = true
     kernel_rfl
    ·intro vs gq stq hl hf
     obtain ⟨v0, v1, v2, v3, v4, rfl⟩ := len_k5 hl
     have e0 := (show v0 = .bool true from hf _ (memI 1 rfl) (by kernel_rfl))
     subst e0
     have e2 := (show v2 = .int .u8 (getI l2 0) from hf _ (memI 3 rfl) (by kernel_rfl))
     subst e2
     show Option.isSome _ = true
     kernel_rfl
    ·intro vs gq stq hl hf
     obtain ⟨v0, v1, v2, v3, v4, rfl⟩ := len_k5 hl
     have e0 := (show v0 = .bool true from hf _ (memI 1 rfl) (by kernel_rfl))
     subst e0
     show Option.isSome _ = true
     kernel_rfl
    ·intro vs gq stq hl hf
     obtain ⟨v0, v1, v2, v3, v4, rfl⟩ := len_k5 hl
     have e0 := (show v0 = .bool true from hf _ (memI 1 rfl) (by kernel_rfl))
     subst e0
     have e4 := (show v4 = .int .u8 (getI l2 1) from hf _ (memI 5 rfl) (by kernel_rfl))
     subst e4
     show Option.isSome _ = true
     kernel_rfl
    ·intro vs gq stq hl hf
     obtain ⟨v0, v1, v2, v3, v4, rfl⟩ := len_k5 hl
     have e0 := (show v0 = .bool true from hf _ (memI 1 rfl) (by kernel_rfl))
     subst e0
     have e4 := (show v4 = .int .u8 (getI l2 1) from hf _ (memI 5 rfl) (by kernel_rfl))
     subst e4
     show Option.isSome _ = true
     kernel_rfl
    ·intro vs gq stq hl hf
     obtain ⟨v0, v1, v2, v3, v4, rfl⟩ := len_k5 hl
     have e0 := (show v0 = .bool true from hf _ (memI 1 rfl) (by kernel_rfl))
     subst e0
     have e2 := (show v2 = .int .u8 (getI l2 0) from hf _ (memI 3 rfl) (by kernel_rfl))
     subst e2
     have e4 := (show v4 = .int .u8 (getI l2 1) from hf _ (memI 5 rfl) (by kernel_rfl))
     subst e4
     show Option.isSome _ = true
     kernel_rfl
    ·intro vs gq stq hl hf
     obtain ⟨v0, v1, v2, v3, v4, rfl⟩ := len_k5 hl
     have e0 := (show v0 = .bool true from hf _ (memI 1 rfl) (by kernel_rfl))
     subst e0
     have e2 := (show v2 = .int .u8 (getI l2 0) from hf _ (memI 3 rfl) (by kernel_rfl))
     subst e2
     have e4 := (show v4 = .int .u8 (getI l2 1) from hf _ (memI 5 rfl) (by kernel_rfl))
     subst e4
     show Option.isSome _ = true
     kernel_rfl
    ·intro vs gq stq hl hf
     obtain ⟨v0, v1, v2, v3, v4, rfl⟩ := len_k5 hl
     have e0 := (show v0 = .bool true from hf _ (memI 1 rfl) (by kernel_rfl))
     subst e0
     have e2 := (show v2 = .int .u8 (getI l2 0) from hf _ (memI 3 rfl) (by kernel_rfl))
     subst e2
     have e4 := (show v4 = .int .u8 (getI l2 1) from hf _ (memI 5 rfl) (by kernel_rfl))
     subst e4
     show Option.isSome _ = true
     kernel_rfl
    ·intro vs gq stq hl hf
     obtain ⟨v0, v1, v2, v3, v4, rfl⟩ := len_k5 hl
     have e0 := (show v0 = .bool true from hf _ (memI 1 rfl) (by kernel_rfl))
     subst e0
     have e2 := (show v2 = .int .u8 (getI l2 0) from hf _ (memI 3 rfl) (by kernel_rfl))
     subst e2
     have e4 := (show v4 = .int .u8 (getI l2 1) from hf _ (memI 5 rfl) (by kernel_rfl))
     subst e4
     show Option.isSome _ = true
     kernel_rfl
   ·intro j hj
    have hq : j = 0 ∨ j = 1 ∨ j = 2 ∨ j = 3 ∨ j = 4 := by have h : j < 5 := hj; omega
    rcases hq with rfl | rfl | rfl | rfl | rfl
    ·intro vs gq stq hl hf
     obtain ⟨v0, v1, v2, v3, v4, rfl⟩ := len_k5 hl
     refine WP.stl 1 ?_
     refine WP.dn (Shown.ok (v := .bool ((mapGet eqk_S_notary_entry 0 w1 (⟨d1, d2⟩ : S_notary_entry)).2)) (by kernel_rfl) (Step.refl _ _) ?_)
     exact ⟨tv, congrArg Value.bool h3, tv, tv, tv, tv, tv⟩
    ·intro vs gq stq hl hf
     obtain ⟨v0, v1, v2, v3, v4, rfl⟩ := len_k5 hl
     have hR2 := (show RdS (Kd.int .u8) gq 5 a2 n2 c2 l2 from hf _ (memI 0 rfl) (by kernel_rfl))
     have e0 := (show v0 = .bool true from hf _ (memI 1 rfl) (by kernel_rfl))
     subst e0
     refine WP.indexA (t := 74) (e := 5) (sz := 1) (cap := c2) (k := .i64) (i := 0) hR2.len ha3 (by kernel_rfl) (by kernel_rfl) hc3 ?_
     refine WP.dn (Shown.ok (v := .pointer (some ⟨b7, u3 + (0 : Int).toNat * 1, none⟩)) (by kernel_rfl) (Step.refl _ _) ?_)
     exact ⟨tv, tv, rfl, tv, tv, tv, tv⟩
    ·intro vs gq stq hl hf
     obtain ⟨v0, v1, v2, v3, v4, rfl⟩ := len_k5 hl
     have hR2 := (show RdS (Kd.int .u8) gq 5 a2 n2 c2 l2 from hf _ (memI 0 rfl) (by kernel_rfl))
     have e0 := (show v0 = .bool true from hf _ (memI 1 rfl) (by kernel_rfl))
     subst e0
     have e1 := (show v1 = .pointer (some ⟨b7, u3 + (0 : Int).toNat * 1, none⟩) from hf _ (memI 2 rfl) (by kernel_rfl))
     subst e1
     obtain ⟨cs3, hcR3, hcV3⟩ := hR2.src.view (getI_some hc3) ha3
     replace hcR3 := Kd.o_int hcR3
     refine WP.loadV [[.int .u8 (getI l2 0)]] [1] hcV3 hcR3 rfl (f := 0) (ty := 5) (agg := false) (size := 1) (rs := [[.int .u8 (getI l2 0)]]) (v := .int .u8 (getI l2 0)) (by kernel_rfl) (by kernel_rfl) (by kernel_rfl) (by kernel_rfl) ?_
     refine WP.dn (Shown.ok (v := .int .u8 (getI l2 0)) (by kernel_rfl) (Step.refl _ _) ?_)
     exact ⟨tv, tv, tv, rfl, tv, tv, tv⟩
    ·intro vs gq stq hl hf
     obtain ⟨v0, v1, v2, v3, v4, rfl⟩ := len_k5 hl
     have hR2 := (show RdS (Kd.int .u8) gq 5 a2 n2 c2 l2 from hf _ (memI 0 rfl) (by kernel_rfl))
     have e0 := (show v0 = .bool true from hf _ (memI 1 rfl) (by kernel_rfl))
     subst e0
     refine WP.indexA (t := 74) (e := 5) (sz := 1) (cap := c2) (k := .i64) (i := 1) hR2.len ha4 (by kernel_rfl) (by kernel_rfl) hc4 ?_
     refine WP.dn (Shown.ok (v := .pointer (some ⟨b8, u4 + (1 : Int).toNat * 1, none⟩)) (by kernel_rfl) (Step.refl _ _) ?_)
     exact ⟨tv, tv, tv, tv, rfl, tv, tv⟩
    ·intro vs gq stq hl hf
     obtain ⟨v0, v1, v2, v3, v4, rfl⟩ := len_k5 hl
     have hR2 := (show RdS (Kd.int .u8) gq 5 a2 n2 c2 l2 from hf _ (memI 0 rfl) (by kernel_rfl))
     have e0 := (show v0 = .bool true from hf _ (memI 1 rfl) (by kernel_rfl))
     subst e0
     have e3 := (show v3 = .pointer (some ⟨b8, u4 + (1 : Int).toNat * 1, none⟩) from hf _ (memI 4 rfl) (by kernel_rfl))
     subst e3
     obtain ⟨cs4, hcR4, hcV4⟩ := hR2.src.view (getI_some hc4) ha4
     replace hcR4 := Kd.o_int hcR4
     refine WP.loadV [[.int .u8 (getI l2 1)]] [1] hcV4 hcR4 rfl (f := 0) (ty := 5) (agg := false) (size := 1) (rs := [[.int .u8 (getI l2 1)]]) (v := .int .u8 (getI l2 1)) (by kernel_rfl) (by kernel_rfl) (by kernel_rfl) (by kernel_rfl) ?_
     refine WP.dn (Shown.ok (v := .int .u8 (getI l2 1)) (by kernel_rfl) (Step.refl _ _) ?_)
     exact ⟨tv, tv, tv, tv, tv, rfl, tv⟩
   intro vs g4 st4 hl hf
   obtain ⟨v0, v1, v2, v3, v4, rfl⟩ := len_k5 hl
   have e0 := (show v0 = .bool true from hf _ (memI 1 rfl) (by kernel_rfl))
   subst e0
   have e2 := (show v2 = .int .u8 (getI l2 0) from hf _ (memI 3 rfl) (by kernel_rfl))
   subst e2
   have e4 := (show v4 = .int .u8 (getI l2 1) from hf _ (memI 5 rfl) (by kernel_rfl))
   subst e4
   replace tot := tot.trans st4.toNo.pure
   refine NX.post ?_
   exact ⟨(((mapGet eqk_S_notary_entry 0 w1 (⟨d1, d2⟩ : S_notary_entry)).1) == (bitOr .i64 (IntKind.i64.wrap (getI l2 0)) (shV true .i64 (IntKind.i64.wrap (getI l2 1)) 8))), ⟨by kernel_rfl, by kernel_rfl⟩, tot, hs⟩
  replace hs := of_if_f hs h3
  refine CP.drawL (by kernel_rfl) [1] N.notary_Book_Verify_1 [⟨some 0, [], [0], fun l g => l.getD 0 undef = .bool false⟩] [[]] [] [0] [2, 3, 4, 5, 6, 7, 8, 9, 10, 11, 12, 13, 14, 15] (by kernel_rfl) (by simp) (by simp) ⟨fun _ _ _ _ st h0 hl hj e0 => e0, tv⟩ ⟨tv, tv⟩ (by kernel_rfl) (fun vs => by kernel_rfl) ?_ ?_ ?_
  ·intro j hj
   have hq : j = 0 ∨ j = 1 ∨ j = 2 ∨ j = 3 ∨ j = 4 ∨ j = 5 ∨ j = 6 ∨ j = 7 ∨ j = 8 ∨ j = 9 ∨ j = 10 ∨ j = 11 ∨ j = 12 ∨ j = 13 := by have h : j < 14 := hj; omega
   rcases hq with rfl | rfl | rfl | rfl | rfl | rfl | rfl | rfl | rfl | rfl | rfl | rfl | rfl | rfl
   ·intro vs gq stq hl hf
    obtain ⟨v0, rfl⟩ := len_k1 hl
    have e0 := (show v0 = .bool false from hf _ (memI 0 rfl) (by kernel_rfl))
    subst e0
    show Option.isSome _ = true
    kernel_rfl
   ·intro vs gq stq hl hf
    obtain ⟨v0, rfl⟩ := len_k1 hl
    have e0 := (show v0 = .bool false from hf _ (memI 0 rfl) (by kernel_rfl))
    subst e0
    show Option.isSome _ = true
    kernel_rfl
   ·intro vs gq stq hl hf
    obtain ⟨v0, rfl⟩ := len_k1 hl
    have e0 := (show v0 = .bool false from hf _ (memI 0 rfl) (by kernel_rfl))
    subst e0
    show Option.isSome _ = true
    kernel_rfl
   ·intro vs gq stq hl hf
    obtain ⟨v0, rfl⟩ := len_k1 hl
    have e0 := (show v0 = .bool false from hf _ (memI 0 rfl) (by kernel_rfl))
    subst e0
    show Option.isSome _ = true
    kernel_rfl
   ·intro vs gq stq hl hf
    obtain ⟨v0, rfl⟩ := len_k1 hl
    have e0 := (show v0 = .bool false from hf _ (memI 0 rfl) (by kernel_rfl))
    subst e0
    show Option.isSome _ = true
    kernel_rfl
   ·intro vs gq stq hl hf
    obtain ⟨v0, rfl⟩ := len_k1 hl
    have e0 := (show v0 = .bool false from hf _ (memI 0 rfl) (by kernel_rfl))
    subst e0
    show Option.isSome _ = true
    kernel_rfl
   ·intro vs gq stq hl hf
    obtain ⟨v0, rfl⟩ := len_k1 hl
    have e0 := (show v0 = .bool false from hf _ (memI 0 rfl) (by kernel_rfl))
    subst e0
    show Option.isSome _ = true
    kernel_rfl
   ·intro vs gq stq hl hf
    obtain ⟨v0, rfl⟩ := len_k1 hl
    have e0 := (show v0 = .bool false from hf _ (memI 0 rfl) (by kernel_rfl))
    subst e0
    show Option.isSome _ = true
    kernel_rfl
   ·intro vs gq stq hl hf
    obtain ⟨v0, rfl⟩ := len_k1 hl
    have e0 := (show v0 = .bool false from hf _ (memI 0 rfl) (by kernel_rfl))
    subst e0
    show Option.isSome _ = true
    kernel_rfl
   ·intro vs gq stq hl hf
    obtain ⟨v0, rfl⟩ := len_k1 hl
    have e0 := (show v0 = .bool false from hf _ (memI 0 rfl) (by kernel_rfl))
    subst e0
    show Option.isSome _ = true
    kernel_rfl
   ·intro vs gq stq hl hf
    obtain ⟨v0, rfl⟩ := len_k1 hl
    have e0 := (show v0 = .bool false from hf _ (memI 0 rfl) (by kernel_rfl))
    subst e0
    show Option.isSome _ = true
    kernel_rfl
   ·intro vs gq stq hl hf
    obtain ⟨v0, rfl⟩ := len_k1 hl
    have e0 := (show v0 = .bool false from hf _ (memI 0 rfl) (by kernel_rfl))
    subst e0
    show Option.isSome _ = true
    kernel_rfl
   ·intro vs gq stq hl hf
    obtain ⟨v0, rfl⟩ := len_k1 hl
    have e0 := (show v0 = .bool false from hf _ (memI 0 rfl) (by kernel_rfl))
    subst e0
    show Option.isSome _ = true
    kernel_rfl
   ·intro vs gq stq hl hf
    obtain ⟨v0, rfl⟩ := len_k1 hl
    have e0 := (show v0 = .bool false from hf _ (memI 0 rfl) (by kernel_rfl))
    subst e0
    show Option.isSome _ = true
    kernel_rfl
  ·intro j hj
   have hq : j = 0 := by have h : j < 1 := hj; omega
   rcases hq with rfl
   ·intro vs gq stq hl hf
    obtain ⟨v0, rfl⟩ := len_k1 hl
    refine WP.stl 1 ?_
    refine WP.dn (Shown.ok (v := .bool ((mapGet eqk_S_notary_entry 0 w1 (⟨d1, d2⟩ : S_notary_entry)).2)) (by kernel_rfl) (Step.refl _ _) ?_)
    exact ⟨congrArg Value.bool h3, tv⟩
  intro vs g5 st5 hl hf
  obtain ⟨v0, rfl⟩ := len_k1 hl
  have e0 := (show v0 = .bool false from hf _ (memI 0 rfl) (by kernel_rfl))
  subst e0
  replace tot := tot.trans st5.toNo.pure
  refine NX.post ?_
  exact ⟨false, ⟨by kernel_rfl, by kernel_rfl⟩, tot, hs⟩
 clear tot hs hR2
 rintro tm g ⟨q1, hF, tot, hs⟩
 clear ds
 obtain ⟨ds, rfl⟩ := hF.open
 clear hF
 unfold F.notary_Book_Verify.c1 at hs
 refine CP.ret ?_
 replace hs := Option.some.inj hs
 obtain rfl := hs
 exact NX.fin (v := .bool q1) (Res.still (by kernel_rfl)) tot htL rfl
def F.notary_signed.c1 (q2 : Bool) : Option (Bool) := (some q2)
def N.notary_signed_0 : List (List Nat) := [[], [0], [0, 1], [0, 1, 2], [0, 1, 2], [0, 1, 2, 4], [0, 1, 2, 3, 4, 5], [0, 1, 2, 3, 4, 5, 6], [0, 1, 2, 3, 4, 5, 6, 7], [0, 1, 2, 3, 4, 5, 6, 7, 8], [0, 1, 2, 3, 4, 5, 6, 7, 8], [0, 1, 2, 3, 4, 5, 6, 7, 8], [0, 1, 2, 3, 4, 5, 6, 7, 8], [0, 1, 2, 3, 4, 5, 6, 7, 8], [0, 1, 2, 3, 4, 5, 6, 7, 8, 12, 13], [0, 1, 2, 3, 4, 5, 6, 7, 8, 12, 13, 14], [0, 1, 2, 3, 4, 5, 6, 7, 8, 9], [0, 1, 2, 3, 4, 5, 6, 7, 8, 9, 16], [0, 1, 2, 3, 4, 5, 6, 7, 8, 9, 16, 17], [0, 1, 2, 3, 4, 5, 6, 7, 8, 9, 10, 11, 12, 13, 14, 15, 16, 17, 18], [0, 1, 2, 3, 4, 5, 6, 7, 8, 9, 10, 11, 12, 13, 14, 15, 16, 17, 18, 19], [0, 1, 2, 3, 4, 5, 6, 7, 8, 9, 10, 11, 12, 13, 14, 15, 16, 17, 18, 19, 20]]
def F.notary_signed (l1 : List S_notary_entry) (w1 : (List (S_notary_entry × Int))) (d1 : Arr Int 8) (d2 : Arr Int 8) (l2 : List (List Int)) (x1 : Int) : Option (Bool) := (if decide (x1 < (l2.length : Int)) = true then (if (0 : Int) ≤ x1 ∧ x1 < (l2.length : Int) then ((F.notary_Book_Verify l1 w1 d1 d2 (getI l2 x1)).bind fun q3 => (F.notary_signed.c1 q3)) else none) else (F.notary_signed.c1 false))
theorem P.notary_signed (g0 : GW) (m0 : Nat) (m1 : Nat) (l1 : List S_notary_entry) (w1 : (List (S_notary_entry × Int))) (d1 : Arr Int 8) (d2 : Arr Int 8) (l2 : List (List Int)) (x1 : Int) (a1 : Option Addr) (n1 : Nat) (c1 : Nat) (a2 : Option Addr) (n2 : Nat) (c2 : Nat) (b1 : Nat) (b2 : Nat) (hR1 : RdS k_S_notary_entry g0 136 a1 n1 c1 l1) (hR2 : RdS (Kd.slice 5 (Kd.int .u8)) g0 74 a2 n2 c2 l2) (hB1 : MapB g0 m1 b2 kv_S_notary_entry (Value.int .i64) w1) (hB2 : Box g0 m0 b1 91 [[.slice a1 n1 c1], [.map (some b2)]] [1, 1]) (hm1_0 : m1 ≠ m0) (hm0 : m0 ≠ 0) (hm1 : m1 ≠ 0) (o1 : Bool) (hs : F.notary_signed l1 w1 d1 d2 l2 x1 = some o1) :
  Calls Try.prog 55 #[.iface 50 (.pointer (some ⟨b1, 0, none⟩)), AG [encA .u8 d1], AG [encA .u8 d2], .slice a2 n2 c2, .int .i64 x1] g0.w (Ret NoM g0 fun v g => v = .bool o1) := by
 refine calls_of (args := [.iface 50 (.pointer (some ⟨b1, 0, none⟩)), AG [encA .u8 d1], AG [encA .u8 d2], .slice a2 n2 c2, .int .i64 x1]) Try.func55 rfl (m0 + m1 + 0) ?_
 intro t ht htL
 refine ⟨_, rfl, ?_⟩
 refine CP.refr 32 [(0, .iface 50 (.pointer (some ⟨b1, 0, none⟩))), (1, AG [encA .u8 d1]), (2, AG [encA .u8 d2]), (3, .slice a2 n2 c2), (4, .int .i64 x1)] (by kernel_rfl) (by kernel_rfl) ?_
 intro ds
 have tot : Step (fun l => NoM l ∨ t ≤ l) g0 g0 := Step.refl _ _
 unfold F.notary_signed at hs
 refine CP.seqR ?_
 refine WP.alloc (T := 47) (t + 1) [encA .u8 d1] [8] (by kernel_rfl) (by simp [len_encA]) ?_
 intro g1 b3 st1 hB3
 replace hB2 := hB2.mono st1 (fun x => x)
 replace hR1 := hR1.mono st1 (fun x => x)
 replace hB1 := hB1.mono st1 (fun x => x)
 replace hR2 := hR2.mono st1 (fun x => x)
 replace tot := tot.trans st1.pure
 refine WP.alloc (T := 47) (t + 2) [encA .u8 d2] [8] (by kernel_rfl) (by simp [len_encA]) ?_
 intro g2 b4 st2 hB4
 replace hB2 := hB2.mono st2 (fun x => x)
 replace hR1 := hR1.mono st2 (fun x => x)
 replace hB1 := hB1.mono st2 (fun x => x)
 replace hR2 := hR2.mono st2 (fun x => x)
 replace hB3 := hB3.mono st2 (fun x => x)
 replace tot := tot.trans st2.pure
 refine WP.stl 1 ?_
 refine WP.dn ?_
 refine NX.then_n ?_
 refine CP.cut (fun tm g => ∃ (q2 : Bool), Fr 32 [(10, .bool q2)] tm ∧ Step (fun l => NoM l ∨ t ≤ l) g0 g ∧ (F.notary_signed.c1 q2) = some o1) ?_ ?_
 ·refine bool_split (b := decide (x1 < (l2.length : Int))) (fun h2 => ?_) (fun h2 => ?_)
  ·replace hs := of_if_t hs h2
   by_cases hc2 : (0 : Int) ≤ x1 ∧ x1 < (l2.length : Int)
   case neg => rw [if_neg hc2] at hs; cases hs
   replace hs := of_if_p hs hc2
   replace hs := Option.bind_eq_some_iff.1 hs
   obtain ⟨q3, hk2, hs⟩ := hs
   obtain ⟨b6, u2, ha2⟩ := hR2.at hc2
   refine CP.drawL (by kernel_rfl) [5, 8, 10, 11, 14, 15, 19] N.notary_signed_0 [⟨none, [], [], fun l g => Box g m0 b1 91 [[.slice a1 n1 c1], [.map (some b2)]] [1, 1]⟩, ⟨none, [], [], fun l g => RdS k_S_notary_entry g 136 a1 n1 c1 l1⟩, ⟨none, [], [], fun l g => MapB g m1 b2 kv_S_notary_entry (Value.int .i64) w1⟩, ⟨none, [], [], fun l g => RdS (Kd.slice 5 (Kd.int .u8)) g 74 a2 n2 c2 l2⟩, ⟨none, [], [], fun l g => Box g (t + 1) b3 47 [encA .u8 d1] [8]⟩, ⟨none, [], [], fun l g => Box g (t + 2) b4 47 [encA .u8 d2] [8]⟩, ⟨some 0, [], [0], fun l g => l.getD 0 undef = .int .i64 (l2.length : Int)⟩, ⟨some 1, [], [1], fun l g => l.getD 0 undef = .bool true⟩, ⟨some 2, [], [2], fun l g => l.getD 0 undef = AG [encA .u8 d1]⟩, ⟨some 3, [], [3], fun l g => l.getD 0 undef = AG [encA .u8 d2]⟩, ⟨some 4, [], [4], fun l g => l.getD 0 undef = .pointer (some ⟨b6, u2 + x1.toNat * 1, none⟩)⟩, ⟨some 5, [], [5], fun l g => ∃ (a4 : Option Addr) (c4 : Nat), l.getD 0 undef = .slice a4 ((getI l2 x1).length) c4 ∧ RdS (Kd.int .u8) g 5 a4 ((getI l2 x1).length) c4 (getI l2 x1)⟩, ⟨some 6, [], [6], fun l g => l.getD 0 undef = .bool q3⟩] [[], [], [], [], [], [], []] [] [0, 1, 2, 3, 4] [6, 7, 9, 12, 13, 16, 17, 18, 20, 21] (by kernel_rfl) (by simp) (by simp) ⟨fun _ _ _ _ st h0 hl hj hB2 => (hB2.mono st (fun h => absurd (hl _ h) (by simp))), fun _ _ _ _ st h0 hl hj hR1 => (RdS.mono (e := 136) hR1 st h0), fun _ _ _ _ st h0 hl hj hB1 => (hB1.mono st (fun h => absurd (hl _ h) (by simp))), fun _ _ _ _ st h0 hl hj hR2 => (RdS.mono (e := 74) hR2 st h0), fun _ _ _ _ st h0 hl hj hB3 => (hB3.mono st (fun h => absurd (hl _ h) (by simp))), fun _ _ _ _ st h0 hl hj hB4 => (hB4.mono st (fun h => absurd (hl _ h) (by simp))), fun _ _ _ _ st h0 hl hj e0 => e0, fun _ _ _ _ st h0 hl hj e1 => e1, fun _ _ _ _ st h0 hl hj e2 => e2, fun _ _ _ _ st h0 hl hj e3 => e3, fun _ _ _ _ st h0 hl hj e4 => e4, fun _ _ _ _ st h0 hl hj ⟨a4, c4, e5, hR4⟩ => ⟨a4, c4, e5, (RdS.mono (e := 5) hR4 st h0)⟩, fun _ _ _ _ st h0 hl hj e6 => e6, tv⟩ ⟨hB2, hR1, hB1, hR2, hB3, hB4, tv, tv, tv, tv, tv, tv, tv, tv⟩ (by kernel_rfl) (fun vs => by kernel_rfl) ?_ ?_ ?_
   ·intro j hj
    have hq : j = 0 ∨ j = 1 ∨ j = 2 ∨ j = 3 ∨ j = 4 ∨ j = 5 ∨ j = 6 ∨ j = 7 ∨ j = 8 ∨ j = 9 := by have h : j < 10 := hj; omega
    rcases hq with rfl | rfl | rfl | rfl | rfl | rfl | rfl | rfl | rfl | rfl
    ·intro vs gq stq hl hf
     obtain ⟨v0, v1, v2, v3, v4, v5, v6, rfl⟩ := len_k7 hl
     have e0 := (show v0 = .int .i64 (l2.length : Int) from hf _ (memI 6 rfl) (by kernel_rfl))
     subst e0
     show Option.isSome _ = true
     kernel_rfl
    ·intro vs gq stq hl hf
     obtain ⟨v0, v1, v2, v3, v4, v5, v6, rfl⟩ := len_k7 hl
     have e0 := (show v0 = .int .i64 (l2.length : Int) from hf _ (memI 6 rfl) (by kernel_rfl))
     subst e0
     show Option.isSome _ = true
     kernel_rfl
    ·intro vs gq stq hl hf
     obtain ⟨v0, v1, v2, v3, v4, v5, v6, rfl⟩ := len_k7 hl
     have e1 := (show v1 = .bool true from hf _ (memI 7 rfl) (by kernel_rfl))
     subst e1
     show Option.isSome _ = true
     kernel_rfl
    ·intro vs gq stq hl hf
     obtain ⟨v0, v1, v2, v3, v4, v5, v6, rfl⟩ := len_k7 hl
     have e1 := (show v1 = .bool true from hf _ (memI 7 rfl) (by kernel_rfl))
     subst e1
     show Option.isSome _ = true
     kernel_rfl
    ·intro vs gq stq hl hf
     obtain ⟨v0, v1, v2, v3, v4, v5, v6, rfl⟩ := len_k7 hl
     have e1 := (show v1 = .bool true from hf _ (memI 7 rfl) (by kernel_rfl))
     subst e1
     show Option.isSome _ = true
     kernel_rfl
    ·intro vs gq stq hl hf
     obtain ⟨v0, v1, v2, v3, v4, v5, v6, rfl⟩ := len_k7 hl
     have e1 := (show v1 = .bool true from hf _ (memI 7 rfl) (by kernel_rfl))
     subst e1
     show Option.isSome _ = true
     kernel_rfl
    ·intro vs gq stq hl hf
     obtain ⟨v0, v1, v2, v3, v4, v5, v6, rfl⟩ := len_k7 hl
     have e1 := (show v1 = .bool true from hf _ (memI 7 rfl) (by kernel_rfl))
     subst e1
     show Option.isSome _ = true
     kernel_rfl
    ·intro vs gq stq hl hf
     obtain ⟨v0, v1, v2, v3, v4, v5, v6, rfl⟩ := len_k7 hl
     have e1 := (show v1 = .bool true from hf _ (memI 7 rfl) (by kernel_rfl))
     subst e1
     show Option.isSome _ = true
     kernel_rfl
    ·intro vs gq stq hl hf
     obtain ⟨v0, v1, v2, v3, v4, v5, v6, rfl⟩ := len_k7 hl
     have e1 := (show v1 = .bool true from hf _ (memI 7 rfl) (by kernel_rfl))
     subst e1
     have e6 := (show v6 = .bool q3 from hf _ (memI 12 rfl) (by kernel_rfl))
     subst e6
     show Option.isSome _ = true
     kernel_rfl
    ·intro vs gq stq hl hf
     obtain ⟨v0, v1, v2, v3, v4, v5, v6, rfl⟩ := len_k7 hl
     have e1 := (show v1 = .bool true from hf _ (memI 7 rfl) (by kernel_rfl))
     subst e1
     have e6 := (show v6 = .bool q3 from hf _ (memI 12 rfl) (by kernel_rfl))
     subst e6
     show Option.isSome _ = true
     kernel_rfl
   ·intro j hj
    have hq : j = 0 ∨ j = 1 ∨ j = 2 ∨ j = 3 ∨ j = 4 ∨ j = 5 ∨ j = 6 := by have h : j < 7 := hj; omega
    rcases hq with rfl | rfl | rfl | rfl | rfl | rfl | rfl
    ·intro vs gq stq hl hf
     obtain ⟨v0, v1, v2, v3, v4, v5, v6, rfl⟩ := len_k7 hl
     have hR2 := (show RdS (Kd.slice 5 (Kd.int .u8)) gq 74 a2 n2 c2 l2 from hf _ (memI 3 rfl) (by kernel_rfl))
     refine WP.len (a := a2) (cp := c2) hR2.len (by kernel_rfl) ?_
     refine WP.dn (Shown.ok (v := .int .i64 (l2.length : Int)) (by kernel_rfl) (Step.refl _ _) ?_)
     exact ⟨tv, tv, tv, tv, tv, tv, rfl, tv, tv, tv, tv, tv, tv, tv⟩
    ·intro vs gq stq hl hf
     obtain ⟨v0, v1, v2, v3, v4, v5, v6, rfl⟩ := len_k7 hl
     have e0 := (show v0 = .int .i64 (l2.length : Int) from hf _ (memI 6 rfl) (by kernel_rfl))
     subst e0
     refine WP.stl 1 ?_
     refine WP.dn (Shown.ok (v := .bool (decide (x1 < (l2.length : Int)))) (by kernel_rfl) (Step.refl _ _) ?_)
     exact ⟨tv, tv, tv, tv, tv, tv, tv, congrArg Value.bool h2, tv, tv, tv, tv, tv, tv⟩
    ·intro vs gq stq hl hf
     obtain ⟨v0, v1, v2, v3, v4, v5, v6, rfl⟩ := len_k7 hl
     have hB3 := (show Box gq (t + 1) b3 47 [encA .u8 d1] [8] from hf _ (memI 4 rfl) (by kernel_rfl))
     have e1 := (show v1 = .bool true from hf _ (memI 7 rfl) (by kernel_rfl))
     subst e1
     refine WP.loadB (v := AG [encA .u8 d1]) hB3 (by kernel_rfl) (by kernel_rfl) ?_
     refine WP.dn (Shown.ok (v := AG [encA .u8 d1]) (by kernel_rfl) (Step.refl _ _) ?_)
     exact ⟨tv, tv, tv, tv, tv, tv, tv, tv, rfl, tv, tv, tv, tv, tv⟩
    ·intro vs gq stq hl hf
     obtain ⟨v0, v1, v2, v3, v4, v5, v6, rfl⟩ := len_k7 hl
     have hB4 := (show Box gq (t + 2) b4 47 [encA .u8 d2] [8] from hf _ (memI 5 rfl) (by kernel_rfl))
     have e1 := (show v1 = .bool true from hf _ (memI 7 rfl) (by kernel_rfl))
     subst e1
     refine WP.loadB (v := AG [encA .u8 d2]) hB4 (by kernel_rfl) (by kernel_rfl) ?_
     refine WP.dn (Shown.ok (v := AG [encA .u8 d2]) (by kernel_rfl) (Step.refl _ _) ?_)
     exact ⟨tv, tv, tv, tv, tv, tv, tv, tv, tv, rfl, tv, tv, tv, tv⟩
    ·intro vs gq stq hl hf
     obtain ⟨v0, v1, v2, v3, v4, v5, v6, rfl⟩ := len_k7 hl
     have hR2 := (show RdS (Kd.slice 5 (Kd.int .u8)) gq 74 a2 n2 c2 l2 from hf _ (memI 3 rfl) (by kernel_rfl))
     have e1 := (show v1 = .bool true from hf _ (memI 7 rfl) (by kernel_rfl))
     subst e1
     refine WP.indexA (t := 52) (e := 74) (sz := 1) (cap := c2) (k := .i64) (i := x1) hR2.len ha2 (by kernel_rfl) (by kernel_rfl) hc2 ?_
     refine WP.dn (Shown.ok (v := .pointer (some ⟨b6, u2 + x1.toNat * 1, none⟩)) (by kernel_rfl) (Step.refl _ _) ?_)
     exact ⟨tv, tv, tv, tv, tv, tv, tv, tv, tv, tv, rfl, tv, tv, tv⟩
    ·intro vs gq stq hl hf
     obtain ⟨v0, v1, v2, v3, v4, v5, v6, rfl⟩ := len_k7 hl
     have hR2 := (show RdS (Kd.slice 5 (Kd.int .u8)) gq 74 a2 n2 c2 l2 from hf _ (memI 3 rfl) (by kernel_rfl))
     have e1 := (show v1 = .bool true from hf _ (memI 7 rfl) (by kernel_rfl))
     subst e1
     have e4 := (show v4 = .pointer (some ⟨b6, u2 + x1.toNat * 1, none⟩) from hf _ (memI 10 rfl) (by kernel_rfl))
     subst e4
     obtain ⟨cs2, hcR2, hcV2⟩ := hR2.src.view (getI_some hc2) ha2
     obtain ⟨a4, n4, c4, hcR2, hR4⟩ := Kd.o_sl hcR2
     refine WP.loadV [[.slice a4 n4 c4]] [1] hcV2 hcR2 rfl (f := 0) (ty := 74) (agg := false) (size := 1) (rs := [[.slice a4 n4 c4]]) (v := .slice a4 n4 c4) (by kernel_rfl) (by kernel_rfl) (by kernel_rfl) (by kernel_rfl) ?_
     obtain rfl := hR4.len
     refine WP.dn (Shown.ok (v := .slice a4 ((getI l2 x1).length) c4) (by kernel_rfl) (Step.refl _ _) ?_)
     exact ⟨tv, tv, tv, tv, tv, tv, tv, tv, tv, tv, tv, ⟨a4, c4, rfl, hR4⟩, tv, tv⟩
    ·intro vs gq stq hl hf
     obtain ⟨v0, v1, v2, v3, v4, v5, v6, rfl⟩ := len_k7 hl
     have hB2 := (show Box gq m0 b1 91 [[.slice a1 n1 c1], [.map (some b2)]] [1, 1] from hf _ (memI 0 rfl) (by kernel_rfl))
     have hR1 := (show RdS k_S_notary_entry gq 136 a1 n1 c1 l1 from hf _ (memI 1 rfl) (by kernel_rfl))
     have hB1 := (show MapB gq m1 b2 kv_S_notary_entry (Value.int .i64) w1 from hf _ (memI 2 rfl) (by kernel_rfl))
     have e1 := (show v1 = .bool true from hf _ (memI 7 rfl) (by kernel_rfl))
     subst e1
     have e2 := (show v2 = AG [encA .u8 d1] from hf _ (memI 8 rfl) (by kernel_rfl))
     subst e2
     have e3 := (show v3 = AG [encA .u8 d2] from hf _ (memI 9 rfl) (by kernel_rfl))
     subst e3
     obtain ⟨a4, c4, e5, hR4⟩ := (show ∃ (a4 : Option Addr) (c4 : Nat), v5 = .slice a4 ((getI l2 x1).length) c4 ∧ RdS (Kd.int .u8) gq 5 a4 ((getI l2 x1).length) c4 (getI l2 x1) from hf _ (memI 11 rfl) (by kernel_rfl))
     subst e5
     have hcal2 := P.notary_Book_Verify gq m0 m1 l1 w1 d1 d2 (getI l2 x1) a1 n1 c1 a4 ((getI l2 x1).length) c4 b1 b2 hR1 hR4 hB1 hB2 (by omega) (by omega) (by omega) q3 hk2
     refine WP.callC hcal2 (by kernel_rfl) ?_
     rintro _ g4 st4 rfl
     refine WP.dn (Shown.o (v := .bool q3) st4.pure ?_)
     exact ⟨tv, tv, tv, tv, tv, tv, tv, tv, tv, tv, tv, tv, rfl, tv⟩
   intro vs g5 st5 hl hf
   obtain ⟨v0, v1, v2, v3, v4, v5, v6, rfl⟩ := len_k7 hl
   have e1 := (show v1 = .bool true from hf _ (memI 7 rfl) (by kernel_rfl))
   subst e1
   have e6 := (show v6 = .bool q3 from hf _ (memI 12 rfl) (by kernel_rfl))
   subst e6
   replace tot := tot.trans st5.toNo.pure
   refine NX.post ?_
   exact ⟨q3, ⟨by kernel_rfl, by kernel_rfl⟩, tot, hs⟩
  replace hs := of_if_f hs h2
  refine CP.drawL (by kernel_rfl) [5, 8] N.notary_signed_0 [⟨none, [], [], fun l g => RdS (Kd.slice 5 (Kd.int .u8)) g 74 a2 n2 c2 l2⟩, ⟨some 0, [], [0], fun l g => l.getD 0 undef = .int .i64 (l2.length : Int)⟩, ⟨some 1, [], [1], fun l g => l.getD 0 undef = .bool false⟩] [[], []] [] [0, 1, 2, 3, 4] [6, 7, 9, 10, 11, 12, 13, 14, 15, 16, 17, 18, 19, 20, 21] (by kernel_rfl) (by simp) (by simp) ⟨fun _ _ _ _ st h0 hl hj hR2 => (RdS.mono (e := 74) hR2 st h0), fun _ _ _ _ st h0 hl hj e0 => e0, fun _ _ _ _ st h0 hl hj e1 => e1, tv⟩ ⟨hR2, tv, tv, tv⟩ (by kernel_rfl) (fun vs => by kernel_rfl) ?_ ?_ ?_
  ·intro j hj
   have hq : j = 0 ∨ j = 1 ∨ j = 2 ∨ j = 3 ∨ j = 4 ∨ j = 5 ∨ j = 6 ∨ j = 7 ∨ j = 8 ∨ j = 9 ∨ j = 10 ∨ j = 11 ∨ j = 12 ∨ j = 13 ∨ j = 14 := by have h : j < 15 := hj; omega
   rcases hq with rfl | rfl | rfl | rfl | rfl | rfl | rfl | rfl | rfl | rfl | rfl | rfl | rfl | rfl | rfl
   ·intro vs gq stq hl hf
    obtain ⟨v0, v1, rfl⟩ := len_k2 hl
    have e0 := (show v0 = .int .i64 (l2.length : Int) from hf _ (memI 1 rfl) (by kernel_rfl))
    subst e0
    show Option.isSome _ = true
    kernel_rfl
   ·intro vs gq stq hl hf
    obtain ⟨v0, v1, rfl⟩ := len_k2 hl
    have e0 := (show v0 = .int .i64 (l2.length : Int) from hf _ (memI 1 rfl) (by kernel_rfl))
    subst e0
    show Option.isSome _ = true
    kernel_rfl
   ·intro vs gq stq hl hf
    obtain ⟨v0, v1, rfl⟩ := len_k2 hl
    have e1 := (show v1 = .bool false from hf _ (memI 2 rfl) (by kernel_rfl))
    subst e1
    show Option.isSome _ = true
    kernel_rfl
   ·intro vs gq stq hl hf
    obtain ⟨v0, v1, rfl⟩ := len_k2 hl
    have e1 := (show v1 = .bool false from hf _ (memI 2 rfl) (by kernel_rfl))
    subst e1
    show Option.isSome _ = true
    kernel_rfl
   ·intro vs gq stq hl hf
    obtain ⟨v0, v1, rfl⟩ := len_k2 hl
    have e1 := (show v1 = .bool false from hf _ (memI 2 rfl) (by kernel_rfl))
    subst e1
    show Option.isSome _ = true
    kernel_rfl
   ·intro vs gq stq hl hf
    obtain ⟨v0, v1, rfl⟩ := len_k2 hl
    have e1 := (show v1 = .bool false from hf _ (memI 2 rfl) (by kernel_rfl))
    subst e1
    show Option.isSome _ = true
    kernel_rfl
   ·intro vs gq stq hl hf
    obtain ⟨v0, v1, rfl⟩ := len_k2 hl
    have e1 := (show v1 = .bool false from hf _ (memI 2 rfl) (by kernel_rfl))
    subst e1
    show Option.isSome _ = true
    kernel_rfl
   ·intro vs gq stq hl hf
    obtain ⟨v0, v1, rfl⟩ := len_k2 hl
    have e1 := (show v1 = .bool false from hf _ (memI 2 rfl) (by kernel_rfl))
    subst e1
    show Option.isSome _ = true
    kernel_rfl
   ·intro vs gq stq hl hf
    obtain ⟨v0, v1, rfl⟩ := len_k2 hl
    have e1 := (show v1 = .bool false from hf _ (memI 2 rfl) (by kernel_rfl))
    subst e1
    show Option.isSome _ = true
    kernel_rfl
   ·intro vs gq stq hl hf
    obtain ⟨v0, v1, rfl⟩ := len_k2 hl
    have e1 := (show v1 = .bool false from hf _ (memI 2 rfl) (by kernel_rfl))
    subst e1
    show Option.isSome _ = true
    kernel_rfl
   ·intro vs gq stq hl hf
    obtain ⟨v0, v1, rfl⟩ := len_k2 hl
    have e1 := (show v1 = .bool false from hf _ (memI 2 rfl) (by kernel_rfl))
    subst e1
    show Option.isSome _ = true
    kernel_rfl
   ·intro vs gq stq hl hf
    obtain ⟨v0, v1, rfl⟩ := len_k2 hl
    have e1 := (show v1 = .bool false from hf _ (memI 2 rfl) (by kernel_rfl))
    subst e1
    show Option.isSome _ = true
    kernel_rfl
   ·intro vs gq stq hl hf
    obtain ⟨v0, v1, rfl⟩ := len_k2 hl
    have e1 := (show v1 = .bool false from hf _ (memI 2 rfl) (by kernel_rfl))
    subst e1
    show Option.isSome _ = true
    kernel_rfl
   ·intro vs gq stq hl hf
    obtain ⟨v0, v1, rfl⟩ := len_k2 hl
    have e1 := (show v1 = .bool false from hf _ (memI 2 rfl) (by kernel_rfl))
    subst e1
    show Option.isSome _ = true
    kernel_rfl
   ·intro vs gq stq hl hf
    obtain ⟨v0, v1, rfl⟩ := len_k2 hl
    have e1 := (show v1 = .bool false from hf _ (memI 2 rfl) (by kernel_rfl))
    subst e1
    show Option.isSome _ = true
    kernel_rfl
  ·intro j hj
   have hq : j = 0 ∨ j = 1 := by have h : j < 2 := hj; omega
   rcases hq with rfl | rfl
   ·intro vs gq stq hl hf
    obtain ⟨v0, v1, rfl⟩ := len_k2 hl
    have hR2 := (show RdS (Kd.slice 5 (Kd.int .u8)) gq 74 a2 n2 c2 l2 from hf _ (memI 0 rfl) (by kernel_rfl))
    refine WP.len (a := a2) (cp := c2) hR2.len (by kernel_rfl) ?_
    refine WP.dn (Shown.ok (v := .int .i64 (l2.length : Int)) (by kernel_rfl) (Step.refl _ _) ?_)
    exact ⟨tv, rfl, tv, tv⟩
   ·intro vs gq stq hl hf
    obtain ⟨v0, v1, rfl⟩ := len_k2 hl
    have e0 := (show v0 = .int .i64 (l2.length : Int) from hf _ (memI 1 rfl) (by kernel_rfl))
    subst e0
    refine WP.stl 1 ?_
    refine WP.dn (Shown.ok (v := .bool (decide (x1 < (l2.length : Int)))) (by kernel_rfl) (Step.refl _ _) ?_)
    exact ⟨tv, tv, congrArg Value.bool h2, tv⟩
  intro vs g6 st6 hl hf
  obtain ⟨v0, v1, rfl⟩ := len_k2 hl
  have e1 := (show v1 = .bool false from hf _ (memI 2 rfl) (by kernel_rfl))
  subst e1
  replace tot := tot.trans st6.toNo.pure
  refine NX.post ?_
  exact ⟨false, ⟨by kernel_rfl, by kernel_rfl⟩, tot, hs⟩
 clear tot hs hB2 hR1 hB1 hR2 hB3 hB4
 rintro tm g ⟨q2, hF, tot, hs⟩
 clear ds
 obtain ⟨ds, rfl⟩ := hF.open
 clear hF
 unfold F.notary_signed.c1 at hs
 refine CP.ret ?_
 replace hs := Option.some.inj hs
 obtain rfl := hs
 exact NX.fin (v := .bool q2) (Res.still (by kernel_rfl)) tot htL rfl
def F.notary_Missing.c1 (nx1 : (List Int) → Int → Option ((List Int))) (x1 : Int) (l9 : List Int) : Option ((List Int)) := (nx1 l9 (IntKind.i64.wrap (x1 + 1)))
def F.notary_Missing.c3 (nx1 : (List Int) → Int → Option ((List Int))) (l6 : List Int) (x1 : Int) (q12 : Bool) : Option ((List Int)) := (if q12 = true then (if l6.length + ([x1]).length ≤ 17592186044416 then (F.notary_Missing.c1 nx1 x1 (l6 ++ [x1])) else none) else (F.notary_Missing.c1 nx1 x1 l6))
def F.notary_Missing.c2 (nx1 : (List Int) → Int → Option ((List Int))) (l1 : List S_notary_entry) (w1 : (List (S_notary_entry × Int))) (l2 : List (Arr Int 8)) (d1 : Arr Int 8) (l3 : List (List Int)) (l6 : List Int) (x1 : Int) (q10 : Bool) : Option ((List Int)) := (if (!q10) = true then ((F.notary_signed l1 w1 (getI l2 x1) d1 l3 x1).bind fun q13 => (F.notary_Missing.c3 nx1 l6 x1 (!q13))) else (F.notary_Missing.c3 nx1 l6 x1 false))
def F.notary_Missing.l1 (l1 : List S_notary_entry) (w1 : (List (S_notary_entry × Int))) (l2 : List (Arr Int 8)) (d1 : Arr Int 8) (l3 : List (List Int)) (l4 : List Bool) : Nat → (List Int) → Int → Option ((List Int))
 | 0, _, _ => none
 | k + 1, l6, x1 => (if decide (x1 < (l2.length : Int)) = true then (if (0 : Int) ≤ x1 ∧ x1 < (l2.length : Int) then (if decide (x1 < (l4.length : Int)) = true then (if (0 : Int) ≤ x1 ∧ x1 < (l4.length : Int) then (F.notary_Missing.c2 (F.notary_Missing.l1 l1 w1 l2 d1 l3 l4 k) l1 w1 l2 d1 l3 l6 x1 (getI l4 x1)) else none) else (F.notary_Missing.c2 (F.notary_Missing.l1 l1 w1 l2 d1 l3 l4 k) l1 w1 l2 d1 l3 l6 x1 false)) else none) else (some l6))
def F.notary_Missing (l1 : List S_notary_entry) (w1 : (List (S_notary_entry × Int))) (l2 : List (Arr Int 8)) (d1 : Arr Int 8) (l3 : List (List Int)) (l4 : List Bool) : Option ((List Int)) := (F.notary_Missing.l1 l1 w1 l2 d1 l3 l4 fuel ([]) 0)
theorem P.notary_Missing (g0 : GW) (m0 : Nat) (m1 : Nat) (r0 : Nat) (l1 : List S_notary_entry) (w1 : (List (S_notary_entry × Int))) (l2 : List (Arr Int 8)) (d1 : Arr Int 8) (l3 : List (List Int)) (l4 : List Bool) (a1 : Option Addr) (n1 : Nat) (c1 : Nat) (a2 : Option Addr) (n2 : Nat) (c2 : Nat) (a3 : Option Addr) (n3 : Nat) (c3 : Nat) (a4 : Option Addr) (n4 : Nat) (c4 : Nat) (b1 : Nat) (b2 : Nat) (hR1 : RdS k_S_notary_entry g0 136 a1 n1 c1 l1) (hR2 : RdS (Kd.arrI 8 .u8) g0 47 a2 n2 c2 l2) (hR3 : RdS (Kd.slice 5 (Kd.int .u8)) g0 74 a3 n3 c3 l3) (hR4 : RdS Kd.bool g0 4 a4 n4 c4 l4) (hB1 : MapB g0 m1 b2 kv_S_notary_entry (Value.int .i64) w1) (hB2 : Box g0 m0 b1 91 [[.slice a1 n1 c1], [.map (some b2)]] [1, 1]) (hm1_0 : m1 ≠ m0) (hm0 : m0 ≠ 0) (hm1 : m1 ≠ 0) (o1 : List Int) (hs : F.notary_Missing l1 w1 l2 d1 l3 l4 = some o1) :
  Calls Try.prog 49 #[.iface 50 (.pointer (some ⟨b1, 0, none⟩)), .slice a2 n2 c2, AG [encA .u8 d1], .slice a3 n3 c3, .slice a4 n4 c4] g0.w (Ret NoM g0 fun v g => ∃ (a_1 : Option Addr) (n_1 : Nat) (c_1 : Nat), v = .slice a_1 n_1 c_1 ∧ OwnS (Kd.int .i64) g r0 3 a_1 n_1 c_1 o1) := by
 refine calls_of (args := [.iface 50 (.pointer (some ⟨b1, 0, none⟩)), .slice a2 n2 c2, AG [encA .u8 d1], .slice a3 n3 c3, .slice a4 n4 c4]) Try.func49 rfl (m0 + m1 + r0 + 0) ?_
 intro t ht htL
 refine ⟨_, rfl, ?_⟩
 refine CP.refr 49 [(0, .iface 50 (.pointer (some ⟨b1, 0, none⟩))), (1, .slice a2 n2 c2), (2, AG [encA .u8 d1]), (3, .slice a3 n3 c3), (4, .slice a4 n4 c4)] (by kernel_rfl) (by kernel_rfl) ?_
 intro ds
 have tot : Step (fun l => NoM l ∨ t ≤ l) g0 g0 := Step.refl _ _
 unfold F.notary_Missing at hs
 refine CP.seqR ?_
 refine WP.alloc (T := 47) (t + 1) [encA .u8 d1] [8] (by kernel_rfl) (by simp [len_encA]) ?_
 intro g1 b3 st1 hB3
 replace hB2 := hB2.mono st1 (fun x => x)
 replace hR1 := hR1.mono st1 (fun x => x)
 replace hB1 := hB1.mono st1 (fun x => x)
 replace hR2 := hR2.mono st1 (fun x => x)
 replace hR3 := hR3.mono st1 (fun x => x)
 replace hR4 := hR4.mono st1 (fun x => x)
 replace tot := tot.trans st1.pure
 refine WP.stl 1 ?_
 refine WP.dn ?_
 refine NX.then_n ?_
 refine CP.seqR ?_
 refine WP.stl 1 ?_
 refine WP.dn ?_
 refine NX.then_n ?_
 refine CP.seq ?_
 refine CP.seqR ?_
 refine WP.stl 1 ?_
 refine WP.len (a := a2) (cp := c2) hR2.len (by kernel_rfl) ?_
 refine WP.stl 1 ?_
 refine WP.dn ?_
 refine NX.then_n ?_
 refine CP.block ?_
 generalize fuel = k1 at hs
 refine CP.loop (fun k1 tm g => ∃ (l6 : List Int) (a8 : Option Addr) (n6 : Nat) (c7 : Nat) (x1 : Int), Fr 49 [(0, .iface 50 (.pointer (some ⟨b1, 0, none⟩))), (3, .slice a3 n3 c3), (4, .slice a4 n4 c4), (7, .pointer (some ⟨b3, 0, none⟩)), (11, .slice a8 n6 c7), (15, .slice a2 n2 c2), (16, .int .i64 (l2.length : Int)), (17, .int .i64 x1)] tm ∧ Step (fun l => NoM l ∨ t ≤ l) g0 g ∧ Box g m0 b1 91 [[.slice a1 n1 c1], [.map (some b2)]] [1, 1] ∧ RdS k_S_notary_entry g 136 a1 n1 c1 l1 ∧ MapB g m1 b2 kv_S_notary_entry (Value.int .i64) w1 ∧ RdS (Kd.slice 5 (Kd.int .u8)) g 74 a3 n3 c3 l3 ∧ RdS Kd.bool g 4 a4 n4 c4 l4 ∧ Box g (t + 1) b3 47 [encA .u8 d1] [8] ∧ OwnS (Kd.int .i64) g (t + 4) 3 a8 n6 c7 l6 ∧ RdS (Kd.arrI 8 .u8) g 47 a2 n2 c2 l2 ∧ F.notary_Missing.l1 l1 w1 l2 d1 l3 l4 k1 l6 x1 = some o1) k1 ?_ ?_ ?_
 ·exact ⟨[], none, 0, 0, 0, ⟨by kernel_rfl, by kernel_rfl⟩, tot, hB2, hR1, hB1, hR3, hR4, hB3, (OwnS.nil _ _ _ _), hR2, hs⟩
 ·rintro tm g ⟨l6, a8, n6, c7, x1, hF, tot, hB2, hR1, hB1, hR3, hR4, hB3, hR8, hR2, hs⟩
  exact absurd hs (by simp [F.notary_Missing.l1])
 clear tot hs hB2 hR1 hB1 hR3 hR4 hB3 hR2
 rintro k1 tm g ⟨l6, a8, n6, c7, x1, hF, tot, hB2, hR1, hB1, hR3, hR4, hB3, hR8, hR2, hs⟩
 clear ds
 obtain ⟨ds, rfl⟩ := hF.open
 clear hF
 unfold F.notary_Missing.l1 at hs
 refine CP.seqR ?_
 refine WP.stl 1 ?_
 refine WP.dn ?_
 refine NX.then_n ?_
 refine CP.seq ?_
 refine CP.cond (b := decide (x1 < (l2.length : Int))) (by kernel_rfl) (fun h9 => ?_) (fun h9 => ?_)
 ·replace hs := of_if_t hs h9
  refine CP.skip ?_
  refine NX.then_n ?_
  refine CP.cut (fun tm g => ∃ (l9 : List Int) (a15 : Option Addr) (n9 : Nat) (c12 : Nat), Fr 49 [(0, .iface 50 (.pointer (some ⟨b1, 0, none⟩))), (3, .slice a3 n3 c3), (4, .slice a4 n4 c4), (7, .pointer (some ⟨b3, 0, none⟩)), (11, .slice a15 n9 c12), (15, .slice a2 n2 c2), (16, .int .i64 (l2.length : Int)), (17, .int .i64 x1)] tm ∧ Step (fun l => NoM l ∨ t ≤ l) g0 g ∧ Box g m0 b1 91 [[.slice a1 n1 c1], [.map (some b2)]] [1, 1] ∧ RdS k_S_notary_entry g 136 a1 n1 c1 l1 ∧ MapB g m1 b2 kv_S_notary_entry (Value.int .i64) w1 ∧ RdS (Kd.slice 5 (Kd.int .u8)) g 74 a3 n3 c3 l3 ∧ RdS Kd.bool g 4 a4 n4 c4 l4 ∧ Box g (t + 1) b3 47 [encA .u8 d1] [8] ∧ OwnS (Kd.int .i64) g (t + 4) 3 a15 n9 c12 l9 ∧ RdS (Kd.arrI 8 .u8) g 47 a2 n2 c2 l2 ∧ (F.notary_Missing.c1 (F.notary_Missing.l1 l1 w1 l2 d1 l3 l4 k1) x1 l9) = some o1) ?_ ?_
  ·refine CP.block ?_
   refine CP.seqR ?_
   refine WP.stl 1 ?_
   by_cases hc10 : (0 : Int) ≤ x1 ∧ x1 < (l2.length : Int)
   case neg => rw [if_neg hc10] at hs; cases hs
   replace hs := of_if_p hs hc10
   obtain ⟨b13, u7, ha7⟩ := hR2.at hc10
   refine WP.indexA (t := 51) (e := 47) (sz := 8) (cap := c2) (k := .i64) (i := x1) hR2.len ha7 (by kernel_rfl) (by kernel_rfl) hc10 ?_
   obtain ⟨cs7, hcR7, hcV7⟩ := hR2.src.view (getI_some hc10) ha7
   replace hcR7 := Kd.o_arr hcR7
   refine WP.loadV [encA .u8 (getI l2 x1)] [8] hcV7 hcR7 (by simp [len_encA]) (f := 0) (ty := 47) (agg := true) (size := 8) (rs := [encA .u8 (getI l2 x1)]) (v := AG [encA .u8 (getI l2 x1)]) (by kernel_rfl) (by kernel_rfl) (by kernel_rfl) (by kernel_rfl) ?_
   refine WP.alloc (T := 47) (t + 9) [encA .u8 (zA 8)] [8] (by kernel_rfl) (by simp [len_encA]) ?_
   intro g17 b14 st17 hB10
   replace hB2 := hB2.mono st17 (fun x => x)
   replace hR1 := hR1.mono st17 (fun x => x)
   replace hB1 := hB1.mono st17 (fun x => x)
   replace hR3 := hR3.mono st17 (fun x => x)
   replace hR4 := hR4.mono st17 (fun x => x)
   replace hB3 := hB3.mono st17 (fun x => x)
   replace hR8 := hR8.mono st17 (fun x => x) (fun x => x)
   replace hR2 := hR2.mono st17 (fun x => x)
   replace tot := tot.trans st17.pure
   refine WP.stl 1 ?_
   refine WP.storeB (ty := 47) (off := 0) (v := AG [encA .u8 (getI l2 x1)]) hB10 [encA .u8 (getI l2 x1)] [8] (by kernel_rfl) (by kernel_rfl) (by simp [len_encA]) (by kernel_rfl) [encA .u8 (getI l2 x1)] (by kernel_rfl) (.arr .nil) ?_
   intro g18 st18 hB11
   replace hB2 := hB2.mono st18 (WL.no1 (by omega))
   replace hR1 := hR1.mono st18 (WL.no1 (by omega))
   replace hB1 := hB1.mono st18 (WL.no1 (by omega))
   replace hR3 := hR3.mono st18 (WL.no1 (by omega))
   replace hR4 := hR4.mono st18 (WL.no1 (by omega))
   replace hB3 := hB3.mono st18 (WL.no1 (by omega))
   replace hR8 := hR8.mono st18 (WL.no1 (by omega)) (WL.no1 (by omega))
   replace hR2 := hR2.mono st18 (WL.no1 (by omega))
   replace tot := tot.trans (st18.up1 (.inr (by omega)))
   clear hB10
   have hB10 := hB11
   clear hB11
   refine WP.dn ?_
   refine NX.then_n ?_
   refine CP.cut (fun tm g => ∃ (q10 : Bool), Fr 49 [(0, .iface 50 (.pointer (some ⟨b1, 0, none⟩))), (3, .slice a3 n3 c3), (4, .slice a4 n4 c4), (7, .pointer (some ⟨b3, 0, none⟩)), (11, .slice a8 n6 c7), (12, .int .i64 x1), (13, .pointer (some ⟨b14, 0, none⟩)), (14, .bool q10), (15, .slice a2 n2 c2), (16, .int .i64 (l2.length : Int)), (17, .int .i64 x1)] tm ∧ Step (fun l => NoM l ∨ t ≤ l) g0 g ∧ Box g m0 b1 91 [[.slice a1 n1 c1], [.map (some b2)]] [1, 1] ∧ RdS k_S_notary_entry g 136 a1 n1 c1 l1 ∧ MapB g m1 b2 kv_S_notary_entry (Value.int .i64) w1 ∧ RdS (Kd.slice 5 (Kd.int .u8)) g 74 a3 n3 c3 l3 ∧ RdS Kd.bool g 4 a4 n4 c4 l4 ∧ Box g (t + 1) b3 47 [encA .u8 d1] [8] ∧ OwnS (Kd.int .i64) g (t + 4) 3 a8 n6 c7 l6 ∧ Box g (t + 9) b14 47 [encA .u8 (getI l2 x1)] [8] ∧ RdS (Kd.arrI 8 .u8) g 47 a2 n2 c2 l2 ∧ (F.notary_Missing.c2 (F.notary_Missing.l1 l1 w1 l2 d1 l3 l4 k1) l1 w1 l2 d1 l3 l6 x1 q10) = some o1) ?_ ?_
   ·refine CP.region ?_
    refine WP.stl 2 ?_
    refine WP.len (a := a4) (cp := c4) hR4.len (by kernel_rfl) ?_
    refine WP.stl 2 ?_
    refine WP.guard 26 (b := decide (x1 < (l4.length : Int))) (by kernel_rfl) (fun h17 => ?_) (fun h17 => ?_)
    ·replace hs := of_if_t hs h17
     refine WP.stl 2 ?_
     by_cases hc13 : (0 : Int) ≤ x1 ∧ x1 < (l4.length : Int)
     case neg => rw [if_neg hc13] at hs; cases hs
     replace hs := of_if_p hs hc13
     obtain ⟨b16, u9, ha9⟩ := hR4.at hc13
     refine WP.indexA (t := 28) (e := 4) (sz := 1) (cap := c4) (k := .i64) (i := x1) hR4.len ha9 (by kernel_rfl) (by kernel_rfl) hc13 ?_
     obtain ⟨cs9, hcR9, hcV9⟩ := hR4.src.view (getI_some hc13) ha9
     replace hcR9 := Kd.o_bool hcR9
     refine WP.loadV [[.bool (getI l4 x1)]] [1] hcV9 hcR9 rfl (f := 0) (ty := 4) (agg := false) (size := 1) (rs := [[.bool (getI l4 x1)]]) (v := .bool (getI l4 x1)) (by kernel_rfl) (by kernel_rfl) (by kernel_rfl) (by kernel_rfl) ?_
     refine WP.stl 2 ?_
     refine WP.dn ?_
     refine NX.post ?_
     exact ⟨(getI l4 x1), ⟨by kernel_rfl, by kernel_rfl⟩, tot, hB2, hR1, hB1, hR3, hR4, hB3, hR8, hB10, hR2, hs⟩
    replace hs := of_if_f hs h17
    refine WP.stl 6 ?_
    refine WP.dn ?_
    refine NX.post ?_
    exact ⟨false, ⟨by kernel_rfl, by kernel_rfl⟩, tot, hB2, hR1, hB1, hR3, hR4, hB3, hR8, hB10, hR2, hs⟩
   clear tot hs hB2 hR1 hB1 hR3 hR4 hB3 hR8 hR2 hB10
   rintro tm g ⟨q10, hF, tot, hB2, hR1, hB1, hR3, hR4, hB3, hR8, hB10, hR2, hs⟩
   clear ds
   obtain ⟨ds, rfl⟩ := hF.open
   clear hF
   unfold F.notary_Missing.c2 at hs
   refine CP.cut (fun tm g => ∃ (q12 : Bool), Fr 49 [(0, .iface 50 (.pointer (some ⟨b1, 0, none⟩))), (3, .slice a3 n3 c3), (4, .slice a4 n4 c4), (7, .pointer (some ⟨b3, 0, none⟩)), (11, .slice a8 n6 c7), (12, .int .i64 x1), (15, .slice a2 n2 c2), (16, .int .i64 (l2.length : Int)), (17, .int .i64 x1), (42, .bool q12)] tm ∧ Step (fun l => NoM l ∨ t ≤ l) g0 g ∧ Box g m0 b1 91 [[.slice a1 n1 c1], [.map (some b2)]] [1, 1] ∧ RdS k_S_notary_entry g 136 a1 n1 c1 l1 ∧ MapB g m1 b2 kv_S_notary_entry (Value.int .i64) w1 ∧ RdS (Kd.slice 5 (Kd.int .u8)) g 74 a3 n3 c3 l3 ∧ RdS Kd.bool g 4 a4 n4 c4 l4 ∧ Box g (t + 1) b3 47 [encA .u8 d1] [8] ∧ OwnS (Kd.int .i64) g (t + 4) 3 a8 n6 c7 l6 ∧ RdS (Kd.arrI 8 .u8) g 47 a2 n2 c2 l2 ∧ (F.notary_Missing.c3 (F.notary_Missing.l1 l1 w1 l2 d1 l3 l4 k1) l6 x1 q12) = some o1) ?_ ?_
   ·refine CP.region ?_
    refine WP.stl 3 ?_
    refine WP.guard 34 (b := (!q10)) (by kernel_rfl) (fun h16 => ?_) (fun h16 => ?_)
    ·replace hs := of_if_t hs h16
     refine WP.stl 1 ?_
     refine WP.loadB (v := AG [encA .u8 (getI l2 x1)]) hB10 (by kernel_rfl) (by kernel_rfl) ?_
     refine WP.loadB (v := AG [encA .u8 d1]) hB3 (by kernel_rfl) (by kernel_rfl) ?_
     refine WP.stl 2 ?_
     replace hs := Option.bind_eq_some_iff.1 hs
     obtain ⟨q13, hk5, hs⟩ := hs
     have hcal5 := P.notary_signed g m0 m1 l1 w1 (getI l2 x1) d1 l3 x1 a1 n1 c1 a3 n3 c3 b1 b2 hR1 hR3 hB1 hB2 (by omega) (by omega) (by omega) q13 hk5
     refine WP.callC hcal5 (by kernel_rfl) ?_
     rintro _ g22 st22 rfl
     replace hB2 := hB2.mono st22 (fun x => x)
     replace hR1 := hR1.mono st22 (fun x => x)
     replace hB1 := hB1.mono st22 (fun x => x)
     replace hR3 := hR3.mono st22 (fun x => x)
     replace hR4 := hR4.mono st22 (fun x => x)
     replace hB3 := hB3.mono st22 (fun x => x)
     replace hR8 := hR8.mono st22 (fun x => x) (fun x => x)
     replace hB10 := hB10.mono st22 (fun x => x)
     replace hR2 := hR2.mono st22 (fun x => x)
     replace tot := tot.trans st22.pure
     refine WP.stl 2 ?_
     refine WP.dn ?_
     refine NX.post ?_
     exact ⟨(!q13), ⟨by kernel_rfl, by kernel_rfl⟩, tot, hB2, hR1, hB1, hR3, hR4, hB3, hR8, hR2, hs⟩
    replace hs := of_if_f hs h16
    refine WP.stl 8 ?_
    refine WP.dn ?_
    refine NX.post ?_
    exact ⟨false, ⟨by kernel_rfl, by kernel_rfl⟩, tot, hB2, hR1, hB1, hR3, hR4, hB3, hR8, hR2, hs⟩
   clear tot hs hB2 hR1 hB1 hR3 hR4 hB3 hR8 hB10 hR2
   rintro tm g ⟨q12, hF, tot, hB2, hR1, hB1, hR3, hR4, hB3, hR8, hR2, hs⟩
   clear ds
   obtain ⟨ds, rfl⟩ := hF.open
   clear hF
   unfold F.notary_Missing.c3 at hs
   refine CP.cond (b := q12) (by kernel_rfl) (fun h15 => ?_) (fun h15 => ?_)
   ·replace hs := of_if_t hs h15
    refine CP.region ?_
    refine WP.stl 2 ?_
    refine WP.mkSl (kd := (Kd.int .i64)) (t := 22) (e := 3) (bytes := 8) (t + 10) [.int .i64 x1] [x1] (by kernel_rfl) (by kernel_rfl) (Nat.le_of_ble_eq_true rfl) (Nat.le_of_ble_eq_true rfl) (all_cons rfl all_nil) (⟨_, _, rfl, (by exact rfl), rfl⟩) rfl ?_
    intro g20 a16 st20 hR16
    replace hB2 := hB2.mono st20 (fun x => x)
    replace hR1 := hR1.mono st20 (fun x => x)
    replace hB1 := hB1.mono st20 (fun x => x)
    replace hR3 := hR3.mono st20 (fun x => x)
    replace hR4 := hR4.mono st20 (fun x => x)
    replace hB3 := hB3.mono st20 (fun x => x)
    replace hR8 := hR8.mono st20 (fun x => x) (fun x => x)
    replace hR2 := hR2.mono st20 (fun x => x)
    replace tot := tot.trans st20.pure
    by_cases hc12 : l6.length + ([x1]).length ≤ 17592186044416
    case neg => rw [if_neg hc12] at hs; cases hs
    replace hs := of_if_p hs hc12
    refine WP.append (kd := (Kd.int .i64)) (t := 22) (e := 3) (bytes := 8) (a2 := a16) (c2 := 1) hR8 hR16.src hR16.len (by kernel_rfl) (by kernel_rfl) (by omega) (by simp only [maxLen]; omega) (by omega) ?_
    intro g21 a17 c13 st21 hR17
    replace hB2 := hB2.mono st21 (WL.no1 (by omega))
    replace hR1 := hR1.mono st21 (WL.no1 (by omega))
    replace hB1 := hB1.mono st21 (WL.no1 (by omega))
    replace hR3 := hR3.mono st21 (WL.no1 (by omega))
    replace hR4 := hR4.mono st21 (WL.no1 (by omega))
    replace hB3 := hB3.mono st21 (WL.no1 (by omega))
    replace hR2 := hR2.mono st21 (WL.no1 (by omega))
    replace hR16 := hR16.mono st21 (WL.no1 (by omega)) (WL.no1 (by omega))
    replace tot := tot.trans (st21.up1 (.inr (by omega)))
    refine WP.stl 1 ?_
    refine WP.dn ?_
    refine NX.block_n ?_
    refine NX.post ?_
    exact ⟨(l6 ++ [x1]), a17, (n6 + 1), c13, ⟨by kernel_rfl, by kernel_rfl⟩, tot, hB2, hR1, hB1, hR3, hR4, hB3, hR17, hR2, hs⟩
   replace hs := of_if_f hs h15
   refine CP.skip ?_
   refine NX.block_n ?_
   refine NX.post ?_
   exact ⟨l6, a8, n6, c7, ⟨by kernel_rfl, by kernel_rfl⟩, tot, hB2, hR1, hB1, hR3, hR4, hB3, hR8, hR2, hs⟩
  clear tot hs hB2 hR1 hB1 hR3 hR4 hB3 hR8 hR2
  rintro tm g ⟨l9, a15, n9, c12, hF, tot, hB2, hR1, hB1, hR3, hR4, hB3, hR15, hR2, hs⟩
  clear ds
  obtain ⟨ds, rfl⟩ := hF.open
  clear hF
  unfold F.notary_Missing.c1 at hs
  refine CP.region ?_
  refine WP.stl 2 ?_
  refine WP.dn ?_
  refine NX.post ?_
  exact ⟨l9, a15, n9, c12, (IntKind.i64.wrap (x1 + 1)), ⟨by kernel_rfl, by kernel_rfl⟩, tot, hB2, hR1, hB1, hR3, hR4, hB3, hR15, hR2, hs⟩
 replace hs := of_if_f hs h9
 refine CP.exit ?_
 refine NX.then_e ?_
 refine NX.then_e ?_
 refine NX.block_s ?_
 refine NX.then_n ?_
 refine CP.seqR ?_
 refine WP.stl 2 ?_
 refine WP.dn ?_
 refine NX.then_n ?_
 refine CP.ret ?_
 obtain ⟨g23, hw1, st23, hnew⟩ := hR8.relab (by omega) r0
 refine NX.regw hw1 ?_
 replace tot := tot.trans (st23.up1 (.inr (by omega)))
 clear hR8
 have hR8 := hnew
 clear hnew
 replace hs := Option.some.inj hs
 obtain rfl := hs
 exact NX.fin (v := .slice a8 n6 c7) (Res.still (by kernel_rfl)) tot htL ⟨a8, n6, c7, rfl, hR8⟩
def F.notary_All.c1 (l1 : List S_notary_entry) (w1 : (List (S_notary_entry × Int))) (l2 : List (Arr Int 8)) (d1 : Arr Int 8) (l3 : List (List Int)) (l4 : List Bool) (q1 : Bool) : Option (Int) := (if q1 = true then (some 1) else ((F.notary_Missing l1 w1 l2 d1 l3 l4).bind fun l5 => (if decide ((l5.length : Int) > 0) = true then (some 16) else (some 0))))
def F.notary_All (l1 : List S_notary_entry) (w1 : (List (S_notary_entry × Int))) (l2 : List (Arr Int 8)) (d1 : Arr Int 8) (l3 : List (List Int)) (l4 : List Bool) : Option (Int) := (if ((l2.length : Int) == 0) = true then (F.notary_All.c1 l1 w1 l2 d1 l3 l4 true) else (F.notary_All.c1 l1 w1 l2 d1 l3 l4 ((l3.length : Int) != (l2.length : Int))))
theorem P.notary_All (g0 : GW) (m0 : Nat) (m1 : Nat) (l1 : List S_notary_entry) (w1 : (List (S_notary_entry × Int))) (l2 : List (Arr Int 8)) (d1 : Arr Int 8) (l3 : List (List Int)) (l4 : List Bool) (a1 : Option Addr) (n1 : Nat) (c1 : Nat) (a2 : Option Addr) (n2 : Nat) (c2 : Nat) (a3 : Option Addr) (n3 : Nat) (c3 : Nat) (a4 : Option Addr) (n4 : Nat) (c4 : Nat) (b1 : Nat) (b2 : Nat) (hR1 : RdS k_S_notary_entry g0 136 a1 n1 c1 l1) (hR2 : RdS (Kd.arrI 8 .u8) g0 47 a2 n2 c2 l2) (hR3 : RdS (Kd.slice 5 (Kd.int .u8)) g0 74 a3 n3 c3 l3) (hR4 : RdS Kd.bool g0 4 a4 n4 c4 l4) (hB1 : MapB g0 m1 b2 kv_S_notary_entry (Value.int .i64) w1) (hB2 : Box g0 m0 b1 91 [[.slice a1 n1 c1], [.map (some b2)]] [1, 1]) (hm1_0 : m1 ≠ m0) (hm0 : m0 ≠ 0) (hm1 : m1 ≠ 0) (o1 : Int) (hs : F.notary_All l1 w1 l2 d1 l3 l4 = some o1) :
  Calls Try.prog 37 #[.iface 50 (.pointer (some ⟨b1, 0, none⟩)), .slice a2 n2 c2, AG [encA .u8 d1], .slice a3 n3 c3, .slice a4 n4 c4] g0.w (Ret NoM g0 fun v g => v = .int .i64 o1) := by
 refine calls_of (args := [.iface 50 (.pointer (some ⟨b1, 0, none⟩)), .slice a2 n2 c2, AG [encA .u8 d1], .slice a3 n3 c3, .slice a4 n4 c4]) Try.func37 rfl (m0 + m1 + 0) ?_
 intro t ht htL
 refine ⟨_, rfl, ?_⟩
 refine CP.refr 31 [(0, .iface 50 (.pointer (some ⟨b1, 0, none⟩))), (1, .slice a2 n2 c2), (2, AG [encA .u8 d1]), (3, .slice a3 n3 c3), (4, .slice a4 n4 c4)] (by kernel_rfl) (by kernel_rfl) ?_
 intro ds
 have tot : Step (fun l => NoM l ∨ t ≤ l) g0 g0 := Step.refl _ _
 unfold F.notary_All at hs
 refine CP.seqR ?_
 refine WP.alloc (T := 47) (t + 1) [encA .u8 d1] [8] (by kernel_rfl) (by simp [len_encA]) ?_
 intro g1 b3 st1 hB3
 replace hB2 := hB2.mono st1 (fun x => x)
 replace hR1 := hR1.mono st1 (fun x => x)
 replace hB1 := hB1.mono st1 (fun x => x)
 replace hR2 := hR2.mono st1 (fun x => x)
 replace hR3 := hR3.mono st1 (fun x => x)
 replace hR4 := hR4.mono st1 (fun x => x)
 replace tot := tot.trans st1.pure
 refine WP.stl 1 ?_
 refine WP.dn ?_
 refine NX.then_n ?_
 refine CP.seq ?_
 refine CP.block ?_
 refine CP.cut (fun tm g => ∃ (q1 : Bool), Fr 31 [(0, .iface 50 (.pointer (some ⟨b1, 0, none⟩))), (1, .slice a2 n2 c2), (3, .slice a3 n3 c3), (4, .slice a4 n4 c4), (7, .pointer (some ⟨b3, 0, none⟩)), (11, .bool q1)] tm ∧ Step (fun l => NoM l ∨ t ≤ l) g0 g ∧ Box g m0 b1 91 [[.slice a1 n1 c1], [.map (some b2)]] [1, 1] ∧ RdS k_S_notary_entry g 136 a1 n1 c1 l1 ∧ MapB g m1 b2 kv_S_notary_entry (Value.int .i64) w1 ∧ RdS (Kd.arrI 8 .u8) g 47 a2 n2 c2 l2 ∧ RdS (Kd.slice 5 (Kd.int .u8)) g 74 a3 n3 c3 l3 ∧ RdS Kd.bool g 4 a4 n4 c4 l4 ∧ Box g (t + 1) b3 47 [encA .u8 d1] [8] ∧ (F.notary_All.c1 l1 w1 l2 d1 l3 l4 q1) = some o1) ?_ ?_
 ·refine CP.region ?_
  refine WP.stl 1 ?_
  refine WP.len (a := a2) (cp := c2) hR2.len (by kernel_rfl) ?_
  refine WP.stl 2 ?_
  refine WP.guard 15 (b := ((l2.length : Int) == 0)) (by kernel_rfl) (fun h4 => ?_) (fun h4 => ?_)
  ·replace hs := of_if_t hs h4
   refine WP.stl 7 ?_
   refine WP.dn ?_
   refine NX.post ?_
   exact ⟨true, ⟨by kernel_rfl, by kernel_rfl⟩, tot, hB2, hR1, hB1, hR2, hR3, hR4, hB3, hs⟩
  replace hs := of_if_f hs h4
  refine WP.stl 1 ?_
  refine WP.len (a := a3) (cp := c3) hR3.len (by kernel_rfl) ?_
  refine WP.stl 1 ?_
  refine WP.len (a := a2) (cp := c2) hR2.len (by kernel_rfl) ?_
  refine WP.stl 3 ?_
  refine WP.dn ?_
  refine NX.post ?_
  exact ⟨((l3.length : Int) != (l2.length : Int)), ⟨by kernel_rfl, by kernel_rfl⟩, tot, hB2, hR1, hB1, hR2, hR3, hR4, hB3, hs⟩
 clear tot hs hB2 hR1 hB1 hR2 hR3 hR4 hB3
 rintro tm g ⟨q1, hF, tot, hB2, hR1, hB1, hR2, hR3, hR4, hB3, hs⟩
 clear ds
 obtain ⟨ds, rfl⟩ := hF.open
 clear hF
 unfold F.notary_All.c1 at hs
 refine CP.cond (b := q1) (by kernel_rfl) (fun h2 => ?_) (fun h2 => ?_)
 ·replace hs := of_if_t hs h2
  refine CP.seqR ?_
  refine WP.stl 1 ?_
  refine WP.dn ?_
  refine NX.then_n ?_
  refine CP.ret ?_
  refine NX.block_r ?_
  refine NX.then_r ?_
  replace hs := Option.some.inj hs
  obtain rfl := hs
  exact NX.fin (v := .int .i64 1) (Res.still (by kernel_rfl)) tot htL rfl
 replace hs := of_if_f hs h2
 refine CP.seqR ?_
 refine WP.stl 2 ?_
 refine WP.loadB (v := AG [encA .u8 d1]) hB3 (by kernel_rfl) (by kernel_rfl) ?_
 refine WP.stl 2 ?_
 replace hs := Option.bind_eq_some_iff.1 hs
 obtain ⟨l5, hk1, hs⟩ := hs
 have hcal1 := P.notary_Missing g m0 m1 (t + 2) l1 w1 l2 d1 l3 l4 a1 n1 c1 a2 n2 c2 a3 n3 c3 a4 n4 c4 b1 b2 hR1 hR2 hR3 hR4 hB1 hB2 (by omega) (by omega) (by omega) l5 hk1
 refine WP.callC hcal1 (by kernel_rfl) ?_
 rintro _ g2 st2 ⟨a5, n5, c5, rfl, hR5⟩
 replace hB2 := hB2.mono st2 (fun x => x)
 replace hR1 := hR1.mono st2 (fun x => x)
 replace hB1 := hB1.mono st2 (fun x => x)
 replace hR2 := hR2.mono st2 (fun x => x)
 replace hR3 := hR3.mono st2 (fun x => x)
 replace hR4 := hR4.mono st2 (fun x => x)
 replace hB3 := hB3.mono st2 (fun x => x)
 replace tot := tot.trans st2.pure
 refine WP.len (a := a5) (cp := c5) hR5.len (by kernel_rfl) ?_
 refine WP.stl 2 ?_
 refine WP.dn ?_
 refine NX.then_n ?_
 refine CP.cond (b := decide ((l5.length : Int) > 0)) (by kernel_rfl) (fun h3 => ?_) (fun h3 => ?_)
 ·replace hs := of_if_t hs h3
  refine CP.seqR ?_
  refine WP.stl 1 ?_
  refine WP.dn ?_
  refine NX.then_n ?_
  refine CP.ret ?_
  refine NX.block_r ?_
  refine NX.then_r ?_
  replace hs := Option.some.inj hs
  obtain rfl := hs
  exact NX.fin (v := .int .i64 16) (Res.still (by kernel_rfl)) tot htL rfl
 replace hs := of_if_f hs h3
 refine CP.skip ?_
 refine NX.block_n ?_
 refine NX.then_n ?_
 refine CP.seqR ?_
 refine WP.stl 1 ?_
 refine WP.dn ?_
 refine NX.then_n ?_
 refine CP.ret ?_
 replace hs := Option.some.inj hs
 obtain rfl := hs
 exact NX.fin (v := .int .i64 0) (Res.still (by kernel_rfl)) tot htL rfl
end Go.Proofs.Ytahpmlekenbafaa
