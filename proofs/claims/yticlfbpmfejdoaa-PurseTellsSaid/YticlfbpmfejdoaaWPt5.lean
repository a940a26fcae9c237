/-
  Walks, written by program: each Go function computes the plain function of its name, in whatever world its arguments' facts hold.
-/
import Derived.Test.YticlfbpmfejdoaaWPt4
namespace Go.Proofs.Yticlfbpmfejdoaa
open Go.RowKit Go.Lab
attribute [local irreducible] WP CP NX wpList Code.wp Calls
set_option maxRecDepth 100000
set_option maxHeartbeats 4000000
set_option linter.unusedVariables false

def N.baizeref47_Decode_0 : List (List Nat) := [[], [0], [0, 1], [], [3], [3, 4], [], [6], [6, 7], [3, 4, 5, 6, 7, 8], [0, 1, 2], [0, 1, 2, 10], [0, 1, 2, 3, 4, 5, 6, 7, 8, 9, 10, 11], [0, 1, 2, 3, 4, 5, 6, 7, 8, 9, 10, 11, 12]]
def N.baizeref47_Decode_1 : List (List Nat) := [[], [0], [0, 1], [], [3], [3, 4], [], [6], [6, 7], [0, 1, 2], [0, 1, 2, 9], [0, 1, 2, 3, 4, 5, 9, 10], [0, 1, 2, 3, 4, 5, 9, 10, 11], [0, 1, 2, 3, 4, 5, 6, 7, 8, 9, 10, 11, 12], [0, 1, 2, 3, 4, 5, 6, 7, 8, 9, 10, 11, 12, 13]]
def F.baizeref47_Decode.c1 (nx1 : (List Int) → Int → Int → (List S_baizeref47_Held) → Int → Option ((Arr Int 8) × Int × (Arr Int 2) × (List S_baizeref47_Held) × Int)) (d1 : Arr Int 8) (x5 : Int) (x8 : Int) (x11 : Int) (l11 : List Int) (x28 : Int) (x29 : Int) (l12 : List S_baizeref47_Held) (x30 : Int) (q3 : Bool) : Option ((Arr Int 8) × Int × (Arr Int 2) × (List S_baizeref47_Held) × Int) := (if q3 = true then ((F.baizeref47_name l11 x28 x29).bind fun (l19, x47, x48, d4) => ((F.baizeref01_Read l19 x47 x48 1125899906842624).bind fun (l20, x49, x50, x51) => ((F.baizeref01_Read l20 x49 x50 1).bind fun (l21, x52, x53, x54) => ((F.baizeref01_Read l21 x52 x53 1099511627776).bind fun (l22, x55, x56, x57) => (if l12.length + ([(⟨d4, (IntKind.i64.wrap x51), (IntKind.i64.wrap x54), (IntKind.i64.wrap x57)⟩ : S_baizeref47_Held)]).length ≤ 4398046511104 then (nx1 l22 x55 x56 (l12 ++ [(⟨d4, (IntKind.i64.wrap x51), (IntKind.i64.wrap x54), (IntKind.i64.wrap x57)⟩ : S_baizeref47_Held)]) (IntKind.i64.wrap (x30 + 1))) else none))))) else ((F.baizeref01_End l11 x28 x29).bind fun x58 => (if (x58 != 0) = true then (some ((zA 8), 0, (zA 2), [], x58)) else ((F.baizeref47_Check d1 (IntKind.i64.wrap x5) (⟨[(IntKind.i64.wrap x8), (IntKind.i64.wrap x11)], rfl⟩ : Arr Int 2) l12).bind fun x59 => (if (x59 != 0) = true then (some ((zA 8), 0, (zA 2), [], x59)) else (some (d1, (IntKind.i64.wrap x5), (⟨[(IntKind.i64.wrap x8), (IntKind.i64.wrap x11)], rfl⟩ : Arr Int 2), l12, 0)))))))
def F.baizeref47_Decode.l1 (d1 : Arr Int 8) (x5 : Int) (x8 : Int) (x11 : Int) (x14 : Int) : Nat → (List Int) → Int → Int → (List S_baizeref47_Held) → Int → Option ((Arr Int 8) × Int × (Arr Int 2) × (List S_baizeref47_Held) × Int)
 | 0, _, _, _, _, _ => none
 | k + 1, l11, x28, x29, l12, x30 => (if decide (x30 < (IntKind.i64.wrap x14)) = true then (F.baizeref47_Decode.c1 (F.baizeref47_Decode.l1 d1 x5 x8 x11 x14 k) d1 x5 x8 x11 l11 x28 x29 l12 x30 (x29 == 0)) else (F.baizeref47_Decode.c1 (F.baizeref47_Decode.l1 d1 x5 x8 x11 x14 k) d1 x5 x8 x11 l11 x28 x29 l12 x30 false))
def F.baizeref47_Decode (l1 : List Int) : Option ((Arr Int 8) × Int × (Arr Int 2) × (List S_baizeref47_Held) × Int) := ((F.baizeref47_name l1 0 0).bind fun (l2, x1, x2, d1) => ((F.baizeref01_Read l2 x1 x2 1099511627776).bind fun (l3, x3, x4, x5) => ((F.baizeref01_Read l3 x3 x4 1125899906842624).bind fun (l4, x6, x7, x8) => ((F.baizeref01_Read l4 x6 x7 1125899906842624).bind fun (l5, x9, x10, x11) => ((F.baizeref01_Read l5 x9 x10 16).bind fun (l6, x12, x13, x14) => (F.baizeref47_Decode.l1 d1 x5 x8 x11 x14 fuel l6 x12 x13 ([]) 0))))))
theorem P.baizeref47_Decode (g0 : GW) (r0 : Nat) (l1 : List Int) (a1 : Option Addr) (n1 : Nat) (c1 : Nat) (hR1 : RdS (Kd.int .u8) g0 5 a1 n1 c1 l1) (o1 : Arr Int 8) (o2 : Int) (o3 : Arr Int 2) (o4 : List S_baizeref47_Held) (o5 : Int) (hs : F.baizeref47_Decode l1 = some (o1, o2, o3, o4, o5)) :
  Calls Try.prog 35 #[.slice a1 n1 c1] g0.w (Ret NoM g0 fun v g => ∃ (a_1 : Option Addr) (n_1 : Nat) (c_1 : Nat), v = .tuple #[AG [encA .u8 o1, [.int .i64 o2], encA .i64 o3, [.slice a_1 n_1 c_1]], .int .i64 o5] ∧ OwnS k_S_baizeref47_Held g r0 60 a_1 n_1 c_1 o4) := by
 refine calls_of (args := [.slice a1 n1 c1]) Try.func35 rfl (r0 + 0) ?_
 intro t ht htL
 refine ⟨_, rfl, ?_⟩
 refine CP.refr 123 [(0, .slice a1 n1 c1)] (by kernel_rfl) (by kernel_rfl) ?_
 intro ds
 have tot : Step (fun l => NoM l ∨ t ≤ l) g0 g0 := Step.refl _ _
 unfold F.baizeref47_Decode at hs
 refine CP.seqR ?_
 refine WP.alloc (T := 26) (t + 1) [encA .u8 (zA 8), [.int .i64 0], encA .i64 (zA 2), [.slice none 0 0]] [8, 1, 2, 1] (by kernel_rfl) (by simp [len_encA]) ?_
 intro g1 b1 st1 hB1
 replace hR1 := hR1.mono st1 (fun x => x)
 replace tot := tot.trans st1.pure
 refine WP.stl 1 ?_
 refine WP.dn ?_
 refine NX.then_n ?_
 refine CP.seqR ?_
 refine WP.stl 2 ?_
 refine WP.alloc (T := 115) (t + 2) [[.slice none 0 0], [.int .i64 0], [.int .i64 0]] [1, 1, 1] (by kernel_rfl) rfl ?_
 intro g2 b2 st2 hB2
 replace hR1 := hR1.mono st2 (fun x => x)
 replace hB1 := hB1.mono st2 (fun x => x)
 replace tot := tot.trans st2.pure
 refine WP.storeB (ty := 115) (off := 0) (v := AG [[.slice a1 n1 c1], [.int .i64 0], [.int .i64 0]]) hB2 [[.slice a1 n1 c1], [.int .i64 0], [.int .i64 0]] [1, 1, 1] (by kernel_rfl) (by kernel_rfl) rfl (by kernel_rfl) [[.slice a1 n1 c1], [.int .i64 0], [.int .i64 0]] (by kernel_rfl) (.one rfl (.one rfl (.one rfl .nil))) ?_
 intro g3 st3 hB3
 replace hR1 := hR1.mono st3 (WL.no1 (by omega))
 replace hB1 := hB1.mono st3 (WL.no1 (by omega))
 replace tot := tot.trans (st3.up1 (.inr (by omega)))
 clear hB2
 have hB2 := hB3
 clear hB3
 refine WP.dn ?_
 refine NX.then_n ?_
 refine CP.seqR ?_
 refine WP.alloc (T := 26) (t + 3) [encA .u8 (zA 8), [.int .i64 0], encA .i64 (zA 2), [.slice none 0 0]] [8, 1, 2, 1] (by kernel_rfl) (by simp [len_encA]) ?_
 intro g4 b3 st4 hB4
 replace hB1 := hB1.mono st4 (fun x => x)
 replace hB2 := hB2.mono st4 (fun x => x)
 replace hR1 := hR1.mono st4 (fun x => x)
 replace tot := tot.trans st4.pure
 refine WP.dn ?_
 refine NX.then_n ?_
 refine CP.seqR ?_
 refine WP.alloc (T := 117) (t + 4) [[.int .u64 0], [.int .u64 0], [.int .u64 0], [.int .u64 0]] [1, 1, 1, 1] (by kernel_rfl) rfl ?_
 intro g5 b4 st5 hB5
 replace hB1 := hB1.mono st5 (fun x => x)
 replace hB2 := hB2.mono st5 (fun x => x)
 replace hR1 := hR1.mono st5 (fun x => x)
 replace hB4 := hB4.mono st5 (fun x => x)
 replace tot := tot.trans st5.pure
 refine WP.dn ?_
 refine NX.then_n ?_
 refine CP.seqR ?_
 refine WP.loadB (v := AG [[.slice a1 n1 c1], [.int .i64 0], [.int .i64 0]]) hB2 (by kernel_rfl) (by kernel_rfl) ?_
 replace hs := Option.bind_eq_some_iff.1 hs
 obtain ⟨⟨l2, x1, x2, d1⟩, hk1, hs⟩ := hs
 dsimp only at hs
 have hcal1 := P.baizeref47_name g5 l1 0 0 a1 n1 c1 hR1 l2 x1 x2 d1 hk1
 refine WP.callC hcal1 (by kernel_rfl) ?_
 rintro _ g6 st6 ⟨a2, n2, c2, rfl, hR2⟩
 replace hB1 := hB1.mono st6 (fun x => x)
 replace hB2 := hB2.mono st6 (fun x => x)
 replace hR1 := hR1.mono st6 (fun x => x)
 replace hB4 := hB4.mono st6 (fun x => x)
 replace hB5 := hB5.mono st6 (fun x => x)
 replace tot := tot.trans st6.pure
 refine WP.stl 3 ?_
 refine WP.storeB (ty := 115) (off := 0) (v := AG [[.slice a2 n2 c2], [.int .i64 x1], [.int .i64 x2]]) hB2 [[.slice a2 n2 c2], [.int .i64 x1], [.int .i64 x2]] [1, 1, 1] (by kernel_rfl) (by kernel_rfl) rfl (by kernel_rfl) [[.slice a2 n2 c2], [.int .i64 x1], [.int .i64 x2]] (by kernel_rfl) (.one rfl (.one rfl (.one rfl .nil))) ?_
 intro g7 st7 hB6
 replace hB1 := hB1.mono st7 (WL.no1 (by omega))
 replace hR2 := hR2.mono st7 (WL.no1 (by omega))
 replace hB4 := hB4.mono st7 (WL.no1 (by omega))
 replace hB5 := hB5.mono st7 (WL.no1 (by omega))
 replace hR1 := hR1.mono st7 (WL.no1 (by omega))
 replace tot := tot.trans (st7.up1 (.inr (by omega)))
 clear hB2
 have hB2 := hB6
 clear hB6
 refine WP.stl 1 ?_
 refine WP.storeB (ty := 22) (off := 0) (v := AG [encA .u8 d1]) hB4 [encA .u8 d1] [8] (by kernel_rfl) (by kernel_rfl) (by simp [len_encA]) (by kernel_rfl) [encA .u8 d1, [.int .i64 0], encA .i64 (zA 2), [.slice none 0 0]] (by kernel_rfl) (.arr .nil) ?_
 intro g8 st8 hB7
 replace hB1 := hB1.mono st8 (WL.no1 (by omega))
 replace hB2 := hB2.mono st8 (WL.no1 (by omega))
 replace hR2 := hR2.mono st8 (WL.no1 (by omega))
 replace hB5 := hB5.mono st8 (WL.no1 (by omega))
 replace hR1 := hR1.mono st8 (WL.no1 (by omega))
 replace tot := tot.trans (st8.up1 (.inr (by omega)))
 clear hB4
 have hB4 := hB7
 clear hB7
 refine WP.dn ?_
 refine NX.then_n ?_
 refine CP.refr 123 [(2, .pointer (some ⟨b1, 0, none⟩)), (4, .pointer (some ⟨b2, 0, none⟩)), (5, .pointer (some ⟨b3, 0, none⟩)), (6, .pointer (some ⟨b4, 0, none⟩))] (by kernel_rfl) (by kernel_rfl) ?_
 clear ds
 intro ds
 refine CP.seqR ?_
 refine WP.loadB (v := AG [[.slice a2 n2 c2], [.int .i64 x1], [.int .i64 x2]]) hB2 (by kernel_rfl) (by kernel_rfl) ?_
 replace hs := Option.bind_eq_some_iff.1 hs
 obtain ⟨⟨l3, x3, x4, x5⟩, hk2, hs⟩ := hs
 dsimp only at hs
 have hcal2 := P.baizeref01_Read g8 l2 x1 x2 1099511627776 a2 n2 c2 hR2 l3 x3 x4 x5 hk2
 refine WP.callC hcal2 (by kernel_rfl) ?_
 rintro _ g9 st9 ⟨a3, n3, c3, rfl, hR3⟩
 replace hB1 := hB1.mono st9 (fun x => x)
 replace hB2 := hB2.mono st9 (fun x => x)
 replace hR2 := hR2.mono st9 (fun x => x)
 replace hB4 := hB4.mono st9 (fun x => x)
 replace hB5 := hB5.mono st9 (fun x => x)
 replace tot := tot.trans st9.pure
 refine WP.stl 3 ?_
 refine WP.storeB (ty := 115) (off := 0) (v := AG [[.slice a3 n3 c3], [.int .i64 x3], [.int .i64 x4]]) hB2 [[.slice a3 n3 c3], [.int .i64 x3], [.int .i64 x4]] [1, 1, 1] (by kernel_rfl) (by kernel_rfl) rfl (by kernel_rfl) [[.slice a3 n3 c3], [.int .i64 x3], [.int .i64 x4]] (by kernel_rfl) (.one rfl (.one rfl (.one rfl .nil))) ?_
 intro g10 st10 hB8
 replace hB1 := hB1.mono st10 (WL.no1 (by omega))
 replace hR3 := hR3.mono st10 (WL.no1 (by omega))
 replace hB4 := hB4.mono st10 (WL.no1 (by omega))
 replace hB5 := hB5.mono st10 (WL.no1 (by omega))
 replace hR2 := hR2.mono st10 (WL.no1 (by omega))
 replace tot := tot.trans (st10.up1 (.inr (by omega)))
 clear hB2
 have hB2 := hB8
 clear hB8
 refine WP.stl 1 ?_
 refine WP.storeB (ty := 116) (off := 0) (v := .int .u64 x5) hB5 [[.int .u64 x5]] [1] (by kernel_rfl) (by kernel_rfl) rfl (by kernel_rfl) [[.int .u64 x5], [.int .u64 0], [.int .u64 0], [.int .u64 0]] (by kernel_rfl) (.one rfl .nil) ?_
 intro g11 st11 hB9
 replace hB1 := hB1.mono st11 (WL.no1 (by omega))
 replace hB2 := hB2.mono st11 (WL.no1 (by omega))
 replace hR3 := hR3.mono st11 (WL.no1 (by omega))
 replace hB4 := hB4.mono st11 (WL.no1 (by omega))
 replace hR2 := hR2.mono st11 (WL.no1 (by omega))
 replace tot := tot.trans (st11.up1 (.inr (by omega)))
 clear hB5
 have hB5 := hB9
 clear hB9
 refine WP.dn ?_
 refine NX.then_n ?_
 refine CP.seqR ?_
 refine WP.loadB (v := AG [[.slice a3 n3 c3], [.int .i64 x3], [.int .i64 x4]]) hB2 (by kernel_rfl) (by kernel_rfl) ?_
 replace hs := Option.bind_eq_some_iff.1 hs
 obtain ⟨⟨l4, x6, x7, x8⟩, hk3, hs⟩ := hs
 dsimp only at hs
 have hcal3 := P.baizeref01_Read g11 l3 x3 x4 1125899906842624 a3 n3 c3 hR3 l4 x6 x7 x8 hk3
 refine WP.callC hcal3 (by kernel_rfl) ?_
 rintro _ g12 st12 ⟨a4, n4, c4, rfl, hR4⟩
 replace hB1 := hB1.mono st12 (fun x => x)
 replace hB2 := hB2.mono st12 (fun x => x)
 replace hR3 := hR3.mono st12 (fun x => x)
 replace hB4 := hB4.mono st12 (fun x => x)
 replace hB5 := hB5.mono st12 (fun x => x)
 replace tot := tot.trans st12.pure
 refine WP.stl 3 ?_
 refine WP.storeB (ty := 115) (off := 0) (v := AG [[.slice a4 n4 c4], [.int .i64 x6], [.int .i64 x7]]) hB2 [[.slice a4 n4 c4], [.int .i64 x6], [.int .i64 x7]] [1, 1, 1] (by kernel_rfl) (by kernel_rfl) rfl (by kernel_rfl) [[.slice a4 n4 c4], [.int .i64 x6], [.int .i64 x7]] (by kernel_rfl) (.one rfl (.one rfl (.one rfl .nil))) ?_
 intro g13 st13 hB10
 replace hB1 := hB1.mono st13 (WL.no1 (by omega))
 replace hR4 := hR4.mono st13 (WL.no1 (by omega))
 replace hB4 := hB4.mono st13 (WL.no1 (by omega))
 replace hB5 := hB5.mono st13 (WL.no1 (by omega))
 replace hR3 := hR3.mono st13 (WL.no1 (by omega))
 replace tot := tot.trans (st13.up1 (.inr (by omega)))
 clear hB2
 have hB2 := hB10
 clear hB10
 refine WP.stl 1 ?_
 refine WP.storeB (ty := 116) (off := 1) (v := .int .u64 x8) hB5 [[.int .u64 x8]] [1] (by kernel_rfl) (by kernel_rfl) rfl (by kernel_rfl) [[.int .u64 x5], [.int .u64 x8], [.int .u64 0], [.int .u64 0]] (by kernel_rfl) (.one rfl .nil) ?_
 intro g14 st14 hB11
 replace hB1 := hB1.mono st14 (WL.no1 (by omega))
 replace hB2 := hB2.mono st14 (WL.no1 (by omega))
 replace hR4 := hR4.mono st14 (WL.no1 (by omega))
 replace hB4 := hB4.mono st14 (WL.no1 (by omega))
 replace hR3 := hR3.mono st14 (WL.no1 (by omega))
 replace tot := tot.trans (st14.up1 (.inr (by omega)))
 clear hB5
 have hB5 := hB11
 clear hB11
 refine WP.dn ?_
 refine NX.then_n ?_
 refine CP.refr 123 [(2, .pointer (some ⟨b1, 0, none⟩)), (4, .pointer (some ⟨b2, 0, none⟩)), (5, .pointer (some ⟨b3, 0, none⟩)), (6, .pointer (some ⟨b4, 0, none⟩))] (by kernel_rfl) (by kernel_rfl) ?_
 clear ds
 intro ds
 refine CP.seqR ?_
 refine WP.loadB (v := AG [[.slice a4 n4 c4], [.int .i64 x6], [.int .i64 x7]]) hB2 (by kernel_rfl) (by kernel_rfl) ?_
 replace hs := Option.bind_eq_some_iff.1 hs
 obtain ⟨⟨l5, x9, x10, x11⟩, hk4, hs⟩ := hs
 dsimp only at hs
 have hcal4 := P.baizeref01_Read g14 l4 x6 x7 1125899906842624 a4 n4 c4 hR4 l5 x9 x10 x11 hk4
 refine WP.callC hcal4 (by kernel_rfl) ?_
 rintro _ g15 st15 ⟨a5, n5, c5, rfl, hR5⟩
 replace hB1 := hB1.mono st15 (fun x => x)
 replace hB2 := hB2.mono st15 (fun x => x)
 replace hR4 := hR4.mono st15 (fun x => x)
 replace hB4 := hB4.mono st15 (fun x => x)
 replace hB5 := hB5.mono st15 (fun x => x)
 replace tot := tot.trans st15.pure
 refine WP.stl 3 ?_
 refine WP.storeB (ty := 115) (off := 0) (v := AG [[.slice a5 n5 c5], [.int .i64 x9], [.int .i64 x10]]) hB2 [[.slice a5 n5 c5], [.int .i64 x9], [.int .i64 x10]] [1, 1, 1] (by kernel_rfl) (by kernel_rfl) rfl (by kernel_rfl) [[.slice a5 n5 c5], [.int .i64 x9], [.int .i64 x10]] (by kernel_rfl) (.one rfl (.one rfl (.one rfl .nil))) ?_
 intro g16 st16 hB12
 replace hB1 := hB1.mono st16 (WL.no1 (by omega))
 replace hR5 := hR5.mono st16 (WL.no1 (by omega))
 replace hB4 := hB4.mono st16 (WL.no1 (by omega))
 replace hB5 := hB5.mono st16 (WL.no1 (by omega))
 replace hR4 := hR4.mono st16 (WL.no1 (by omega))
 replace tot := tot.trans (st16.up1 (.inr (by omega)))
 clear hB2
 have hB2 := hB12
 clear hB12
 refine WP.stl 1 ?_
 refine WP.storeB (ty := 116) (off := 2) (v := .int .u64 x11) hB5 [[.int .u64 x11]] [1] (by kernel_rfl) (by kernel_rfl) rfl (by kernel_rfl) [[.int .u64 x5], [.int .u64 x8], [.int .u64 x11], [.int .u64 0]] (by kernel_rfl) (.one rfl .nil) ?_
 intro g17 st17 hB13
 replace hB1 := hB1.mono st17 (WL.no1 (by omega))
 replace hB2 := hB2.mono st17 (WL.no1 (by omega))
 replace hR5 := hR5.mono st17 (WL.no1 (by omega))
 replace hB4 := hB4.mono st17 (WL.no1 (by omega))
 replace hR4 := hR4.mono st17 (WL.no1 (by omega))
 replace tot := tot.trans (st17.up1 (.inr (by omega)))
 clear hB5
 have hB5 := hB13
 clear hB13
 refine WP.dn ?_
 refine NX.then_n ?_
 refine CP.seqR ?_
 refine WP.loadB (v := AG [[.slice a5 n5 c5], [.int .i64 x9], [.int .i64 x10]]) hB2 (by kernel_rfl) (by kernel_rfl) ?_
 replace hs := Option.bind_eq_some_iff.1 hs
 obtain ⟨⟨l6, x12, x13, x14⟩, hk5, hs⟩ := hs
 dsimp only at hs
 have hcal5 := P.baizeref01_Read g17 l5 x9 x10 16 a5 n5 c5 hR5 l6 x12 x13 x14 hk5
 refine WP.callC hcal5 (by kernel_rfl) ?_
 rintro _ g18 st18 ⟨a6, n6, c6, rfl, hR6⟩
 replace hB1 := hB1.mono st18 (fun x => x)
 replace hB2 := hB2.mono st18 (fun x => x)
 replace hR5 := hR5.mono st18 (fun x => x)
 replace hB4 := hB4.mono st18 (fun x => x)
 replace hB5 := hB5.mono st18 (fun x => x)
 replace tot := tot.trans st18.pure
 refine WP.stl 3 ?_
 refine WP.storeB (ty := 115) (off := 0) (v := AG [[.slice a6 n6 c6], [.int .i64 x12], [.int .i64 x13]]) hB2 [[.slice a6 n6 c6], [.int .i64 x12], [.int .i64 x13]] [1, 1, 1] (by kernel_rfl) (by kernel_rfl) rfl (by kernel_rfl) [[.slice a6 n6 c6], [.int .i64 x12], [.int .i64 x13]] (by kernel_rfl) (.one rfl (.one rfl (.one rfl .nil))) ?_
 intro g19 st19 hB14
 replace hB1 := hB1.mono st19 (WL.no1 (by omega))
 replace hR6 := hR6.mono st19 (WL.no1 (by omega))
 replace hB4 := hB4.mono st19 (WL.no1 (by omega))
 replace hB5 := hB5.mono st19 (WL.no1 (by omega))
 replace hR5 := hR5.mono st19 (WL.no1 (by omega))
 replace tot := tot.trans (st19.up1 (.inr (by omega)))
 clear hB2
 have hB2 := hB14
 clear hB14
 refine WP.stl 1 ?_
 refine WP.storeB (ty := 116) (off := 3) (v := .int .u64 x14) hB5 [[.int .u64 x14]] [1] (by kernel_rfl) (by kernel_rfl) rfl (by kernel_rfl) [[.int .u64 x5], [.int .u64 x8], [.int .u64 x11], [.int .u64 x14]] (by kernel_rfl) (.one rfl .nil) ?_
 intro g20 st20 hB15
 replace hB1 := hB1.mono st20 (WL.no1 (by omega))
 replace hB2 := hB2.mono st20 (WL.no1 (by omega))
 replace hR6 := hR6.mono st20 (WL.no1 (by omega))
 replace hB4 := hB4.mono st20 (WL.no1 (by omega))
 replace hR5 := hR5.mono st20 (WL.no1 (by omega))
 replace tot := tot.trans (st20.up1 (.inr (by omega)))
 clear hB5
 have hB5 := hB15
 clear hB15
 refine WP.dn ?_
 refine NX.then_n ?_
 refine CP.refr 123 [(2, .pointer (some ⟨b1, 0, none⟩)), (4, .pointer (some ⟨b2, 0, none⟩)), (5, .pointer (some ⟨b3, 0, none⟩)), (6, .pointer (some ⟨b4, 0, none⟩))] (by kernel_rfl) (by kernel_rfl) ?_
 clear ds
 intro ds
 refine CP.seq ?_
 refine CP.drawL (by kernel_rfl) [1, 4, 7, 11, 13] N.baizeref47_Decode_0 [⟨none, [0], [], fun l g => Box g (t + 3) b3 26 [encA .u8 d1, [.int .i64 0], encA .i64 (zA 2), [.slice none 0 0]] [8, 1, 2, 1]⟩, ⟨none, [], [], fun l g => Box g (t + 4) b4 117 [[.int .u64 x5], [.int .u64 x8], [.int .u64 x11], [.int .u64 x14]] [1, 1, 1, 1]⟩, ⟨some 0, [], [0], fun l g => l.getD 0 undef = .int .u64 x5⟩, ⟨some 1, [], [1], fun l g => l.getD 0 undef = .int .u64 x8⟩, ⟨some 2, [], [2], fun l g => l.getD 0 undef = .int .u64 x11⟩, ⟨some 3, [0], [], fun l g => Box g (t + 3) b3 26 [encA .u8 d1, [.int .i64 (IntKind.i64.wrap x5)], encA .i64 (zA 2), [.slice none 0 0]] [8, 1, 2, 1]⟩, ⟨some 4, [0], [], fun l g => Box g (t + 3) b3 26 [encA .u8 d1, [.int .i64 (IntKind.i64.wrap x5)], encA .i64 (⟨[(IntKind.i64.wrap x8), (IntKind.i64.wrap x11)], rfl⟩ : Arr Int 2), [.slice none 0 0]] [8, 1, 2, 1]⟩] [[], [], [], [0], [0]] [(t + 3)] [0, 3, 6, 10, 12] [2, 5, 8, 9] (by kernel_rfl) (by simp <;> omega) (by simp) ⟨fun _ _ _ _ st h0 hl hj hB4 => (hB4.mono st (hj 0 (by simp) _ rfl)), fun _ _ _ _ st h0 hl hj hB5 => (hB5.mono st (fun h => absurd (hl _ h) (by simp <;> omega))), fun _ _ _ _ st h0 hl hj e0 => e0, fun _ _ _ _ st h0 hl hj e1 => e1, fun _ _ _ _ st h0 hl hj e2 => e2, fun _ _ _ _ st h0 hl hj hB4 => (hB4.mono st (hj 0 (by simp) _ rfl)), fun _ _ _ _ st h0 hl hj hB4 => (hB4.mono st (hj 0 (by simp) _ rfl)), tv⟩ ⟨hB4, hB5, tv, tv, tv, tv, tv, tv⟩ (by kernel_rfl) (fun vs => by kernel_rfl) ?_ ?_ ?_
 ·intro j hj
  have hq : j = 0 ∨ j = 1 ∨ j = 2 ∨ j = 3 := by have h : j < 4 := hj; omega
  rcases hq with rfl | rfl | rfl | rfl
  ·intro vs gq stq hl hf
   obtain ⟨v0, v1, v2, v3, v4, rfl⟩ := len_k5 hl
   have e0 := (show v0 = .int .u64 x5 from hf _ (memI 2 rfl) (by kernel_rfl))
   subst e0
   show Option.isSome _ = true
   kernel_rfl
  ·intro vs gq stq hl hf
   obtain ⟨v0, v1, v2, v3, v4, rfl⟩ := len_k5 hl
   have e1 := (show v1 = .int .u64 x8 from hf _ (memI 3 rfl) (by kernel_rfl))
   subst e1
   show Option.isSome _ = true
   kernel_rfl
  ·intro vs gq stq hl hf
   obtain ⟨v0, v1, v2, v3, v4, rfl⟩ := len_k5 hl
   have e2 := (show v2 = .int .u64 x11 from hf _ (memI 4 rfl) (by kernel_rfl))
   subst e2
   show Option.isSome _ = true
   kernel_rfl
  ·intro vs gq stq hl hf
   obtain ⟨v0, v1, v2, v3, v4, rfl⟩ := len_k5 hl
   have e1 := (show v1 = .int .u64 x8 from hf _ (memI 3 rfl) (by kernel_rfl))
   subst e1
   have e2 := (show v2 = .int .u64 x11 from hf _ (memI 4 rfl) (by kernel_rfl))
   subst e2
   show Option.isSome _ = true
   kernel_rfl
 ·intro j hj
  have hq : j = 0 ∨ j = 1 ∨ j = 2 ∨ j = 3 ∨ j = 4 := by have h : j < 5 := hj; omega
  rcases hq with rfl | rfl | rfl | rfl | rfl
  ·intro vs gq stq hl hf
   obtain ⟨v0, v1, v2, v3, v4, rfl⟩ := len_k5 hl
   have hB5 := (show Box gq (t + 4) b4 117 [[.int .u64 x5], [.int .u64 x8], [.int .u64 x11], [.int .u64 x14]] [1, 1, 1, 1] from hf _ (memI 1 rfl) (by kernel_rfl))
   refine WP.loadB (v := .int .u64 x5) hB5 (by kernel_rfl) (by kernel_rfl) ?_
   refine WP.dn (Shown.ok (v := .int .u64 x5) (by kernel_rfl) (Step.refl _ _) ?_)
   exact ⟨tv, tv, rfl, tv, tv, tv, tv, tv⟩
  ·intro vs gq stq hl hf
   obtain ⟨v0, v1, v2, v3, v4, rfl⟩ := len_k5 hl
   have hB5 := (show Box gq (t + 4) b4 117 [[.int .u64 x5], [.int .u64 x8], [.int .u64 x11], [.int .u64 x14]] [1, 1, 1, 1] from hf _ (memI 1 rfl) (by kernel_rfl))
   refine WP.loadB (v := .int .u64 x8) hB5 (by kernel_rfl) (by kernel_rfl) ?_
   refine WP.dn (Shown.ok (v := .int .u64 x8) (by kernel_rfl) (Step.refl _ _) ?_)
   exact ⟨tv, tv, tv, rfl, tv, tv, tv, tv⟩
  ·intro vs gq stq hl hf
   obtain ⟨v0, v1, v2, v3, v4, rfl⟩ := len_k5 hl
   have hB5 := (show Box gq (t + 4) b4 117 [[.int .u64 x5], [.int .u64 x8], [.int .u64 x11], [.int .u64 x14]] [1, 1, 1, 1] from hf _ (memI 1 rfl) (by kernel_rfl))
   refine WP.loadB (v := .int .u64 x11) hB5 (by kernel_rfl) (by kernel_rfl) ?_
   refine WP.dn (Shown.ok (v := .int .u64 x11) (by kernel_rfl) (Step.refl _ _) ?_)
   exact ⟨tv, tv, tv, tv, rfl, tv, tv, tv⟩
  ·intro vs gq stq hl hf
   obtain ⟨v0, v1, v2, v3, v4, rfl⟩ := len_k5 hl
   have hB4 := (show Box gq (t + 3) b3 26 [encA .u8 d1, [.int .i64 0], encA .i64 (zA 2), [.slice none 0 0]] [8, 1, 2, 1] from hf _ (memI 0 rfl) (by kernel_rfl))
   have e0 := (show v0 = .int .u64 x5 from hf _ (memI 2 rfl) (by kernel_rfl))
   subst e0
   refine WP.storeB (ty := 3) (off := 8) (v := .int .i64 (IntKind.i64.wrap x5)) hB4 [[.int .i64 (IntKind.i64.wrap x5)]] [1] (by kernel_rfl) (by kernel_rfl) rfl (by kernel_rfl) [encA .u8 d1, [.int .i64 (IntKind.i64.wrap x5)], encA .i64 (zA 2), [.slice none 0 0]] (by kernel_rfl) (.one rfl .nil) ?_
   intro g21 st21 hB16
   refine WP.dn (Shown.o (v := undef) st21 ?_)
   exact ⟨tv, tv, tv, tv, tv, hB16, tv, tv⟩
  ·intro vs gq stq hl hf
   obtain ⟨v0, v1, v2, v3, v4, rfl⟩ := len_k5 hl
   have e1 := (show v1 = .int .u64 x8 from hf _ (memI 3 rfl) (by kernel_rfl))
   subst e1
   have e2 := (show v2 = .int .u64 x11 from hf _ (memI 4 rfl) (by kernel_rfl))
   subst e2
   have hB4 := (show Box gq (t + 3) b3 26 [encA .u8 d1, [.int .i64 (IntKind.i64.wrap x5)], encA .i64 (zA 2), [.slice none 0 0]] [8, 1, 2, 1] from hf _ (memI 5 rfl) (by kernel_rfl))
   refine WP.storeB (ty := 23) (off := 9) (v := AG [encA .i64 (⟨[(IntKind.i64.wrap x8), (IntKind.i64.wrap x11)], rfl⟩ : Arr Int 2)]) hB4 [encA .i64 (⟨[(IntKind.i64.wrap x8), (IntKind.i64.wrap x11)], rfl⟩ : Arr Int 2)] [2] (by kernel_rfl) (by kernel_rfl) (by simp [len_encA]) (by kernel_rfl) [encA .u8 d1, [.int .i64 (IntKind.i64.wrap x5)], encA .i64 (⟨[(IntKind.i64.wrap x8), (IntKind.i64.wrap x11)], rfl⟩ : Arr Int 2), [.slice none 0 0]] (by kernel_rfl) (.arr .nil) ?_
   intro g22 st22 hB17
   refine WP.dn (Shown.o (v := undef) st22 ?_)
   exact ⟨tv, tv, tv, tv, tv, tv, hB17, tv⟩
 intro vs g23 st23 hl hf
 obtain ⟨v0, v1, v2, v3, v4, rfl⟩ := len_k5 hl
 have hB4 := (show Box g23 (t + 3) b3 26 [encA .u8 d1, [.int .i64 (IntKind.i64.wrap x5)], encA .i64 (⟨[(IntKind.i64.wrap x8), (IntKind.i64.wrap x11)], rfl⟩ : Arr Int 2), [.slice none 0 0]] [8, 1, 2, 1] from hf _ (memI 6 rfl) (by kernel_rfl))
 replace hB1 := hB1.mono st23 (WL.no1 (by omega))
 replace hB2 := hB2.mono st23 (WL.no1 (by omega))
 replace hR6 := hR6.mono st23 (WL.no1 (by omega))
 replace hB5 := hB5.mono st23 (WL.no1 (by omega))
 replace tot := tot.trans (st23.up1 (.inr (by omega)))
 refine NX.then_n ?_
 refine CP.refr 123 [(2, .pointer (some ⟨b1, 0, none⟩)), (4, .pointer (some ⟨b2, 0, none⟩)), (5, .pointer (some ⟨b3, 0, none⟩)), (6, .pointer (some ⟨b4, 0, none⟩))] (by kernel_rfl) (by kernel_rfl) ?_
 clear ds
 intro ds
 refine CP.seq ?_
 refine CP.seqR ?_
 refine WP.stl 1 ?_
 refine WP.dn ?_
 refine NX.then_n ?_
 refine CP.block ?_
 generalize fuel = k1 at hs
 refine CP.loop (fun k1 tm g => ∃ (l11 : List Int) (a13 : Option Addr) (n11 : Nat) (c12 : Nat) (x28 : Int) (x29 : Int) (l12 : List S_baizeref47_Held) (a14 : Option Addr) (n12 : Nat) (c13 : Nat) (x30 : Int), Fr 123 [(2, .pointer (some ⟨b1, 0, none⟩)), (4, .pointer (some ⟨b2, 0, none⟩)), (5, .pointer (some ⟨b3, 0, none⟩)), (6, .pointer (some ⟨b4, 0, none⟩)), (7, .int .i64 x30)] tm ∧ Step (fun l => NoM l ∨ t ≤ l) g0 g ∧ Box g (t + 1) b1 26 [encA .u8 (zA 8), [.int .i64 0], encA .i64 (zA 2), [.slice none 0 0]] [8, 1, 2, 1] ∧ Box g (t + 2) b2 115 [[.slice a13 n11 c12], [.int .i64 x28], [.int .i64 x29]] [1, 1, 1] ∧ RdS (Kd.int .u8) g 5 a13 n11 c12 l11 ∧ Box g (t + 3) b3 26 [encA .u8 d1, [.int .i64 (IntKind.i64.wrap x5)], encA .i64 (⟨[(IntKind.i64.wrap x8), (IntKind.i64.wrap x11)], rfl⟩ : Arr Int 2), [.slice a14 n12 c13]] [8, 1, 2, 1] ∧ OwnS k_S_baizeref47_Held g (t + 8) 60 a14 n12 c13 l12 ∧ Box g (t + 4) b4 117 [[.int .u64 x5], [.int .u64 x8], [.int .u64 x11], [.int .u64 x14]] [1, 1, 1, 1] ∧ F.baizeref47_Decode.l1 d1 x5 x8 x11 x14 k1 l11 x28 x29 l12 x30 = some (o1, o2, o3, o4, o5)) k1 ?_ ?_ ?_
 ·exact ⟨l6, a6, n6, c6, x12, x13, [], none, 0, 0, 0, ⟨by kernel_rfl, by kernel_rfl⟩, tot, hB1, hB2, hR6, hB4, (OwnS.nil _ _ _ _), hB5, hs⟩
 ·rintro tm g ⟨l11, a13, n11, c12, x28, x29, l12, a14, n12, c13, x30, hF, tot, hB1, hB2, hR13, hB4, hR14, hB5, hs⟩
  exact absurd hs (by simp [F.baizeref47_Decode.l1])
 clear tot hs hB1 hB2 hR6 hB4 hB5
 rintro k1 tm g ⟨l11, a13, n11, c12, x28, x29, l12, a14, n12, c13, x30, hF, tot, hB1, hB2, hR13, hB4, hR14, hB5, hs⟩
 clear ds
 obtain ⟨ds, rfl⟩ := hF.open
 clear hF
 unfold F.baizeref47_Decode.l1 at hs
 refine CP.seq ?_
 refine CP.cut (fun tm g => ∃ (q3 : Bool), Fr 123 [(2, .pointer (some ⟨b1, 0, none⟩)), (4, .pointer (some ⟨b2, 0, none⟩)), (5, .pointer (some ⟨b3, 0, none⟩)), (6, .pointer (some ⟨b4, 0, none⟩)), (7, .int .i64 x30), (65, .bool q3)] tm ∧ Step (fun l => NoM l ∨ t ≤ l) g0 g ∧ Box g (t + 1) b1 26 [encA .u8 (zA 8), [.int .i64 0], encA .i64 (zA 2), [.slice none 0 0]] [8, 1, 2, 1] ∧ Box g (t + 2) b2 115 [[.slice a13 n11 c12], [.int .i64 x28], [.int .i64 x29]] [1, 1, 1] ∧ RdS (Kd.int .u8) g 5 a13 n11 c12 l11 ∧ Box g (t + 3) b3 26 [encA .u8 d1, [.int .i64 (IntKind.i64.wrap x5)], encA .i64 (⟨[(IntKind.i64.wrap x8), (IntKind.i64.wrap x11)], rfl⟩ : Arr Int 2), [.slice a14 n12 c13]] [8, 1, 2, 1] ∧ OwnS k_S_baizeref47_Held g (t + 8) 60 a14 n12 c13 l12 ∧ Box g (t + 4) b4 117 [[.int .u64 x5], [.int .u64 x8], [.int .u64 x11], [.int .u64 x14]] [1, 1, 1, 1] ∧ (F.baizeref47_Decode.c1 (F.baizeref47_Decode.l1 d1 x5 x8 x11 x14 k1) d1 x5 x8 x11 l11 x28 x29 l12 x30 q3) = some (o1, o2, o3, o4, o5)) ?_ ?_
 ·refine CP.region ?_
  refine WP.stl 2 ?_
  refine WP.loadB (v := .int .u64 x14) hB5 (by kernel_rfl) (by kernel_rfl) ?_
  refine WP.stl 3 ?_
  refine WP.guard 61 (b := decide (x30 < (IntKind.i64.wrap x14))) (by kernel_rfl) (fun h13 => ?_) (fun h13 => ?_)
  ·replace hs := of_if_t hs h13
   refine WP.stl 1 ?_
   refine WP.loadB (v := .int .i64 x29) hB2 (by kernel_rfl) (by kernel_rfl) ?_
   refine WP.stl 2 ?_
   refine WP.dn ?_
   refine NX.post ?_
   exact ⟨(x29 == 0), ⟨by kernel_rfl, by kernel_rfl⟩, tot, hB1, hB2, hR13, hB4, hR14, hB5, hs⟩
  replace hs := of_if_f hs h13
  refine WP.stl 4 ?_
  refine WP.dn ?_
  refine NX.post ?_
  exact ⟨false, ⟨by kernel_rfl, by kernel_rfl⟩, tot, hB1, hB2, hR13, hB4, hR14, hB5, hs⟩
 clear tot hs hB1 hB2 hR13 hB4 hR14 hB5
 rintro tm g ⟨q3, hF, tot, hB1, hB2, hR13, hB4, hR14, hB5, hs⟩
 clear ds
 obtain ⟨ds, rfl⟩ := hF.open
 clear hF
 unfold F.baizeref47_Decode.c1 at hs
 refine CP.cond (b := q3) (by kernel_rfl) (fun h10 => ?_) (fun h10 => ?_)
 ·replace hs := of_if_t hs h10
  refine CP.skip ?_
  refine NX.then_n ?_
  refine CP.seq ?_
  refine CP.block ?_
  refine CP.seqR ?_
  refine WP.alloc (T := 60) (t + 12) [encA .u8 (zA 8), [.int .i64 0], [.int .i64 0], [.int .i64 0]] [8, 1, 1, 1] (by kernel_rfl) (by simp [len_encA]) ?_
  intro g75 b9 st75 hB52
  replace hB1 := hB1.mono st75 (fun x => x)
  replace hB2 := hB2.mono st75 (fun x => x)
  replace hR13 := hR13.mono st75 (fun x => x)
  replace hB4 := hB4.mono st75 (fun x => x)
  replace hR14 := hR14.mono st75 (fun x => x) (fun x => x)
  replace hB5 := hB5.mono st75 (fun x => x)
  replace tot := tot.trans st75.pure
  refine WP.dn ?_
  refine NX.then_n ?_
  refine CP.seqR ?_
  refine WP.alloc (T := 122) (t + 13) [[.int .u64 0], [.int .u64 0], [.int .u64 0]] [1, 1, 1] (by kernel_rfl) rfl ?_
  intro g76 b10 st76 hB53
  replace hB1 := hB1.mono st76 (fun x => x)
  replace hB2 := hB2.mono st76 (fun x => x)
  replace hR13 := hR13.mono st76 (fun x => x)
  replace hB4 := hB4.mono st76 (fun x => x)
  replace hR14 := hR14.mono st76 (fun x => x) (fun x => x)
  replace hB5 := hB5.mono st76 (fun x => x)
  replace hB52 := hB52.mono st76 (fun x => x)
  replace tot := tot.trans st76.pure
  refine WP.dn ?_
  refine NX.then_n ?_
  refine CP.seqR ?_
  refine WP.loadB (v := AG [[.slice a13 n11 c12], [.int .i64 x28], [.int .i64 x29]]) hB2 (by kernel_rfl) (by kernel_rfl) ?_
  replace hs := Option.bind_eq_some_iff.1 hs
  obtain ⟨⟨l19, x47, x48, d4⟩, hk18, hs⟩ := hs
  dsimp only at hs
  have hcal18 := P.baizeref47_name g76 l11 x28 x29 a13 n11 c12 hR13 l19 x47 x48 d4 hk18
  refine WP.callC hcal18 (by kernel_rfl) ?_
  rintro _ g77 st77 ⟨a23, n19, c21, rfl, hR23⟩
  replace hB1 := hB1.mono st77 (fun x => x)
  replace hB2 := hB2.mono st77 (fun x => x)
  replace hR13 := hR13.mono st77 (fun x => x)
  replace hB4 := hB4.mono st77 (fun x => x)
  replace hR14 := hR14.mono st77 (fun x => x) (fun x => x)
  replace hB5 := hB5.mono st77 (fun x => x)
  replace hB52 := hB52.mono st77 (fun x => x)
  replace hB53 := hB53.mono st77 (fun x => x)
  replace tot := tot.trans st77.pure
  refine WP.stl 3 ?_
  refine WP.storeB (ty := 115) (off := 0) (v := AG [[.slice a23 n19 c21], [.int .i64 x47], [.int .i64 x48]]) hB2 [[.slice a23 n19 c21], [.int .i64 x47], [.int .i64 x48]] [1, 1, 1] (by kernel_rfl) (by kernel_rfl) rfl (by kernel_rfl) [[.slice a23 n19 c21], [.int .i64 x47], [.int .i64 x48]] (by kernel_rfl) (.one rfl (.one rfl (.one rfl .nil))) ?_
  intro g78 st78 hB54
  replace hB1 := hB1.mono st78 (WL.no1 (by omega))
  replace hR23 := hR23.mono st78 (WL.no1 (by omega))
  replace hB4 := hB4.mono st78 (WL.no1 (by omega))
  replace hR14 := hR14.mono st78 (WL.no1 (by omega)) (WL.no1 (by omega))
  replace hB5 := hB5.mono st78 (WL.no1 (by omega))
  replace hB52 := hB52.mono st78 (WL.no1 (by omega))
  replace hB53 := hB53.mono st78 (WL.no1 (by omega))
  replace hR13 := hR13.mono st78 (WL.no1 (by omega))
  replace tot := tot.trans (st78.up1 (.inr (by omega)))
  clear hB2
  have hB2 := hB54
  clear hB54
  refine WP.stl 1 ?_
  refine WP.storeB (ty := 22) (off := 0) (v := AG [encA .u8 d4]) hB52 [encA .u8 d4] [8] (by kernel_rfl) (by kernel_rfl) (by simp [len_encA]) (by kernel_rfl) [encA .u8 d4, [.int .i64 0], [.int .i64 0], [.int .i64 0]] (by kernel_rfl) (.arr .nil) ?_
  intro g79 st79 hB55
  replace hB1 := hB1.mono st79 (WL.no1 (by omega))
  replace hB2 := hB2.mono st79 (WL.no1 (by omega))
  replace hR23 := hR23.mono st79 (WL.no1 (by omega))
  replace hB4 := hB4.mono st79 (WL.no1 (by omega))
  replace hR14 := hR14.mono st79 (WL.no1 (by omega)) (WL.no1 (by omega))
  replace hB5 := hB5.mono st79 (WL.no1 (by omega))
  replace hB53 := hB53.mono st79 (WL.no1 (by omega))
  replace hR13 := hR13.mono st79 (WL.no1 (by omega))
  replace tot := tot.trans (st79.up1 (.inr (by omega)))
  clear hB52
  have hB52 := hB55
  clear hB55
  refine WP.dn ?_
  refine NX.then_n ?_
  refine CP.seqR ?_
  refine WP.loadB (v := AG [[.slice a23 n19 c21], [.int .i64 x47], [.int .i64 x48]]) hB2 (by kernel_rfl) (by kernel_rfl) ?_
  replace hs := Option.bind_eq_some_iff.1 hs
  obtain ⟨⟨l20, x49, x50, x51⟩, hk19, hs⟩ := hs
  dsimp only at hs
  have hcal19 := P.baizeref01_Read g79 l19 x47 x48 1125899906842624 a23 n19 c21 hR23 l20 x49 x50 x51 hk19
  refine WP.callC hcal19 (by kernel_rfl) ?_
  rintro _ g80 st80 ⟨a24, n20, c22, rfl, hR24⟩
  replace hB1 := hB1.mono st80 (fun x => x)
  replace hB2 := hB2.mono st80 (fun x => x)
  replace hR23 := hR23.mono st80 (fun x => x)
  replace hB4 := hB4.mono st80 (fun x => x)
  replace hR14 := hR14.mono st80 (fun x => x) (fun x => x)
  replace hB5 := hB5.mono st80 (fun x => x)
  replace hB52 := hB52.mono st80 (fun x => x)
  replace hB53 := hB53.mono st80 (fun x => x)
  replace tot := tot.trans st80.pure
  refine WP.stl 3 ?_
  refine WP.storeB (ty := 115) (off := 0) (v := AG [[.slice a24 n20 c22], [.int .i64 x49], [.int .i64 x50]]) hB2 [[.slice a24 n20 c22], [.int .i64 x49], [.int .i64 x50]] [1, 1, 1] (by kernel_rfl) (by kernel_rfl) rfl (by kernel_rfl) [[.slice a24 n20 c22], [.int .i64 x49], [.int .i64 x50]] (by kernel_rfl) (.one rfl (.one rfl (.one rfl .nil))) ?_
  intro g81 st81 hB56
  replace hB1 := hB1.mono st81 (WL.no1 (by omega))
  replace hR24 := hR24.mono st81 (WL.no1 (by omega))
  replace hB4 := hB4.mono st81 (WL.no1 (by omega))
  replace hR14 := hR14.mono st81 (WL.no1 (by omega)) (WL.no1 (by omega))
  replace hB5 := hB5.mono st81 (WL.no1 (by omega))
  replace hB52 := hB52.mono st81 (WL.no1 (by omega))
  replace hB53 := hB53.mono st81 (WL.no1 (by omega))
  replace hR23 := hR23.mono st81 (WL.no1 (by omega))
  replace tot := tot.trans (st81.up1 (.inr (by omega)))
  clear hB2
  have hB2 := hB56
  clear hB56
  refine WP.stl 1 ?_
  refine WP.storeB (ty := 116) (off := 0) (v := .int .u64 x51) hB53 [[.int .u64 x51]] [1] (by kernel_rfl) (by kernel_rfl) rfl (by kernel_rfl) [[.int .u64 x51], [.int .u64 0], [.int .u64 0]] (by kernel_rfl) (.one rfl .nil) ?_
  intro g82 st82 hB57
  replace hB1 := hB1.mono st82 (WL.no1 (by omega))
  replace hB2 := hB2.mono st82 (WL.no1 (by omega))
  replace hR24 := hR24.mono st82 (WL.no1 (by omega))
  replace hB4 := hB4.mono st82 (WL.no1 (by omega))
  replace hR14 := hR14.mono st82 (WL.no1 (by omega)) (WL.no1 (by omega))
  replace hB5 := hB5.mono st82 (WL.no1 (by omega))
  replace hB52 := hB52.mono st82 (WL.no1 (by omega))
  replace hR23 := hR23.mono st82 (WL.no1 (by omega))
  replace tot := tot.trans (st82.up1 (.inr (by omega)))
  clear hB53
  have hB53 := hB57
  clear hB57
  refine WP.dn ?_
  refine NX.then_n ?_
  refine CP.refr 123 [(2, .pointer (some ⟨b1, 0, none⟩)), (4, .pointer (some ⟨b2, 0, none⟩)), (5, .pointer (some ⟨b3, 0, none⟩)), (6, .pointer (some ⟨b4, 0, none⟩)), (7, .int .i64 x30), (8, .pointer (some ⟨b9, 0, none⟩)), (9, .pointer (some ⟨b10, 0, none⟩))] (by kernel_rfl) (by kernel_rfl) ?_
  clear ds
  intro ds
  refine CP.seqR ?_
  refine WP.loadB (v := AG [[.slice a24 n20 c22], [.int .i64 x49], [.int .i64 x50]]) hB2 (by kernel_rfl) (by kernel_rfl) ?_
  replace hs := Option.bind_eq_some_iff.1 hs
  obtain ⟨⟨l21, x52, x53, x54⟩, hk20, hs⟩ := hs
  dsimp only at hs
  have hcal20 := P.baizeref01_Read g82 l20 x49 x50 1 a24 n20 c22 hR24 l21 x52 x53 x54 hk20
  refine WP.callC hcal20 (by kernel_rfl) ?_
  rintro _ g83 st83 ⟨a25, n21, c23, rfl, hR25⟩
  replace hB1 := hB1.mono st83 (fun x => x)
  replace hB2 := hB2.mono st83 (fun x => x)
  replace hR24 := hR24.mono st83 (fun x => x)
  replace hB4 := hB4.mono st83 (fun x => x)
  replace hR14 := hR14.mono st83 (fun x => x) (fun x => x)
  replace hB5 := hB5.mono st83 (fun x => x)
  replace hB52 := hB52.mono st83 (fun x => x)
  replace hB53 := hB53.mono st83 (fun x => x)
  replace tot := tot.trans st83.pure
  refine WP.stl 3 ?_
  refine WP.storeB (ty := 115) (off := 0) (v := AG [[.slice a25 n21 c23], [.int .i64 x52], [.int .i64 x53]]) hB2 [[.slice a25 n21 c23], [.int .i64 x52], [.int .i64 x53]] [1, 1, 1] (by kernel_rfl) (by kernel_rfl) rfl (by kernel_rfl) [[.slice a25 n21 c23], [.int .i64 x52], [.int .i64 x53]] (by kernel_rfl) (.one rfl (.one rfl (.one rfl .nil))) ?_
  intro g84 st84 hB58
  replace hB1 := hB1.mono st84 (WL.no1 (by omega))
  replace hR25 := hR25.mono st84 (WL.no1 (by omega))
  replace hB4 := hB4.mono st84 (WL.no1 (by omega))
  replace hR14 := hR14.mono st84 (WL.no1 (by omega)) (WL.no1 (by omega))
  replace hB5 := hB5.mono st84 (WL.no1 (by omega))
  replace hB52 := hB52.mono st84 (WL.no1 (by omega))
  replace hB53 := hB53.mono st84 (WL.no1 (by omega))
  replace hR24 := hR24.mono st84 (WL.no1 (by omega))
  replace tot := tot.trans (st84.up1 (.inr (by omega)))
  clear hB2
  have hB2 := hB58
  clear hB58
  refine WP.stl 1 ?_
  refine WP.storeB (ty := 116) (off := 1) (v := .int .u64 x54) hB53 [[.int .u64 x54]] [1] (by kernel_rfl) (by kernel_rfl) rfl (by kernel_rfl) [[.int .u64 x51], [.int .u64 x54], [.int .u64 0]] (by kernel_rfl) (.one rfl .nil) ?_
  intro g85 st85 hB59
  replace hB1 := hB1.mono st85 (WL.no1 (by omega))
  replace hB2 := hB2.mono st85 (WL.no1 (by omega))
  replace hR25 := hR25.mono st85 (WL.no1 (by omega))
  replace hB4 := hB4.mono st85 (WL.no1 (by omega))
  replace hR14 := hR14.mono st85 (WL.no1 (by omega)) (WL.no1 (by omega))
  replace hB5 := hB5.mono st85 (WL.no1 (by omega))
  replace hB52 := hB52.mono st85 (WL.no1 (by omega))
  replace hR24 := hR24.mono st85 (WL.no1 (by omega))
  replace tot := tot.trans (st85.up1 (.inr (by omega)))
  clear hB53
  have hB53 := hB59
  clear hB59
  refine WP.dn ?_
  refine NX.then_n ?_
  refine CP.seqR ?_
  refine WP.loadB (v := AG [[.slice a25 n21 c23], [.int .i64 x52], [.int .i64 x53]]) hB2 (by kernel_rfl) (by kernel_rfl) ?_
  replace hs := Option.bind_eq_some_iff.1 hs
  obtain ⟨⟨l22, x55, x56, x57⟩, hk21, hs⟩ := hs
  dsimp only at hs
  have hcal21 := P.baizeref01_Read g85 l21 x52 x53 1099511627776 a25 n21 c23 hR25 l22 x55 x56 x57 hk21
  refine WP.callC hcal21 (by kernel_rfl) ?_
  rintro _ g86 st86 ⟨a26, n22, c24, rfl, hR26⟩
  replace hB1 := hB1.mono st86 (fun x => x)
  replace hB2 := hB2.mono st86 (fun x => x)
  replace hR25 := hR25.mono st86 (fun x => x)
  replace hB4 := hB4.mono st86 (fun x => x)
  replace hR14 := hR14.mono st86 (fun x => x) (fun x => x)
  replace hB5 := hB5.mono st86 (fun x => x)
  replace hB52 := hB52.mono st86 (fun x => x)
  replace hB53 := hB53.mono st86 (fun x => x)
  replace tot := tot.trans st86.pure
  refine WP.stl 3 ?_
  refine WP.storeB (ty := 115) (off := 0) (v := AG [[.slice a26 n22 c24], [.int .i64 x55], [.int .i64 x56]]) hB2 [[.slice a26 n22 c24], [.int .i64 x55], [.int .i64 x56]] [1, 1, 1] (by kernel_rfl) (by kernel_rfl) rfl (by kernel_rfl) [[.slice a26 n22 c24], [.int .i64 x55], [.int .i64 x56]] (by kernel_rfl) (.one rfl (.one rfl (.one rfl .nil))) ?_
  intro g87 st87 hB60
  replace hB1 := hB1.mono st87 (WL.no1 (by omega))
  replace hR26 := hR26.mono st87 (WL.no1 (by omega))
  replace hB4 := hB4.mono st87 (WL.no1 (by omega))
  replace hR14 := hR14.mono st87 (WL.no1 (by omega)) (WL.no1 (by omega))
  replace hB5 := hB5.mono st87 (WL.no1 (by omega))
  replace hB52 := hB52.mono st87 (WL.no1 (by omega))
  replace hB53 := hB53.mono st87 (WL.no1 (by omega))
  replace hR25 := hR25.mono st87 (WL.no1 (by omega))
  replace tot := tot.trans (st87.up1 (.inr (by omega)))
  clear hB2
  have hB2 := hB60
  clear hB60
  refine WP.stl 1 ?_
  refine WP.storeB (ty := 116) (off := 2) (v := .int .u64 x57) hB53 [[.int .u64 x57]] [1] (by kernel_rfl) (by kernel_rfl) rfl (by kernel_rfl) [[.int .u64 x51], [.int .u64 x54], [.int .u64 x57]] (by kernel_rfl) (.one rfl .nil) ?_
  intro g88 st88 hB61
  replace hB1 := hB1.mono st88 (WL.no1 (by omega))
  replace hB2 := hB2.mono st88 (WL.no1 (by omega))
  replace hR26 := hR26.mono st88 (WL.no1 (by omega))
  replace hB4 := hB4.mono st88 (WL.no1 (by omega))
  replace hR14 := hR14.mono st88 (WL.no1 (by omega)) (WL.no1 (by omega))
  replace hB5 := hB5.mono st88 (WL.no1 (by omega))
  replace hB52 := hB52.mono st88 (WL.no1 (by omega))
  replace hR25 := hR25.mono st88 (WL.no1 (by omega))
  replace tot := tot.trans (st88.up1 (.inr (by omega)))
  clear hB53
  have hB53 := hB61
  clear hB61
  refine WP.dn ?_
  refine NX.then_n ?_
  refine CP.refr 123 [(2, .pointer (some ⟨b1, 0, none⟩)), (4, .pointer (some ⟨b2, 0, none⟩)), (5, .pointer (some ⟨b3, 0, none⟩)), (6, .pointer (some ⟨b4, 0, none⟩)), (7, .int .i64 x30), (8, .pointer (some ⟨b9, 0, none⟩)), (9, .pointer (some ⟨b10, 0, none⟩))] (by kernel_rfl) (by kernel_rfl) ?_
  clear ds
  intro ds
  refine CP.seq ?_
  refine CP.drawL (by kernel_rfl) [1, 4, 7, 10, 12, 14] N.baizeref47_Decode_1 [⟨none, [0], [], fun l g => Box g (t + 12) b9 60 [encA .u8 d4, [.int .i64 0], [.int .i64 0], [.int .i64 0]] [8, 1, 1, 1]⟩, ⟨none, [], [], fun l g => Box g (t + 13) b10 122 [[.int .u64 x51], [.int .u64 x54], [.int .u64 x57]] [1, 1, 1]⟩, ⟨some 0, [], [0], fun l g => l.getD 0 undef = .int .u64 x51⟩, ⟨some 1, [], [1], fun l g => l.getD 0 undef = .int .u64 x54⟩, ⟨some 2, [], [2], fun l g => l.getD 0 undef = .int .u64 x57⟩, ⟨some 3, [0], [], fun l g => Box g (t + 12) b9 60 [encA .u8 d4, [.int .i64 (IntKind.i64.wrap x51)], [.int .i64 0], [.int .i64 0]] [8, 1, 1, 1]⟩, ⟨some 4, [0], [], fun l g => Box g (t + 12) b9 60 [encA .u8 d4, [.int .i64 (IntKind.i64.wrap x51)], [.int .i64 (IntKind.i64.wrap x54)], [.int .i64 0]] [8, 1, 1, 1]⟩, ⟨some 5, [0], [], fun l g => Box g (t + 12) b9 60 [encA .u8 d4, [.int .i64 (IntKind.i64.wrap x51)], [.int .i64 (IntKind.i64.wrap x54)], [.int .i64 (IntKind.i64.wrap x57)]] [8, 1, 1, 1]⟩] [[], [], [], [0], [0], [0]] [(t + 12)] [0, 3, 6, 9, 11, 13] [2, 5, 8] (by kernel_rfl) (by simp <;> omega) (by simp) ⟨fun _ _ _ _ st h0 hl hj hB52 => (hB52.mono st (hj 0 (by simp) _ rfl)), fun _ _ _ _ st h0 hl hj hB53 => (hB53.mono st (fun h => absurd (hl _ h) (by simp <;> omega))), fun _ _ _ _ st h0 hl hj e0 => e0, fun _ _ _ _ st h0 hl hj e1 => e1, fun _ _ _ _ st h0 hl hj e2 => e2, fun _ _ _ _ st h0 hl hj hB52 => (hB52.mono st (hj 0 (by simp) _ rfl)), fun _ _ _ _ st h0 hl hj hB52 => (hB52.mono st (hj 0 (by simp) _ rfl)), fun _ _ _ _ st h0 hl hj hB52 => (hB52.mono st (hj 0 (by simp) _ rfl)), tv⟩ ⟨hB52, hB53, tv, tv, tv, tv, tv, tv, tv⟩ (by kernel_rfl) (fun vs => by kernel_rfl) ?_ ?_ ?_
  ·intro j hj
   have hq : j = 0 ∨ j = 1 ∨ j = 2 := by have h : j < 3 := hj; omega
   rcases hq with rfl | rfl | rfl
   ·intro vs gq stq hl hf
    obtain ⟨v0, v1, v2, v3, v4, v5, rfl⟩ := len_k6 hl
    have e0 := (show v0 = .int .u64 x51 from hf _ (memI 2 rfl) (by kernel_rfl))
    subst e0
    show Option.isSome _ = true
    kernel_rfl
   ·intro vs gq stq hl hf
    obtain ⟨v0, v1, v2, v3, v4, v5, rfl⟩ := len_k6 hl
    have e1 := (show v1 = .int .u64 x54 from hf _ (memI 3 rfl) (by kernel_rfl))
    subst e1
    show Option.isSome _ = true
    kernel_rfl
   ·intro vs gq stq hl hf
    obtain ⟨v0, v1, v2, v3, v4, v5, rfl⟩ := len_k6 hl
    have e2 := (show v2 = .int .u64 x57 from hf _ (memI 4 rfl) (by kernel_rfl))
    subst e2
    show Option.isSome _ = true
    kernel_rfl
  ·intro j hj
   have hq : j = 0 ∨ j = 1 ∨ j = 2 ∨ j = 3 ∨ j = 4 ∨ j = 5 := by have h : j < 6 := hj; omega
   rcases hq with rfl | rfl | rfl | rfl | rfl | rfl
   ·intro vs gq stq hl hf
    obtain ⟨v0, v1, v2, v3, v4, v5, rfl⟩ := len_k6 hl
    have hB53 := (show Box gq (t + 13) b10 122 [[.int .u64 x51], [.int .u64 x54], [.int .u64 x57]] [1, 1, 1] from hf _ (memI 1 rfl) (by kernel_rfl))
    refine WP.loadB (v := .int .u64 x51) hB53 (by kernel_rfl) (by kernel_rfl) ?_
    refine WP.dn (Shown.ok (v := .int .u64 x51) (by kernel_rfl) (Step.refl _ _) ?_)
    exact ⟨tv, tv, rfl, tv, tv, tv, tv, tv, tv⟩
   ·intro vs gq stq hl hf
    obtain ⟨v0, v1, v2, v3, v4, v5, rfl⟩ := len_k6 hl
    have hB53 := (show Box gq (t + 13) b10 122 [[.int .u64 x51], [.int .u64 x54], [.int .u64 x57]] [1, 1, 1] from hf _ (memI 1 rfl) (by kernel_rfl))
    refine WP.loadB (v := .int .u64 x54) hB53 (by kernel_rfl) (by kernel_rfl) ?_
    refine WP.dn (Shown.ok (v := .int .u64 x54) (by kernel_rfl) (Step.refl _ _) ?_)
    exact ⟨tv, tv, tv, rfl, tv, tv, tv, tv, tv⟩
   ·intro vs gq stq hl hf
    obtain ⟨v0, v1, v2, v3, v4, v5, rfl⟩ := len_k6 hl
    have hB53 := (show Box gq (t + 13) b10 122 [[.int .u64 x51], [.int .u64 x54], [.int .u64 x57]] [1, 1, 1] from hf _ (memI 1 rfl) (by kernel_rfl))
    refine WP.loadB (v := .int .u64 x57) hB53 (by kernel_rfl) (by kernel_rfl) ?_
    refine WP.dn (Shown.ok (v := .int .u64 x57) (by kernel_rfl) (Step.refl _ _) ?_)
    exact ⟨tv, tv, tv, tv, rfl, tv, tv, tv, tv⟩
   ·intro vs gq stq hl hf
    obtain ⟨v0, v1, v2, v3, v4, v5, rfl⟩ := len_k6 hl
    have hB52 := (show Box gq (t + 12) b9 60 [encA .u8 d4, [.int .i64 0], [.int .i64 0], [.int .i64 0]] [8, 1, 1, 1] from hf _ (memI 0 rfl) (by kernel_rfl))
    have e0 := (show v0 = .int .u64 x51 from hf _ (memI 2 rfl) (by kernel_rfl))
    subst e0
    refine WP.storeB (ty := 3) (off := 8) (v := .int .i64 (IntKind.i64.wrap x51)) hB52 [[.int .i64 (IntKind.i64.wrap x51)]] [1] (by kernel_rfl) (by kernel_rfl) rfl (by kernel_rfl) [encA .u8 d4, [.int .i64 (IntKind.i64.wrap x51)], [.int .i64 0], [.int .i64 0]] (by kernel_rfl) (.one rfl .nil) ?_
    intro g89 st89 hB62
    refine WP.dn (Shown.o (v := undef) st89 ?_)
    exact ⟨tv, tv, tv, tv, tv, hB62, tv, tv, tv⟩
   ·intro vs gq stq hl hf
    obtain ⟨v0, v1, v2, v3, v4, v5, rfl⟩ := len_k6 hl
    have e1 := (show v1 = .int .u64 x54 from hf _ (memI 3 rfl) (by kernel_rfl))
    subst e1
    have hB52 := (show Box gq (t + 12) b9 60 [encA .u8 d4, [.int .i64 (IntKind.i64.wrap x51)], [.int .i64 0], [.int .i64 0]] [8, 1, 1, 1] from hf _ (memI 5 rfl) (by kernel_rfl))
    refine WP.storeB (ty := 3) (off := 9) (v := .int .i64 (IntKind.i64.wrap x54)) hB52 [[.int .i64 (IntKind.i64.wrap x54)]] [1] (by kernel_rfl) (by kernel_rfl) rfl (by kernel_rfl) [encA .u8 d4, [.int .i64 (IntKind.i64.wrap x51)], [.int .i64 (IntKind.i64.wrap x54)], [.int .i64 0]] (by kernel_rfl) (.one rfl .nil) ?_
    intro g90 st90 hB63
    refine WP.dn (Shown.o (v := undef) st90 ?_)
    exact ⟨tv, tv, tv, tv, tv, tv, hB63, tv, tv⟩
   ·intro vs gq stq hl hf
    obtain ⟨v0, v1, v2, v3, v4, v5, rfl⟩ := len_k6 hl
    have e2 := (show v2 = .int .u64 x57 from hf _ (memI 4 rfl) (by kernel_rfl))
    subst e2
    have hB52 := (show Box gq (t + 12) b9 60 [encA .u8 d4, [.int .i64 (IntKind.i64.wrap x51)], [.int .i64 (IntKind.i64.wrap x54)], [.int .i64 0]] [8, 1, 1, 1] from hf _ (memI 6 rfl) (by kernel_rfl))
    refine WP.storeB (ty := 3) (off := 10) (v := .int .i64 (IntKind.i64.wrap x57)) hB52 [[.int .i64 (IntKind.i64.wrap x57)]] [1] (by kernel_rfl) (by kernel_rfl) rfl (by kernel_rfl) [encA .u8 d4, [.int .i64 (IntKind.i64.wrap x51)], [.int .i64 (IntKind.i64.wrap x54)], [.int .i64 (IntKind.i64.wrap x57)]] (by kernel_rfl) (.one rfl .nil) ?_
    intro g91 st91 hB64
    refine WP.dn (Shown.o (v := undef) st91 ?_)
    exact ⟨tv, tv, tv, tv, tv, tv, tv, hB64, tv⟩
  intro vs g92 st92 hl hf
  obtain ⟨v0, v1, v2, v3, v4, v5, rfl⟩ := len_k6 hl
  have hB52 := (show Box g92 (t + 12) b9 60 [encA .u8 d4, [.int .i64 (IntKind.i64.wrap x51)], [.int .i64 (IntKind.i64.wrap x54)], [.int .i64 (IntKind.i64.wrap x57)]] [8, 1, 1, 1] from hf _ (memI 7 rfl) (by kernel_rfl))
  replace hB1 := hB1.mono st92 (WL.no1 (by omega))
  replace hB2 := hB2.mono st92 (WL.no1 (by omega))
  replace hR26 := hR26.mono st92 (WL.no1 (by omega))
  replace hB4 := hB4.mono st92 (WL.no1 (by omega))
  replace hR14 := hR14.mono st92 (WL.no1 (by omega)) (WL.no1 (by omega))
  replace hB5 := hB5.mono st92 (WL.no1 (by omega))
  replace tot := tot.trans (st92.up1 (.inr (by omega)))
  refine NX.then_n ?_
  refine CP.refr 123 [(2, .pointer (some ⟨b1, 0, none⟩)), (4, .pointer (some ⟨b2, 0, none⟩)), (5, .pointer (some ⟨b3, 0, none⟩)), (6, .pointer (some ⟨b4, 0, none⟩)), (7, .int .i64 x30), (8, .pointer (some ⟨b9, 0, none⟩))] (by kernel_rfl) (by kernel_rfl) ?_
  clear ds
  intro ds
  refine CP.region ?_
  refine WP.stl 1 ?_
  refine WP.loadB (v := .slice a14 n12 c13) hB4 (by kernel_rfl) (by kernel_rfl) ?_
  refine WP.loadB (v := AG [encA .u8 d4, [.int .i64 (IntKind.i64.wrap x51)], [.int .i64 (IntKind.i64.wrap x54)], [.int .i64 (IntKind.i64.wrap x57)]]) hB52 (by kernel_rfl) (by kernel_rfl) ?_
  refine WP.mkSl (kd := k_S_baizeref47_Held) (t := 24) (e := 60) (bytes := 32) (t + 14) [AG [encA .u8 d4, [.int .i64 (IntKind.i64.wrap x51)], [.int .i64 (IntKind.i64.wrap x54)], [.int .i64 (IntKind.i64.wrap x57)]]] [(⟨d4, (IntKind.i64.wrap x51), (IntKind.i64.wrap x54), (IntKind.i64.wrap x57)⟩ : S_baizeref47_Held)] (by kernel_rfl) (by kernel_rfl) (Nat.le_of_ble_eq_true rfl) (Nat.le_of_ble_eq_true rfl) (all_cons (Kd.len k_S_baizeref47_Held (g := g92) (x := (⟨d4, (IntKind.i64.wrap x51), (IntKind.i64.wrap x54), (IntKind.i64.wrap x57)⟩ : S_baizeref47_Held)) (k_S_baizeref47_Held.mk rfl rfl rfl rfl)) all_nil) (⟨_, _, rfl, (k_S_baizeref47_Held.mk rfl rfl rfl rfl), rfl⟩) rfl ?_
  intro g93 a27 st93 hR27
  replace hB1 := hB1.mono st93 (fun x => x)
  replace hB2 := hB2.mono st93 (fun x => x)
  replace hR26 := hR26.mono st93 (fun x => x)
  replace hB4 := hB4.mono st93 (fun x => x)
  replace hR14 := hR14.mono st93 (fun x => x) (fun x => x)
  replace hB5 := hB5.mono st93 (fun x => x)
  replace hB52 := hB52.mono st93 (fun x => x)
  replace tot := tot.trans st93.pure
  by_cases hc3 : l12.length + ([(⟨d4, (IntKind.i64.wrap x51), (IntKind.i64.wrap x54), (IntKind.i64.wrap x57)⟩ : S_baizeref47_Held)]).length ≤ 4398046511104
  case neg => rw [if_neg hc3] at hs; cases hs
  replace hs := of_if_p hs hc3
  refine WP.append (kd := k_S_baizeref47_Held) (t := 24) (e := 60) (bytes := 32) (a2 := a27) (c2 := 1) hR14 hR27.src hR27.len (by kernel_rfl) (by kernel_rfl) (by omega) (by simp only [maxLen]; omega) (by omega) ?_
  intro g94 a28 c25 st94 hR28
  replace hB1 := hB1.mono st94 (WL.no1 (by omega))
  replace hB2 := hB2.mono st94 (WL.no1 (by omega))
  replace hR26 := hR26.mono st94 (WL.no1 (by omega))
  replace hB4 := hB4.mono st94 (WL.no1 (by omega))
  replace hB5 := hB5.mono st94 (WL.no1 (by omega))
  replace hB52 := hB52.mono st94 (WL.no1 (by omega))
  replace hR27 := hR27.mono st94 (WL.no1 (by omega)) (WL.no1 (by omega))
  replace tot := tot.trans (st94.up1 (.inr (by omega)))
  refine WP.stl 1 ?_
  refine WP.storeB (ty := 24) (off := 11) (v := .slice a28 (n12 + 1) c25) hB4 [[.slice a28 (n12 + 1) c25]] [1] (by kernel_rfl) (by kernel_rfl) rfl (by kernel_rfl) [encA .u8 d1, [.int .i64 (IntKind.i64.wrap x5)], encA .i64 (⟨[(IntKind.i64.wrap x8), (IntKind.i64.wrap x11)], rfl⟩ : Arr Int 2), [.slice a28 (n12 + 1) c25]] (by kernel_rfl) (.one rfl .nil) ?_
  intro g95 st95 hB65
  replace hB1 := hB1.mono st95 (WL.no1 (by omega))
  replace hB2 := hB2.mono st95 (WL.no1 (by omega))
  replace hR26 := hR26.mono st95 (WL.no1 (by omega))
  replace hR28 := hR28.mono st95 (WL.no1 (by omega)) (WL.no1 (by omega))
  replace hB5 := hB5.mono st95 (WL.no1 (by omega))
  replace hB52 := hB52.mono st95 (WL.no1 (by omega))
  replace hR27 := hR27.mono st95 (WL.no1 (by omega)) (WL.no1 (by omega))
  replace tot := tot.trans (st95.up1 (.inr (by omega)))
  clear hB4
  have hB4 := hB65
  clear hB65
  refine WP.dn ?_
  refine NX.block_n ?_
  refine NX.then_n ?_
  refine CP.region ?_
  refine WP.stl 3 ?_
  refine WP.dn ?_
  refine NX.post ?_
  exact ⟨l22, a26, n22, c24, x55, x56, (l12 ++ [(⟨d4, (IntKind.i64.wrap x51), (IntKind.i64.wrap x54), (IntKind.i64.wrap x57)⟩ : S_baizeref47_Held)]), a28, (n12 + 1), c25, (IntKind.i64.wrap (x30 + 1)), ⟨by kernel_rfl, by kernel_rfl⟩, tot, hB1, hB2, hR26, hB4, hR28, hB5, hs⟩
 replace hs := of_if_f hs h10
 refine CP.exit ?_
 refine NX.then_e ?_
 refine NX.then_e ?_
 refine NX.block_s ?_
 refine NX.then_n ?_
 refine CP.seq ?_
 refine CP.seqR ?_
 refine WP.loadB (v := AG [[.slice a13 n11 c12], [.int .i64 x28], [.int .i64 x29]]) hB2 (by kernel_rfl) (by kernel_rfl) ?_
 replace hs := Option.bind_eq_some_iff.1 hs
 obtain ⟨x58, hk22, hs⟩ := hs
 have hcal22 := P.baizeref01_End g l11 x28 x29 a13 n11 c12 hR13 x58 hk22
 refine WP.callC hcal22 (by kernel_rfl) ?_
 rintro _ g96 st96 rfl
 replace hB1 := hB1.mono st96 (fun x => x)
 replace hB2 := hB2.mono st96 (fun x => x)
 replace hR13 := hR13.mono st96 (fun x => x)
 replace hB4 := hB4.mono st96 (fun x => x)
 replace hR14 := hR14.mono st96 (fun x => x) (fun x => x)
 replace tot := tot.trans st96.pure
 refine WP.stl 1 ?_
 refine WP.dn ?_
 refine NX.then_n ?_
 refine CP.seqR ?_
 refine WP.stl 2 ?_
 refine WP.dn ?_
 refine NX.then_n ?_
 refine CP.cond (b := (x58 != 0)) (by kernel_rfl) (fun h11 => ?_) (fun h11 => ?_)
 ·replace hs := of_if_t hs h11
  refine CP.seqR ?_
  refine WP.buildS (places := #[(0, 8), (8, 1), (9, 2), (11, 1)]) (t := 26) [encA .u8 (zA 8), [.int .i64 0], encA .i64 (zA 2), [.slice none 0 0]] [8, 1, 2, 1] (by kernel_rfl) (by kernel_rfl) (by simp [len_encA]) (by kernel_rfl) (.nil) ?_
  refine WP.stl 1 ?_
  refine WP.storeB (ty := 26) (off := 0) (v := AG [encA .u8 (zA 8), [.int .i64 0], encA .i64 (zA 2), [.slice none 0 0]]) hB1 [encA .u8 (zA 8), [.int .i64 0], encA .i64 (zA 2), [.slice none 0 0]] [8, 1, 2, 1] (by kernel_rfl) (by kernel_rfl) (by simp [len_encA]) (by kernel_rfl) [encA .u8 (zA 8), [.int .i64 0], encA .i64 (zA 2), [.slice none 0 0]] (by kernel_rfl) (.arr (.one rfl (.arr (.one rfl .nil)))) ?_
  intro g97 st97 hB66
  replace hB4 := hB4.mono st97 (WL.no1 (by omega))
  replace hR14 := hR14.mono st97 (WL.no1 (by omega)) (WL.no1 (by omega))
  replace tot := tot.trans (st97.up1 (.inr (by omega)))
  clear hB1
  have hB1 := hB66
  clear hB66
  refine WP.stl 1 ?_
  refine WP.dn ?_
  refine NX.then_n ?_
  refine CP.ret ?_
  refine NX.then_r ?_
  replace hs := Option.some.inj hs
  simp only [Prod.mk.injEq] at hs
  obtain ⟨rfl, rfl, rfl, rfl, rfl⟩ := hs
  exact NX.fin (v := .tuple #[AG [encA .u8 (zA 8), [.int .i64 0], encA .i64 (zA 2), [.slice none 0 0]], .int .i64 x58]) (Res.two rfl (RV.box (agg := true) (size := 12) (rs := [encA .u8 (zA 8), [.int .i64 0], encA .i64 (zA 2), [.slice none 0 0]]) hB1 (by kernel_rfl) (by kernel_rfl) (by kernel_rfl) (by kernel_rfl)) (RV.tmp (by kernel_rfl))) tot htL ⟨none, 0, 0, rfl, (OwnS.nil _ _ _ _)⟩
 replace hs := of_if_f hs h11
 refine CP.skip ?_
 refine NX.then_n ?_
 refine CP.seq ?_
 refine CP.seqR ?_
 refine WP.loadB (v := AG [encA .u8 d1, [.int .i64 (IntKind.i64.wrap x5)], encA .i64 (⟨[(IntKind.i64.wrap x8), (IntKind.i64.wrap x11)], rfl⟩ : Arr Int 2), [.slice a14 n12 c13]]) hB4 (by kernel_rfl) (by kernel_rfl) ?_
 replace hs := Option.bind_eq_some_iff.1 hs
 obtain ⟨x59, hk23, hs⟩ := hs
 have hS2 : 0 ∉ ([(t + 8)] : List Nat) := by simp <;> omega
 have stl2 := GW.lend_step g96 [(t + 8)]
 have hRl2 := hR14.lendTo hS2 (by simp)
 refine WP.regw (g' := GW.lend g96 [(t + 8)]) rfl ?_
 have hcal23 := P.baizeref47_Check (GW.lend g96 [(t + 8)]) d1 (IntKind.i64.wrap x5) (⟨[(IntKind.i64.wrap x8), (IntKind.i64.wrap x11)], rfl⟩ : Arr Int 2) l12 a14 n12 c13 hRl2 x59 hk23
 refine WP.callC hcal23 (by kernel_rfl) ?_
 rintro _ g98 st98 rfl
 have st99 := (GW.back_step st98).lentS
 have hO2 := hR14.backTo hS2 (by simp) st98 (fun x => x)
 refine WP.regw (g' := GW.back g96 g98 [(t + 8)]) rfl ?_
 generalize GW.back g96 g98 [(t + 8)] = g99 at *
 replace hB1 := hB1.mono st99 (WL.no1 (by omega))
 replace hB4 := hB4.mono st99 (WL.no1 (by omega))
 replace tot := tot.trans (st99.up1 (.inr (by omega)))
 clear hR14
 have hR14 : OwnS k_S_baizeref47_Held g99 (t + 8) 60 a14 n12 c13 l12 := hO2
 clear hO2
 refine WP.stl 1 ?_
 refine WP.dn ?_
 refine NX.then_n ?_
 refine CP.seqR ?_
 refine WP.stl 2 ?_
 refine WP.dn ?_
 refine NX.then_n ?_
 refine CP.cond (b := (x59 != 0)) (by kernel_rfl) (fun h12 => ?_) (fun h12 => ?_)
 ·replace hs := of_if_t hs h12
  refine CP.seqR ?_
  refine WP.buildS (places := #[(0, 8), (8, 1), (9, 2), (11, 1)]) (t := 26) [encA .u8 (zA 8), [.int .i64 0], encA .i64 (zA 2), [.slice none 0 0]] [8, 1, 2, 1] (by kernel_rfl) (by kernel_rfl) (by simp [len_encA]) (by kernel_rfl) (.nil) ?_
  refine WP.stl 1 ?_
  refine WP.storeB (ty := 26) (off := 0) (v := AG [encA .u8 (zA 8), [.int .i64 0], encA .i64 (zA 2), [.slice none 0 0]]) hB1 [encA .u8 (zA 8), [.int .i64 0], encA .i64 (zA 2), [.slice none 0 0]] [8, 1, 2, 1] (by kernel_rfl) (by kernel_rfl) (by simp [len_encA]) (by kernel_rfl) [encA .u8 (zA 8), [.int .i64 0], encA .i64 (zA 2), [.slice none 0 0]] (by kernel_rfl) (.arr (.one rfl (.arr (.one rfl .nil)))) ?_
  intro g100 st100 hB67
  replace hB4 := hB4.mono st100 (WL.no1 (by omega))
  replace hR14 := hR14.mono st100 (WL.no1 (by omega)) (WL.no1 (by omega))
  replace tot := tot.trans (st100.up1 (.inr (by omega)))
  clear hB1
  have hB1 := hB67
  clear hB67
  refine WP.stl 1 ?_
  refine WP.dn ?_
  refine NX.then_n ?_
  refine CP.refr 123 [(2, .pointer (some ⟨b1, 0, none⟩)), (3, .int .i64 x59)] (by kernel_rfl) (by kernel_rfl) ?_
  clear ds
  intro ds
  refine CP.ret ?_
  refine NX.then_r ?_
  replace hs := Option.some.inj hs
  simp only [Prod.mk.injEq] at hs
  obtain ⟨rfl, rfl, rfl, rfl, rfl⟩ := hs
  exact NX.fin (v := .tuple #[AG [encA .u8 (zA 8), [.int .i64 0], encA .i64 (zA 2), [.slice none 0 0]], .int .i64 x59]) (Res.two rfl (RV.box (agg := true) (size := 12) (rs := [encA .u8 (zA 8), [.int .i64 0], encA .i64 (zA 2), [.slice none 0 0]]) hB1 (by kernel_rfl) (by kernel_rfl) (by kernel_rfl) (by kernel_rfl)) (RV.tmp (by kernel_rfl))) tot htL ⟨none, 0, 0, rfl, (OwnS.nil _ _ _ _)⟩
 replace hs := of_if_f hs h12
 refine CP.skip ?_
 refine NX.then_n ?_
 refine CP.seqR ?_
 refine WP.loadB (v := AG [encA .u8 d1, [.int .i64 (IntKind.i64.wrap x5)], encA .i64 (⟨[(IntKind.i64.wrap x8), (IntKind.i64.wrap x11)], rfl⟩ : Arr Int 2), [.slice a14 n12 c13]]) hB4 (by kernel_rfl) (by kernel_rfl) ?_
 refine WP.storeB (ty := 26) (off := 0) (v := AG [encA .u8 d1, [.int .i64 (IntKind.i64.wrap x5)], encA .i64 (⟨[(IntKind.i64.wrap x8), (IntKind.i64.wrap x11)], rfl⟩ : Arr Int 2), [.slice a14 n12 c13]]) hB1 [encA .u8 d1, [.int .i64 (IntKind.i64.wrap x5)], encA .i64 (⟨[(IntKind.i64.wrap x8), (IntKind.i64.wrap x11)], rfl⟩ : Arr Int 2), [.slice a14 n12 c13]] [8, 1, 2, 1] (by kernel_rfl) (by kernel_rfl) (by simp [len_encA]) (by kernel_rfl) [encA .u8 d1, [.int .i64 (IntKind.i64.wrap x5)], encA .i64 (⟨[(IntKind.i64.wrap x8), (IntKind.i64.wrap x11)], rfl⟩ : Arr Int 2), [.slice a14 n12 c13]] (by kernel_rfl) (.arr (.one rfl (.arr (.one rfl .nil)))) ?_
 intro g101 st101 hB68
 replace hR14 := hR14.mono st101 (WL.no1 (by omega)) (WL.no1 (by omega))
 replace hB4 := hB4.mono st101 (WL.no1 (by omega))
 replace tot := tot.trans (st101.up1 (.inr (by omega)))
 clear hB1
 have hB1 := hB68
 clear hB68
 refine WP.stl 1 ?_
 refine WP.dn ?_
 refine NX.then_n ?_
 refine CP.refr 123 [(2, .pointer (some ⟨b1, 0, none⟩)), (3, .int .i64 0)] (by kernel_rfl) (by kernel_rfl) ?_
 clear ds
 intro ds
 refine CP.ret ?_
 obtain ⟨g102, hw1, st102, hnew⟩ := hR14.relab (by omega) r0
 refine NX.regw hw1 ?_
 replace hB1 := hB1.mono st102 (WL.no1 (by omega))
 replace tot := tot.trans (st102.up1 (.inr (by omega)))
 clear hR14
 have hR14 := hnew
 clear hnew
 replace hs := Option.some.inj hs
 simp only [Prod.mk.injEq] at hs
 obtain ⟨rfl, rfl, rfl, rfl, rfl⟩ := hs
 exact NX.fin (v := .tuple #[AG [encA .u8 d1, [.int .i64 (IntKind.i64.wrap x5)], encA .i64 (⟨[(IntKind.i64.wrap x8), (IntKind.i64.wrap x11)], rfl⟩ : Arr Int 2), [.slice a14 n12 c13]], .int .i64 0]) (Res.two rfl (RV.box (agg := true) (size := 12) (rs := [encA .u8 d1, [.int .i64 (IntKind.i64.wrap x5)], encA .i64 (⟨[(IntKind.i64.wrap x8), (IntKind.i64.wrap x11)], rfl⟩ : Arr Int 2), [.slice a14 n12 c13]]) hB1 (by kernel_rfl) (by kernel_rfl) (by kernel_rfl) (by kernel_rfl)) (RV.tmp (by kernel_rfl))) tot htL ⟨a14, n12, c13, rfl, hR14⟩
def F.baizelaw47_Back.l1 (d1 : Arr Int 8) (x1 : Int) (d2 : Arr Int 2) (l1 : List S_purse_Held) : Nat → (List S_baizeref47_Held) → Int → Option ((Arr Int 8) × Int × (Arr Int 2) × (List S_baizeref47_Held))
 | 0, _, _ => none
 | k + 1, l2, x2 => (if decide (x2 < (l1.length : Int)) = true then (if (0 : Int) ≤ x2 ∧ x2 < (l1.length : Int) then (if l2.length + ([(⟨(getI l1 x2).f1, (getI l1 x2).f2, (getI l1 x2).f3, (getI l1 x2).f4⟩ : S_baizeref47_Held)]).length ≤ 4398046511104 then (F.baizelaw47_Back.l1 d1 x1 d2 l1 k (l2 ++ [(⟨(getI l1 x2).f1, (getI l1 x2).f2, (getI l1 x2).f3, (getI l1 x2).f4⟩ : S_baizeref47_Held)]) (IntKind.i64.wrap (x2 + 1))) else none) else none) else (some (d1, x1, d2, l2)))
def F.baizelaw47_Back (d1 : Arr Int 8) (x1 : Int) (d2 : Arr Int 2) (l1 : List S_purse_Held) : Option ((Arr Int 8) × Int × (Arr Int 2) × (List S_baizeref47_Held)) := (F.baizelaw47_Back.l1 d1 x1 d2 l1 fuel ([]) 0)
theorem P.baizelaw47_Back (g0 : GW) (r0 : Nat) (d1 : Arr Int 8) (x1 : Int) (d2 : Arr Int 2) (l1 : List S_purse_Held) (a1 : Option Addr) (n1 : Nat) (c1 : Nat) (hR1 : RdS k_S_purse_Held g0 56 a1 n1 c1 l1) (o1 : Arr Int 8) (o2 : Int) (o3 : Arr Int 2) (o4 : List S_baizeref47_Held) (hs : F.baizelaw47_Back d1 x1 d2 l1 = some (o1, o2, o3, o4)) :
  Calls Try.prog 19 #[AG [encA .u8 d1, [.int .i64 x1], encA .i64 d2, [.slice a1 n1 c1]]] g0.w (Ret NoM g0 fun v g => ∃ (a_1 : Option Addr) (n_1 : Nat) (c_1 : Nat), v = AG [encA .u8 o1, [.int .i64 o2], encA .i64 o3, [.slice a_1 n_1 c_1]] ∧ OwnS k_S_baizeref47_Held g r0 60 a_1 n_1 c_1 o4) := by
 refine calls_of (args := [AG [encA .u8 d1, [.int .i64 x1], encA .i64 d2, [.slice a1 n1 c1]]]) Try.func19 rfl (r0 + 0) ?_
 intro t ht htL
 refine ⟨_, rfl, ?_⟩
 refine CP.refr 40 [(0, AG [encA .u8 d1, [.int .i64 x1], encA .i64 d2, [.slice a1 n1 c1]])] (by kernel_rfl) (by kernel_rfl) ?_
 intro ds
 have tot : Step (fun l => NoM l ∨ t ≤ l) g0 g0 := Step.refl _ _
 unfold F.baizelaw47_Back at hs
 refine CP.seqR ?_
 refine WP.alloc (T := 32) (t + 1) [encA .u8 d1, [.int .i64 x1], encA .i64 d2, [.slice a1 n1 c1]] [8, 1, 2, 1] (by kernel_rfl) (by simp [len_encA]) ?_
 intro g1 b1 st1 hB1
 replace hR1 := hR1.mono st1 (fun x => x)
 replace tot := tot.trans st1.pure
 refine WP.alloc (T := 26) (t + 2) [encA .u8 (zA 8), [.int .i64 0], encA .i64 (zA 2), [.slice none 0 0]] [8, 1, 2, 1] (by kernel_rfl) (by simp [len_encA]) ?_
 intro g2 b2 st2 hB2
 replace hR1 := hR1.mono st2 (fun x => x)
 replace hB1 := hB1.mono st2 (fun x => x)
 replace tot := tot.trans st2.pure
 refine WP.dn ?_
 refine NX.then_n ?_
 refine CP.seqR ?_
 refine WP.stl 1 ?_
 refine WP.loadB (v := AG [encA .u8 d1]) hB1 (by kernel_rfl) (by kernel_rfl) ?_
 refine WP.stl 1 ?_
 refine WP.loadB (v := .int .i64 x1) hB1 (by kernel_rfl) (by kernel_rfl) ?_
 refine WP.stl 1 ?_
 refine WP.loadB (v := AG [encA .i64 d2]) hB1 (by kernel_rfl) (by kernel_rfl) ?_
 refine WP.buildS (places := #[(0, 8), (8, 1), (9, 2), (11, 1)]) (t := 26) [encA .u8 (zA 8), [.int .i64 0], encA .i64 (zA 2), [.slice none 0 0]] [8, 1, 2, 1] (by kernel_rfl) (by kernel_rfl) (by simp [len_encA]) (by kernel_rfl) ((.cons (i := 0) (off := 0) (v := AG [encA .u8 d1]) (mid := [encA .u8 d1, [.int .i64 0], encA .i64 (zA 2), [.slice none 0 0]]) [encA .u8 d1] [8] (by kernel_rfl) (by kernel_rfl) (by simp [len_encA]) (by kernel_rfl) (.cons (i := 1) (off := 8) (v := .int .i64 x1) (mid := [encA .u8 d1, [.int .i64 x1], encA .i64 (zA 2), [.slice none 0 0]]) [[.int .i64 x1]] [1] (by kernel_rfl) (by kernel_rfl) rfl (by kernel_rfl) (.cons (i := 2) (off := 9) (v := AG [encA .i64 d2]) (mid := [encA .u8 d1, [.int .i64 x1], encA .i64 d2, [.slice none 0 0]]) [encA .i64 d2] [2] (by kernel_rfl) (by kernel_rfl) (by simp [len_encA]) (by kernel_rfl) .nil)))) ?_
 refine WP.alloc (T := 26) (t + 3) [encA .u8 (zA 8), [.int .i64 0], encA .i64 (zA 2), [.slice none 0 0]] [8, 1, 2, 1] (by kernel_rfl) (by simp [len_encA]) ?_
 intro g3 b3 st3 hB3
 replace hB1 := hB1.mono st3 (fun x => x)
 replace hR1 := hR1.mono st3 (fun x => x)
 replace hB2 := hB2.mono st3 (fun x => x)
 replace tot := tot.trans st3.pure
 refine WP.storeB (ty := 26) (off := 0) (v := AG [encA .u8 d1, [.int .i64 x1], encA .i64 d2, [.slice none 0 0]]) hB3 [encA .u8 d1, [.int .i64 x1], encA .i64 d2, [.slice none 0 0]] [8, 1, 2, 1] (by kernel_rfl) (by kernel_rfl) (by simp [len_encA]) (by kernel_rfl) [encA .u8 d1, [.int .i64 x1], encA .i64 d2, [.slice none 0 0]] (by kernel_rfl) (.arr (.one rfl (.arr (.one rfl .nil)))) ?_
 intro g4 st4 hB4
 replace hB1 := hB1.mono st4 (WL.no1 (by omega))
 replace hR1 := hR1.mono st4 (WL.no1 (by omega))
 replace hB2 := hB2.mono st4 (WL.no1 (by omega))
 replace tot := tot.trans (st4.up1 (.inr (by omega)))
 clear hB3
 have hB3 := hB4
 clear hB4
 refine WP.dn ?_
 refine NX.then_n ?_
 refine CP.seq ?_
 refine CP.seqR ?_
 refine WP.stl 1 ?_
 refine WP.dn ?_
 refine NX.then_n ?_
 refine CP.block ?_
 generalize fuel = k1 at hs
 refine CP.loop (fun k1 tm g => ∃ (l2 : List S_baizeref47_Held) (a4 : Option Addr) (n2 : Nat) (c3 : Nat) (x2 : Int), Fr 40 [(1, .pointer (some ⟨b1, 0, none⟩)), (2, .pointer (some ⟨b2, 0, none⟩)), (3, .pointer (some ⟨b3, 0, none⟩)), (4, .int .i64 x2)] tm ∧ Step (fun l => NoM l ∨ t ≤ l) g0 g ∧ Box g (t + 1) b1 32 [encA .u8 d1, [.int .i64 x1], encA .i64 d2, [.slice a1 n1 c1]] [8, 1, 2, 1] ∧ RdS k_S_purse_Held g 56 a1 n1 c1 l1 ∧ Box g (t + 2) b2 26 [encA .u8 (zA 8), [.int .i64 0], encA .i64 (zA 2), [.slice none 0 0]] [8, 1, 2, 1] ∧ Box g (t + 3) b3 26 [encA .u8 d1, [.int .i64 x1], encA .i64 d2, [.slice a4 n2 c3]] [8, 1, 2, 1] ∧ OwnS k_S_baizeref47_Held g (t + 6) 60 a4 n2 c3 l2 ∧ F.baizelaw47_Back.l1 d1 x1 d2 l1 k1 l2 x2 = some (o1, o2, o3, o4)) k1 ?_ ?_ ?_
 ·exact ⟨[], none, 0, 0, 0, ⟨by kernel_rfl, by kernel_rfl⟩, tot, hB1, hR1, hB2, hB3, (OwnS.nil _ _ _ _), hs⟩
 ·rintro tm g ⟨l2, a4, n2, c3, x2, hF, tot, hB1, hR1, hB2, hB3, hR4, hs⟩
  exact absurd hs (by simp [F.baizelaw47_Back.l1])
 clear tot hs hB1 hR1 hB2 hB3
 rintro k1 tm g ⟨l2, a4, n2, c3, x2, hF, tot, hB1, hR1, hB2, hB3, hR4, hs⟩
 clear ds
 obtain ⟨ds, rfl⟩ := hF.open
 clear hF
 unfold F.baizelaw47_Back.l1 at hs
 refine CP.seq ?_
 refine CP.seqR ?_
 refine WP.stl 2 ?_
 refine WP.loadB (v := .slice a1 n1 c1) hB1 (by kernel_rfl) (by kernel_rfl) ?_
 refine WP.len (a := a1) (cp := c1) hR1.len (by kernel_rfl) ?_
 refine WP.stl 1 ?_
 refine WP.dn ?_
 refine NX.then_n ?_
 refine CP.cond (b := decide (x2 < (l1.length : Int))) (by kernel_rfl) (fun h3 => ?_) (fun h3 => ?_)
 ·replace hs := of_if_t hs h3
  refine CP.skip ?_
  refine NX.then_n ?_
  refine CP.seq ?_
  refine CP.block ?_
  refine CP.seqR ?_
  refine WP.stl 1 ?_
  refine WP.loadB (v := .slice a1 n1 c1) hB1 (by kernel_rfl) (by kernel_rfl) ?_
  refine WP.stl 1 ?_
  by_cases hc5 : (0 : Int) ≤ x2 ∧ x2 < (l1.length : Int)
  case neg => rw [if_neg hc5] at hs; cases hs
  replace hs := of_if_p hs hc5
  obtain ⟨b8, u3, ha3⟩ := hR1.at hc5
  refine WP.indexA (t := 30) (e := 56) (sz := 11) (cap := c1) (k := .i64) (i := x2) hR1.len ha3 (by kernel_rfl) (by kernel_rfl) hc5 ?_
  obtain ⟨cs3, hcR3, hcV3⟩ := hR1.src.view (getI_some hc5) ha3
  replace hcR3 := k_S_purse_Held.opn hcR3
  refine WP.loadV [encA .u8 ((getI l1 x2).f1), [.int .i64 ((getI l1 x2).f2)], [.int .i64 ((getI l1 x2).f3)], [.int .i64 ((getI l1 x2).f4)]] [8, 1, 1, 1] hcV3 hcR3 (by simp [len_encA]) (f := 0) (ty := 56) (agg := true) (size := 11) (rs := [encA .u8 ((getI l1 x2).f1), [.int .i64 ((getI l1 x2).f2)], [.int .i64 ((getI l1 x2).f3)], [.int .i64 ((getI l1 x2).f4)]]) (v := AG [encA .u8 ((getI l1 x2).f1), [.int .i64 ((getI l1 x2).f2)], [.int .i64 ((getI l1 x2).f3)], [.int .i64 ((getI l1 x2).f4)]]) (by kernel_rfl) (by kernel_rfl) (by kernel_rfl) (by kernel_rfl) ?_
  refine WP.alloc (T := 56) (t + 9) [encA .u8 (zA 8), [.int .i64 0], [.int .i64 0], [.int .i64 0]] [8, 1, 1, 1] (by kernel_rfl) (by simp [len_encA]) ?_
  intro g17 b9 st17 hB13
  replace hB1 := hB1.mono st17 (fun x => x)
  replace hR1 := hR1.mono st17 (fun x => x)
  replace hB2 := hB2.mono st17 (fun x => x)
  replace hB3 := hB3.mono st17 (fun x => x)
  replace hR4 := hR4.mono st17 (fun x => x) (fun x => x)
  replace tot := tot.trans st17.pure
  refine WP.storeB (ty := 56) (off := 0) (v := AG [encA .u8 ((getI l1 x2).f1), [.int .i64 ((getI l1 x2).f2)], [.int .i64 ((getI l1 x2).f3)], [.int .i64 ((getI l1 x2).f4)]]) hB13 [encA .u8 ((getI l1 x2).f1), [.int .i64 ((getI l1 x2).f2)], [.int .i64 ((getI l1 x2).f3)], [.int .i64 ((getI l1 x2).f4)]] [8, 1, 1, 1] (by kernel_rfl) (by kernel_rfl) (by simp [len_encA]) (by kernel_rfl) [encA .u8 ((getI l1 x2).f1), [.int .i64 ((getI l1 x2).f2)], [.int .i64 ((getI l1 x2).f3)], [.int .i64 ((getI l1 x2).f4)]] (by kernel_rfl) (.arr (.one rfl (.one rfl (.one rfl .nil)))) ?_
  intro g18 st18 hB14
  replace hB1 := hB1.mono st18 (WL.no1 (by omega))
  replace hR1 := hR1.mono st18 (WL.no1 (by omega))
  replace hB2 := hB2.mono st18 (WL.no1 (by omega))
  replace hB3 := hB3.mono st18 (WL.no1 (by omega))
  replace hR4 := hR4.mono st18 (WL.no1 (by omega)) (WL.no1 (by omega))
  replace tot := tot.trans (st18.up1 (.inr (by omega)))
  clear hB13
  have hB13 := hB14
  clear hB14
  refine WP.dn ?_
  refine NX.then_n ?_
  refine CP.region ?_
  refine WP.stl 1 ?_
  refine WP.loadB (v := .slice a4 n2 c3) hB3 (by kernel_rfl) (by kernel_rfl) ?_
  refine WP.stl 1 ?_
  refine WP.loadB (v := AG [encA .u8 ((getI l1 x2).f1)]) hB13 (by kernel_rfl) (by kernel_rfl) ?_
  refine WP.stl 1 ?_
  refine WP.loadB (v := .int .i64 ((getI l1 x2).f2)) hB13 (by kernel_rfl) (by kernel_rfl) ?_
  refine WP.stl 1 ?_
  refine WP.loadB (v := .int .i64 ((getI l1 x2).f3)) hB13 (by kernel_rfl) (by kernel_rfl) ?_
  refine WP.stl 1 ?_
  refine WP.loadB (v := .int .i64 ((getI l1 x2).f4)) hB13 (by kernel_rfl) (by kernel_rfl) ?_
  refine WP.buildS (places := #[(0, 8), (8, 1), (9, 1), (10, 1)]) (t := 60) [encA .u8 (zA 8), [.int .i64 0], [.int .i64 0], [.int .i64 0]] [8, 1, 1, 1] (by kernel_rfl) (by kernel_rfl) (by simp [len_encA]) (by kernel_rfl) ((.cons (i := 0) (off := 0) (v := AG [encA .u8 ((getI l1 x2).f1)]) (mid := [encA .u8 ((getI l1 x2).f1), [.int .i64 0], [.int .i64 0], [.int .i64 0]]) [encA .u8 ((getI l1 x2).f1)] [8] (by kernel_rfl) (by kernel_rfl) (by simp [len_encA]) (by kernel_rfl) (.cons (i := 1) (off := 8) (v := .int .i64 ((getI l1 x2).f2)) (mid := [encA .u8 ((getI l1 x2).f1), [.int .i64 ((getI l1 x2).f2)], [.int .i64 0], [.int .i64 0]]) [[.int .i64 ((getI l1 x2).f2)]] [1] (by kernel_rfl) (by kernel_rfl) rfl (by kernel_rfl) (.cons (i := 2) (off := 9) (v := .int .i64 ((getI l1 x2).f3)) (mid := [encA .u8 ((getI l1 x2).f1), [.int .i64 ((getI l1 x2).f2)], [.int .i64 ((getI l1 x2).f3)], [.int .i64 0]]) [[.int .i64 ((getI l1 x2).f3)]] [1] (by kernel_rfl) (by kernel_rfl) rfl (by kernel_rfl) (.cons (i := 3) (off := 10) (v := .int .i64 ((getI l1 x2).f4)) (mid := [encA .u8 ((getI l1 x2).f1), [.int .i64 ((getI l1 x2).f2)], [.int .i64 ((getI l1 x2).f3)], [.int .i64 ((getI l1 x2).f4)]]) [[.int .i64 ((getI l1 x2).f4)]] [1] (by kernel_rfl) (by kernel_rfl) rfl (by kernel_rfl) .nil))))) ?_
  refine WP.mkSl (kd := k_S_baizeref47_Held) (t := 24) (e := 60) (bytes := 32) (t + 10) [AG [encA .u8 ((getI l1 x2).f1), [.int .i64 ((getI l1 x2).f2)], [.int .i64 ((getI l1 x2).f3)], [.int .i64 ((getI l1 x2).f4)]]] [(⟨(getI l1 x2).f1, (getI l1 x2).f2, (getI l1 x2).f3, (getI l1 x2).f4⟩ : S_baizeref47_Held)] (by kernel_rfl) (by kernel_rfl) (Nat.le_of_ble_eq_true rfl) (Nat.le_of_ble_eq_true rfl) (all_cons (Kd.len k_S_baizeref47_Held (g := g18) (x := (⟨(getI l1 x2).f1, (getI l1 x2).f2, (getI l1 x2).f3, (getI l1 x2).f4⟩ : S_baizeref47_Held)) (k_S_baizeref47_Held.mk rfl rfl rfl rfl)) all_nil) (⟨_, _, rfl, (k_S_baizeref47_Held.mk rfl rfl rfl rfl), rfl⟩) rfl ?_
  intro g19 a8 st19 hR8
  replace hB1 := hB1.mono st19 (fun x => x)
  replace hR1 := hR1.mono st19 (fun x => x)
  replace hB2 := hB2.mono st19 (fun x => x)
  replace hB3 := hB3.mono st19 (fun x => x)
  replace hR4 := hR4.mono st19 (fun x => x) (fun x => x)
  replace hB13 := hB13.mono st19 (fun x => x)
  replace tot := tot.trans st19.pure
  by_cases hc6 : l2.length + ([(⟨(getI l1 x2).f1, (getI l1 x2).f2, (getI l1 x2).f3, (getI l1 x2).f4⟩ : S_baizeref47_Held)]).length ≤ 4398046511104
  case neg => rw [if_neg hc6] at hs; cases hs
  replace hs := of_if_p hs hc6
  refine WP.append (kd := k_S_baizeref47_Held) (t := 24) (e := 60) (bytes := 32) (a2 := a8) (c2 := 1) hR4 hR8.src hR8.len (by kernel_rfl) (by kernel_rfl) (by omega) (by simp only [maxLen]; omega) (by omega) ?_
  intro g20 a9 c6 st20 hR9
  replace hB1 := hB1.mono st20 (WL.no1 (by omega))
  replace hR1 := hR1.mono st20 (WL.no1 (by omega))
  replace hB2 := hB2.mono st20 (WL.no1 (by omega))
  replace hB3 := hB3.mono st20 (WL.no1 (by omega))
  replace hB13 := hB13.mono st20 (WL.no1 (by omega))
  replace hR8 := hR8.mono st20 (WL.no1 (by omega)) (WL.no1 (by omega))
  replace tot := tot.trans (st20.up1 (.inr (by omega)))
  refine WP.stl 1 ?_
  refine WP.storeB (ty := 24) (off := 11) (v := .slice a9 (n2 + 1) c6) hB3 [[.slice a9 (n2 + 1) c6]] [1] (by kernel_rfl) (by kernel_rfl) rfl (by kernel_rfl) [encA .u8 d1, [.int .i64 x1], encA .i64 d2, [.slice a9 (n2 + 1) c6]] (by kernel_rfl) (.one rfl .nil) ?_
  intro g21 st21 hB15
  replace hB1 := hB1.mono st21 (WL.no1 (by omega))
  replace hR1 := hR1.mono st21 (WL.no1 (by omega))
  replace hB2 := hB2.mono st21 (WL.no1 (by omega))
  replace hR9 := hR9.mono st21 (WL.no1 (by omega)) (WL.no1 (by omega))
  replace hB13 := hB13.mono st21 (WL.no1 (by omega))
  replace hR8 := hR8.mono st21 (WL.no1 (by omega)) (WL.no1 (by omega))
  replace tot := tot.trans (st21.up1 (.inr (by omega)))
  clear hB3
  have hB3 := hB15
  clear hB15
  refine WP.dn ?_
  refine NX.block_n ?_
  refine NX.then_n ?_
  refine CP.refr 40 [(1, .pointer (some ⟨b1, 0, none⟩)), (2, .pointer (some ⟨b2, 0, none⟩)), (3, .pointer (some ⟨b3, 0, none⟩)), (4, .int .i64 x2)] (by kernel_rfl) (by kernel_rfl) ?_
  clear ds
  intro ds
  refine CP.region ?_
  refine WP.stl 3 ?_
  refine WP.dn ?_
  refine NX.post ?_
  exact ⟨(l2 ++ [(⟨(getI l1 x2).f1, (getI l1 x2).f2, (getI l1 x2).f3, (getI l1 x2).f4⟩ : S_baizeref47_Held)]), a9, (n2 + 1), c6, (IntKind.i64.wrap (x2 + 1)), ⟨by kernel_rfl, by kernel_rfl⟩, tot, hB1, hR1, hB2, hB3, hR9, hs⟩
 replace hs := of_if_f hs h3
 refine CP.exit ?_
 refine NX.then_e ?_
 refine NX.then_e ?_
 refine NX.block_s ?_
 refine NX.then_n ?_
 refine CP.seqR ?_
 refine WP.loadB (v := AG [encA .u8 d1, [.int .i64 x1], encA .i64 d2, [.slice a4 n2 c3]]) hB3 (by kernel_rfl) (by kernel_rfl) ?_
 refine WP.storeB (ty := 26) (off := 0) (v := AG [encA .u8 d1, [.int .i64 x1], encA .i64 d2, [.slice a4 n2 c3]]) hB2 [encA .u8 d1, [.int .i64 x1], encA .i64 d2, [.slice a4 n2 c3]] [8, 1, 2, 1] (by kernel_rfl) (by kernel_rfl) (by simp [len_encA]) (by kernel_rfl) [encA .u8 d1, [.int .i64 x1], encA .i64 d2, [.slice a4 n2 c3]] (by kernel_rfl) (.arr (.one rfl (.arr (.one rfl .nil)))) ?_
 intro g22 st22 hB16
 replace hR4 := hR4.mono st22 (WL.no1 (by omega)) (WL.no1 (by omega))
 replace hB3 := hB3.mono st22 (WL.no1 (by omega))
 replace tot := tot.trans (st22.up1 (.inr (by omega)))
 clear hB2
 have hB2 := hB16
 clear hB16
 refine WP.dn ?_
 refine NX.then_n ?_
 refine CP.ret ?_
 obtain ⟨g23, hw1, st23, hnew⟩ := hR4.relab (by omega) r0
 refine NX.regw hw1 ?_
 replace hB2 := hB2.mono st23 (WL.no1 (by omega))
 replace tot := tot.trans (st23.up1 (.inr (by omega)))
 clear hR4
 have hR4 := hnew
 clear hnew
 replace hs := Option.some.inj hs
 simp only [Prod.mk.injEq] at hs
 obtain ⟨rfl, rfl, rfl, rfl⟩ := hs
 exact NX.fin (v := AG [encA .u8 d1, [.int .i64 x1], encA .i64 d2, [.slice a4 n2 c3]]) (Res.one rfl (RV.box (agg := true) (size := 12) (rs := [encA .u8 d1, [.int .i64 x1], encA .i64 d2, [.slice a4 n2 c3]]) hB2 (by kernel_rfl) (by kernel_rfl) (by kernel_rfl) (by kernel_rfl))) tot htL ⟨a4, n2, c3, rfl, hR4⟩
def N.baizeref47_Same_0 : List (List Nat) := [[], [0], [], [0, 1, 2], [0, 1, 2, 3], [], [5], [], [5, 6, 7], [5, 6, 7, 8], [0, 1, 2, 3, 4, 5, 6, 7, 8, 9]]
def F.baizeref47_Same.l1 (l1 : List S_baizeref47_Held) (l2 : List S_baizeref47_Held) : Nat → Int → Option (Bool)
 | 0, _ => none
 | k + 1, x3 => (if decide (x3 < (l1.length : Int)) = true then (if (0 : Int) ≤ x3 ∧ x3 < (l1.length : Int) then (if (0 : Int) ≤ x3 ∧ x3 < (l2.length : Int) then (if (!((((getI l1 x3).f1).1 == ((getI l2 x3).f1).1) && ((((getI l1 x3).f2) == ((getI l2 x3).f2)) && ((((getI l1 x3).f3) == ((getI l2 x3).f3)) && (((getI l1 x3).f4) == ((getI l2 x3).f4)))))) = true then (some false) else (F.baizeref47_Same.l1 l1 l2 k (IntKind.i64.wrap (x3 + 1)))) else none) else none) else (some true))
def F.baizeref47_Same.c1 (l1 : List S_baizeref47_Held) (l2 : List S_baizeref47_Held) (q1 : Bool) : Option (Bool) := (if q1 = true then (some false) else (F.baizeref47_Same.l1 l1 l2 fuel 0))
def F.baizeref47_Same (d1 : Arr Int 8) (x1 : Int) (d2 : Arr Int 2) (l1 : List S_baizeref47_Held) (d3 : Arr Int 8) (x2 : Int) (d4 : Arr Int 2) (l2 : List S_baizeref47_Held) : Option (Bool) := (if (!(d1.1 == d3.1)) = true then (F.baizeref47_Same.c1 l1 l2 true) else (if (x1 != x2) = true then (F.baizeref47_Same.c1 l1 l2 true) else (if (!(d2.1 == d4.1)) = true then (F.baizeref47_Same.c1 l1 l2 true) else (F.baizeref47_Same.c1 l1 l2 ((l1.length : Int) != (l2.length : Int))))))
theorem P.baizeref47_Same (g0 : GW) (d1 : Arr Int 8) (x1 : Int) (d2 : Arr Int 2) (l1 : List S_baizeref47_Held) (d3 : Arr Int 8) (x2 : Int) (d4 : Arr Int 2) (l2 : List S_baizeref47_Held) (a1 : Option Addr) (n1 : Nat) (c1 : Nat) (a2 : Option Addr) (n2 : Nat) (c2 : Nat) (hR1 : RdS k_S_baizeref47_Held g0 60 a1 n1 c1 l1) (hR2 : RdS k_S_baizeref47_Held g0 60 a2 n2 c2 l2) (o1 : Bool) (hs : F.baizeref47_Same d1 x1 d2 l1 d3 x2 d4 l2 = some o1) :
  Calls Try.prog 18 #[AG [encA .u8 d1, [.int .i64 x1], encA .i64 d2, [.slice a1 n1 c1]], AG [encA .u8 d3, [.int .i64 x2], encA .i64 d4, [.slice a2 n2 c2]]] g0.w (Ret NoM g0 fun v g => v = .bool o1) := by
 refine calls_of (args := [AG [encA .u8 d1, [.int .i64 x1], encA .i64 d2, [.slice a1 n1 c1]], AG [encA .u8 d3, [.int .i64 x2], encA .i64 d4, [.slice a2 n2 c2]]]) Try.func18 rfl (0) ?_
 intro t ht htL
 refine ⟨_, rfl, ?_⟩
 refine CP.refr 52 [(0, AG [encA .u8 d1, [.int .i64 x1], encA .i64 d2, [.slice a1 n1 c1]]), (1, AG [encA .u8 d3, [.int .i64 x2], encA .i64 d4, [.slice a2 n2 c2]])] (by kernel_rfl) (by kernel_rfl) ?_
 intro ds
 have tot : Step (fun l => NoM l ∨ t ≤ l) g0 g0 := Step.refl _ _
 unfold F.baizeref47_Same at hs
 refine CP.seqR ?_
 refine WP.alloc (T := 26) (t + 1) [encA .u8 d1, [.int .i64 x1], encA .i64 d2, [.slice a1 n1 c1]] [8, 1, 2, 1] (by kernel_rfl) (by simp [len_encA]) ?_
 intro g1 b1 st1 hB1
 replace hR1 := hR1.mono st1 (fun x => x)
 replace hR2 := hR2.mono st1 (fun x => x)
 replace tot := tot.trans st1.pure
 refine WP.alloc (T := 26) (t + 2) [encA .u8 d3, [.int .i64 x2], encA .i64 d4, [.slice a2 n2 c2]] [8, 1, 2, 1] (by kernel_rfl) (by simp [len_encA]) ?_
 intro g2 b2 st2 hB2
 replace hR1 := hR1.mono st2 (fun x => x)
 replace hR2 := hR2.mono st2 (fun x => x)
 replace hB1 := hB1.mono st2 (fun x => x)
 replace tot := tot.trans st2.pure
 refine WP.stl 1 ?_
 refine WP.dn ?_
 refine NX.then_n ?_
 refine CP.seq ?_
 refine CP.cut (fun tm g => ∃ (q1 : Bool), Fr 52 [(2, .pointer (some ⟨b1, 0, none⟩)), (3, .pointer (some ⟨b2, 0, none⟩)), (33, .bool q1)] tm ∧ Step (fun l => NoM l ∨ t ≤ l) g0 g ∧ Box g (t + 1) b1 26 [encA .u8 d1, [.int .i64 x1], encA .i64 d2, [.slice a1 n1 c1]] [8, 1, 2, 1] ∧ RdS k_S_baizeref47_Held g 60 a1 n1 c1 l1 ∧ Box g (t + 2) b2 26 [encA .u8 d3, [.int .i64 x2], encA .i64 d4, [.slice a2 n2 c2]] [8, 1, 2, 1] ∧ RdS k_S_baizeref47_Held g 60 a2 n2 c2 l2 ∧ (F.baizeref47_Same.c1 l1 l2 q1) = some o1) ?_ ?_
 ·refine CP.region ?_
  refine WP.stl 1 ?_
  refine WP.loadB (v := AG [encA .u8 d1]) hB1 (by kernel_rfl) (by kernel_rfl) ?_
  refine WP.stl 1 ?_
  refine WP.loadB (v := AG [encA .u8 d3]) hB2 (by kernel_rfl) (by kernel_rfl) ?_
  refine WP.neV (by kernel_rfl) (by kernel_rfl) (EqV.arr (d := 9998) (t := 22) (e := 5) (m := 8) (k := .u8) (x := d1) (y := d3) (by kernel_rfl) (by kernel_rfl)) ?_
  refine WP.stl 1 ?_
  refine WP.guard 11 (b := (!(d1.1 == d3.1))) (by kernel_rfl) (fun h11 => ?_) (fun h11 => ?_)
  ·replace hs := of_if_t hs h11
   refine WP.stl 22 ?_
   refine WP.dn ?_
   refine NX.post ?_
   exact ⟨true, ⟨by kernel_rfl, by kernel_rfl⟩, tot, hB1, hR1, hB2, hR2, hs⟩
  replace hs := of_if_f hs h11
  refine WP.stl 1 ?_
  refine WP.loadB (v := .int .i64 x1) hB1 (by kernel_rfl) (by kernel_rfl) ?_
  refine WP.stl 1 ?_
  refine WP.loadB (v := .int .i64 x2) hB2 (by kernel_rfl) (by kernel_rfl) ?_
  refine WP.stl 3 ?_
  refine WP.guard 18 (b := (x1 != x2)) (by kernel_rfl) (fun h12 => ?_) (fun h12 => ?_)
  ·replace hs := of_if_t hs h12
   refine WP.stl 15 ?_
   refine WP.dn ?_
   refine NX.post ?_
   exact ⟨true, ⟨by kernel_rfl, by kernel_rfl⟩, tot, hB1, hR1, hB2, hR2, hs⟩
  replace hs := of_if_f hs h12
  refine WP.stl 1 ?_
  refine WP.loadB (v := AG [encA .i64 d2]) hB1 (by kernel_rfl) (by kernel_rfl) ?_
  refine WP.stl 1 ?_
  refine WP.loadB (v := AG [encA .i64 d4]) hB2 (by kernel_rfl) (by kernel_rfl) ?_
  refine WP.neV (by kernel_rfl) (by kernel_rfl) (EqV.arr (d := 9998) (t := 23) (e := 3) (m := 2) (k := .i64) (x := d2) (y := d4) (by kernel_rfl) (by kernel_rfl)) ?_
  refine WP.stl 2 ?_
  refine WP.guard 25 (b := (!(d2.1 == d4.1))) (by kernel_rfl) (fun h13 => ?_) (fun h13 => ?_)
  ·replace hs := of_if_t hs h13
   refine WP.stl 8 ?_
   refine WP.dn ?_
   refine NX.post ?_
   exact ⟨true, ⟨by kernel_rfl, by kernel_rfl⟩, tot, hB1, hR1, hB2, hR2, hs⟩
  replace hs := of_if_f hs h13
  refine WP.stl 1 ?_
  refine WP.loadB (v := .slice a1 n1 c1) hB1 (by kernel_rfl) (by kernel_rfl) ?_
  refine WP.len (a := a1) (cp := c1) hR1.len (by kernel_rfl) ?_
  refine WP.stl 1 ?_
  refine WP.loadB (v := .slice a2 n2 c2) hB2 (by kernel_rfl) (by kernel_rfl) ?_
  refine WP.len (a := a2) (cp := c2) hR2.len (by kernel_rfl) ?_
  refine WP.stl 2 ?_
  refine WP.dn ?_
  refine NX.post ?_
  exact ⟨((l1.length : Int) != (l2.length : Int)), ⟨by kernel_rfl, by kernel_rfl⟩, tot, hB1, hR1, hB2, hR2, hs⟩
 clear tot hs hB1 hR1 hB2 hR2
 rintro tm g ⟨q1, hF, tot, hB1, hR1, hB2, hR2, hs⟩
 clear ds
 obtain ⟨ds, rfl⟩ := hF.open
 clear hF
 unfold F.baizeref47_Same.c1 at hs
 refine CP.cond (b := q1) (by kernel_rfl) (fun h4 => ?_) (fun h4 => ?_)
 ·replace hs := of_if_t hs h4
  refine CP.seqR ?_
  refine WP.stl 1 ?_
  refine WP.dn ?_
  refine NX.then_n ?_
  refine CP.ret ?_
  refine NX.then_r ?_
  replace hs := Option.some.inj hs
  obtain rfl := hs
  exact NX.fin (v := .bool false) (Res.still (by kernel_rfl)) tot htL rfl
 replace hs := of_if_f hs h4
 refine CP.skip ?_
 refine NX.then_n ?_
 refine CP.seq ?_
 refine CP.seqR ?_
 refine WP.stl 1 ?_
 refine WP.dn ?_
 refine NX.then_n ?_
 refine CP.block ?_
 generalize fuel = k1 at hs
 refine CP.loop (fun k1 tm g => ∃ (x3 : Int), Fr 52 [(2, .pointer (some ⟨b1, 0, none⟩)), (3, .pointer (some ⟨b2, 0, none⟩)), (5, .int .i64 x3)] tm ∧ Step (fun l => NoM l ∨ t ≤ l) g0 g ∧ Box g (t + 1) b1 26 [encA .u8 d1, [.int .i64 x1], encA .i64 d2, [.slice a1 n1 c1]] [8, 1, 2, 1] ∧ RdS k_S_baizeref47_Held g 60 a1 n1 c1 l1 ∧ Box g (t + 2) b2 26 [encA .u8 d3, [.int .i64 x2], encA .i64 d4, [.slice a2 n2 c2]] [8, 1, 2, 1] ∧ RdS k_S_baizeref47_Held g 60 a2 n2 c2 l2 ∧ F.baizeref47_Same.l1 l1 l2 k1 x3 = some o1) k1 ?_ ?_ ?_
 ·exact ⟨0, ⟨by kernel_rfl, by kernel_rfl⟩, tot, hB1, hR1, hB2, hR2, hs⟩
 ·rintro tm g ⟨x3, hF, tot, hB1, hR1, hB2, hR2, hs⟩
  exact absurd hs (by simp [F.baizeref47_Same.l1])
 clear tot hs hB1 hR1 hB2 hR2
 rintro k1 tm g ⟨x3, hF, tot, hB1, hR1, hB2, hR2, hs⟩
 clear ds
 obtain ⟨ds, rfl⟩ := hF.open
 clear hF
 unfold F.baizeref47_Same.l1 at hs
 refine CP.seq ?_
 refine CP.seqR ?_
 refine WP.stl 2 ?_
 refine WP.loadB (v := .slice a1 n1 c1) hB1 (by kernel_rfl) (by kernel_rfl) ?_
 refine WP.len (a := a1) (cp := c1) hR1.len (by kernel_rfl) ?_
 refine WP.stl 1 ?_
 refine WP.dn ?_
 refine NX.then_n ?_
 refine CP.cond (b := decide (x3 < (l1.length : Int))) (by kernel_rfl) (fun h9 => ?_) (fun h9 => ?_)
 ·replace hs := of_if_t hs h9
  refine CP.skip ?_
  refine NX.then_n ?_
  refine CP.seq ?_
  refine CP.block ?_
  refine CP.seq ?_
  by_cases hc5 : (0 : Int) ≤ x3 ∧ x3 < (l1.length : Int)
  case neg => rw [if_neg hc5] at hs; cases hs
  replace hs := of_if_p hs hc5
  by_cases hc6 : (0 : Int) ≤ x3 ∧ x3 < (l2.length : Int)
  case neg => rw [if_neg hc6] at hs; cases hs
  replace hs := of_if_p hs hc6
  obtain ⟨b7, u5, ha5⟩ := hR1.at hc5
  obtain ⟨b8, u6, ha6⟩ := hR2.at hc6
  refine CP.drawL (by kernel_rfl) [1, 3, 4, 6, 8, 9, 10] N.baizeref47_Same_0 [⟨none, [], [], fun l g => Box g (t + 1) b1 26 [encA .u8 d1, [.int .i64 x1], encA .i64 d2, [.slice a1 n1 c1]] [8, 1, 2, 1]⟩, ⟨none, [], [], fun l g => RdS k_S_baizeref47_Held g 60 a1 n1 c1 l1⟩, ⟨none, [], [], fun l g => Box g (t + 2) b2 26 [encA .u8 d3, [.int .i64 x2], encA .i64 d4, [.slice a2 n2 c2]] [8, 1, 2, 1]⟩, ⟨none, [], [], fun l g => RdS k_S_baizeref47_Held g 60 a2 n2 c2 l2⟩, ⟨some 0, [], [0], fun l g => l.getD 0 undef = .slice a1 n1 c1⟩, ⟨some 1, [], [1], fun l g => l.getD 0 undef = .pointer (some ⟨b7, u5 + x3.toNat * 11, none⟩)⟩, ⟨some 2, [], [2], fun l g => l.getD 0 undef = AG [encA .u8 ((getI l1 x3).f1), [.int .i64 ((getI l1 x3).f2)], [.int .i64 ((getI l1 x3).f3)], [.int .i64 ((getI l1 x3).f4)]]⟩, ⟨some 3, [], [3], fun l g => l.getD 0 undef = .slice a2 n2 c2⟩, ⟨some 4, [], [4], fun l g => l.getD 0 undef = .pointer (some ⟨b8, u6 + x3.toNat * 11, none⟩)⟩, ⟨some 5, [], [5], fun l g => l.getD 0 undef = AG [encA .u8 ((getI l2 x3).f1), [.int .i64 ((getI l2 x3).f2)], [.int .i64 ((getI l2 x3).f3)], [.int .i64 ((getI l2 x3).f4)]]⟩, ⟨some 6, [], [6], fun l g => l.getD 0 undef = .bool (!((((getI l1 x3).f1).1 == ((getI l2 x3).f1).1) && ((((getI l1 x3).f2) == ((getI l2 x3).f2)) && ((((getI l1 x3).f3) == ((getI l2 x3).f3)) && (((getI l1 x3).f4) == ((getI l2 x3).f4))))))⟩] [[], [], [], [], [], [], []] [] [0, 2, 5, 7] [] (by kernel_rfl) (by simp) (by simp) ⟨fun _ _ _ _ st h0 hl hj hB1 => (hB1.mono st (fun h => absurd (hl _ h) (by simp))), fun _ _ _ _ st h0 hl hj hR1 => (RdS.mono (e := 60) hR1 st h0), fun _ _ _ _ st h0 hl hj hB2 => (hB2.mono st (fun h => absurd (hl _ h) (by simp))), fun _ _ _ _ st h0 hl hj hR2 => (RdS.mono (e := 60) hR2 st h0), fun _ _ _ _ st h0 hl hj e0 => e0, fun _ _ _ _ st h0 hl hj e1 => e1, fun _ _ _ _ st h0 hl hj e2 => e2, fun _ _ _ _ st h0 hl hj e3 => e3, fun _ _ _ _ st h0 hl hj e4 => e4, fun _ _ _ _ st h0 hl hj e5 => e5, fun _ _ _ _ st h0 hl hj e6 => e6, tv⟩ ⟨hB1, hR1, hB2, hR2, tv, tv, tv, tv, tv, tv, tv, tv⟩ (by kernel_rfl) (fun vs => by kernel_rfl) ?_ ?_ ?_
  ·intro j hj; exact absurd hj (by simp)
  ·intro j hj
   have hq : j = 0 ∨ j = 1 ∨ j = 2 ∨ j = 3 ∨ j = 4 ∨ j = 5 ∨ j = 6 := by have h : j < 7 := hj; omega
   rcases hq with rfl | rfl | rfl | rfl | rfl | rfl | rfl
   ·intro vs gq stq hl hf
    obtain ⟨v0, v1, v2, v3, v4, v5, v6, rfl⟩ := len_k7 hl
    have hB1 := (show Box gq (t + 1) b1 26 [encA .u8 d1, [.int .i64 x1], encA .i64 d2, [.slice a1 n1 c1]] [8, 1, 2, 1] from hf _ (memI 0 rfl) (by kernel_rfl))
    refine WP.loadB (v := .slice a1 n1 c1) hB1 (by kernel_rfl) (by kernel_rfl) ?_
    refine WP.dn (Shown.ok (v := .slice a1 n1 c1) (by kernel_rfl) (Step.refl _ _) ?_)
    exact ⟨tv, tv, tv, tv, rfl, tv, tv, tv, tv, tv, tv, tv⟩
   ·intro vs gq stq hl hf
    obtain ⟨v0, v1, v2, v3, v4, v5, v6, rfl⟩ := len_k7 hl
    have hR1 := (show RdS k_S_baizeref47_Held gq 60 a1 n1 c1 l1 from hf _ (memI 1 rfl) (by kernel_rfl))
    have e0 := (show v0 = .slice a1 n1 c1 from hf _ (memI 4 rfl) (by kernel_rfl))
    subst e0
    refine WP.indexA (t := 24) (e := 60) (sz := 11) (cap := c1) (k := .i64) (i := x3) hR1.len ha5 (by kernel_rfl) (by kernel_rfl) hc5 ?_
    refine WP.dn (Shown.ok (v := .pointer (some ⟨b7, u5 + x3.toNat * 11, none⟩)) (by kernel_rfl) (Step.refl _ _) ?_)
    exact ⟨tv, tv, tv, tv, tv, rfl, tv, tv, tv, tv, tv, tv⟩
   ·intro vs gq stq hl hf
    obtain ⟨v0, v1, v2, v3, v4, v5, v6, rfl⟩ := len_k7 hl
    have hR1 := (show RdS k_S_baizeref47_Held gq 60 a1 n1 c1 l1 from hf _ (memI 1 rfl) (by kernel_rfl))
    have e1 := (show v1 = .pointer (some ⟨b7, u5 + x3.toNat * 11, none⟩) from hf _ (memI 5 rfl) (by kernel_rfl))
    subst e1
    obtain ⟨cs5, hcR5, hcV5⟩ := hR1.src.view (getI_some hc5) ha5
    replace hcR5 := k_S_baizeref47_Held.opn hcR5
    refine WP.loadV [encA .u8 ((getI l1 x3).f1), [.int .i64 ((getI l1 x3).f2)], [.int .i64 ((getI l1 x3).f3)], [.int .i64 ((getI l1 x3).f4)]] [8, 1, 1, 1] hcV5 hcR5 (by simp [len_encA]) (f := 0) (ty := 60) (agg := true) (size := 11) (rs := [encA .u8 ((getI l1 x3).f1), [.int .i64 ((getI l1 x3).f2)], [.int .i64 ((getI l1 x3).f3)], [.int .i64 ((getI l1 x3).f4)]]) (v := AG [encA .u8 ((getI l1 x3).f1), [.int .i64 ((getI l1 x3).f2)], [.int .i64 ((getI l1 x3).f3)], [.int .i64 ((getI l1 x3).f4)]]) (by kernel_rfl) (by kernel_rfl) (by kernel_rfl) (by kernel_rfl) ?_
    refine WP.dn (Shown.ok (v := AG [encA .u8 ((getI l1 x3).f1), [.int .i64 ((getI l1 x3).f2)], [.int .i64 ((getI l1 x3).f3)], [.int .i64 ((getI l1 x3).f4)]]) (by kernel_rfl) (Step.refl _ _) ?_)
    exact ⟨tv, tv, tv, tv, tv, tv, rfl, tv, tv, tv, tv, tv⟩
   ·intro vs gq stq hl hf
    obtain ⟨v0, v1, v2, v3, v4, v5, v6, rfl⟩ := len_k7 hl
    have hB2 := (show Box gq (t + 2) b2 26 [encA .u8 d3, [.int .i64 x2], encA .i64 d4, [.slice a2 n2 c2]] [8, 1, 2, 1] from hf _ (memI 2 rfl) (by kernel_rfl))
    refine WP.loadB (v := .slice a2 n2 c2) hB2 (by kernel_rfl) (by kernel_rfl) ?_
    refine WP.dn (Shown.ok (v := .slice a2 n2 c2) (by kernel_rfl) (Step.refl _ _) ?_)
    exact ⟨tv, tv, tv, tv, tv, tv, tv, rfl, tv, tv, tv, tv⟩
   ·intro vs gq stq hl hf
    obtain ⟨v0, v1, v2, v3, v4, v5, v6, rfl⟩ := len_k7 hl
    have hR2 := (show RdS k_S_baizeref47_Held gq 60 a2 n2 c2 l2 from hf _ (memI 3 rfl) (by kernel_rfl))
    have e3 := (show v3 = .slice a2 n2 c2 from hf _ (memI 7 rfl) (by kernel_rfl))
    subst e3
    refine WP.indexA (t := 24) (e := 60) (sz := 11) (cap := c2) (k := .i64) (i := x3) hR2.len ha6 (by kernel_rfl) (by kernel_rfl) hc6 ?_
    refine WP.dn (Shown.ok (v := .pointer (some ⟨b8, u6 + x3.toNat * 11, none⟩)) (by kernel_rfl) (Step.refl _ _) ?_)
    exact ⟨tv, tv, tv, tv, tv, tv, tv, tv, rfl, tv, tv, tv⟩
   ·intro vs gq stq hl hf
    obtain ⟨v0, v1, v2, v3, v4, v5, v6, rfl⟩ := len_k7 hl
    have hR2 := (show RdS k_S_baizeref47_Held gq 60 a2 n2 c2 l2 from hf _ (memI 3 rfl) (by kernel_rfl))
    have e4 := (show v4 = .pointer (some ⟨b8, u6 + x3.toNat * 11, none⟩) from hf _ (memI 8 rfl) (by kernel_rfl))
    subst e4
    obtain ⟨cs6, hcR6, hcV6⟩ := hR2.src.view (getI_some hc6) ha6
    replace hcR6 := k_S_baizeref47_Held.opn hcR6
    refine WP.loadV [encA .u8 ((getI l2 x3).f1), [.int .i64 ((getI l2 x3).f2)], [.int .i64 ((getI l2 x3).f3)], [.int .i64 ((getI l2 x3).f4)]] [8, 1, 1, 1] hcV6 hcR6 (by simp [len_encA]) (f := 0) (ty := 60) (agg := true) (size := 11) (rs := [encA .u8 ((getI l2 x3).f1), [.int .i64 ((getI l2 x3).f2)], [.int .i64 ((getI l2 x3).f3)], [.int .i64 ((getI l2 x3).f4)]]) (v := AG [encA .u8 ((getI l2 x3).f1), [.int .i64 ((getI l2 x3).f2)], [.int .i64 ((getI l2 x3).f3)], [.int .i64 ((getI l2 x3).f4)]]) (by kernel_rfl) (by kernel_rfl) (by kernel_rfl) (by kernel_rfl) ?_
    refine WP.dn (Shown.ok (v := AG [encA .u8 ((getI l2 x3).f1), [.int .i64 ((getI l2 x3).f2)], [.int .i64 ((getI l2 x3).f3)], [.int .i64 ((getI l2 x3).f4)]]) (by kernel_rfl) (Step.refl _ _) ?_)
    exact ⟨tv, tv, tv, tv, tv, tv, tv, tv, tv, rfl, tv, tv⟩
   ·intro vs gq stq hl hf
    obtain ⟨v0, v1, v2, v3, v4, v5, v6, rfl⟩ := len_k7 hl
    have e2 := (show v2 = AG [encA .u8 ((getI l1 x3).f1), [.int .i64 ((getI l1 x3).f2)], [.int .i64 ((getI l1 x3).f3)], [.int .i64 ((getI l1 x3).f4)]] from hf _ (memI 6 rfl) (by kernel_rfl))
    subst e2
    have e5 := (show v5 = AG [encA .u8 ((getI l2 x3).f1), [.int .i64 ((getI l2 x3).f2)], [.int .i64 ((getI l2 x3).f3)], [.int .i64 ((getI l2 x3).f4)]] from hf _ (memI 9 rfl) (by kernel_rfl))
    subst e5
    refine WP.neV (by kernel_rfl) (by kernel_rfl) (EqV.struct (d := 9999) (t := 60) (xs := [encA .u8 ((getI l1 x3).f1), [.int .i64 ((getI l1 x3).f2)], [.int .i64 ((getI l1 x3).f3)], [.int .i64 ((getI l1 x3).f4)]]) (ys := [encA .u8 ((getI l2 x3).f1), [.int .i64 ((getI l2 x3).f2)], [.int .i64 ((getI l2 x3).f3)], [.int .i64 ((getI l2 x3).f4)]]) (by kernel_rfl) (by kernel_rfl) (EqFi.cons (ns := [8, 1, 1, 1]) (ms := [8, 1, 1, 1]) (t' := 22) (x := AG [encA .u8 ((getI l1 x3).f1)]) (y := AG [encA .u8 ((getI l2 x3).f1)]) (by simp [len_encA]) (by simp [len_encA]) (by kernel_rfl) (by kernel_rfl) (EqV.arr (d := 9997) (t := 22) (e := 5) (m := 8) (k := .u8) (x := (getI l1 x3).f1) (y := (getI l2 x3).f1) (by kernel_rfl) (by kernel_rfl)) (EqFi.cons (ns := [8, 1, 1, 1]) (ms := [8, 1, 1, 1]) (t' := 3) (x := .int .i64 ((getI l1 x3).f2)) (y := .int .i64 ((getI l2 x3).f2)) (by simp [len_encA]) (by simp [len_encA]) (by kernel_rfl) (by kernel_rfl) (EqV.int (d := 9998) (k' := .i64) (by kernel_rfl)) (EqFi.cons (ns := [8, 1, 1, 1]) (ms := [8, 1, 1, 1]) (t' := 3) (x := .int .i64 ((getI l1 x3).f3)) (y := .int .i64 ((getI l2 x3).f3)) (by simp [len_encA]) (by simp [len_encA]) (by kernel_rfl) (by kernel_rfl) (EqV.int (d := 9998) (k' := .i64) (by kernel_rfl)) (EqFi.one (ns := [8, 1, 1, 1]) (ms := [8, 1, 1, 1]) (t' := 3) (x := .int .i64 ((getI l1 x3).f4)) (y := .int .i64 ((getI l2 x3).f4)) (by simp [len_encA]) (by simp [len_encA]) (by kernel_rfl) (by kernel_rfl) (EqV.int (d := 9998) (k' := .i64) (by kernel_rfl)) (Nat.le_of_ble_eq_true rfl)))))) ?_
    refine WP.dn (Shown.ok (v := .bool (!((((getI l1 x3).f1).1 == ((getI l2 x3).f1).1) && ((((getI l1 x3).f2) == ((getI l2 x3).f2)) && ((((getI l1 x3).f3) == ((getI l2 x3).f3)) && (((getI l1 x3).f4) == ((getI l2 x3).f4))))))) (by kernel_rfl) (Step.refl _ _) ?_)
    exact ⟨tv, tv, tv, tv, tv, tv, tv, tv, tv, tv, rfl, tv⟩
  intro vs g3 st3 hl hf
  obtain ⟨v0, v1, v2, v3, v4, v5, v6, rfl⟩ := len_k7 hl
  have e6 := (show v6 = .bool (!((((getI l1 x3).f1).1 == ((getI l2 x3).f1).1) && ((((getI l1 x3).f2) == ((getI l2 x3).f2)) && ((((getI l1 x3).f3) == ((getI l2 x3).f3)) && (((getI l1 x3).f4) == ((getI l2 x3).f4)))))) from hf _ (memI 10 rfl) (by kernel_rfl))
  subst e6
  replace hB1 := hB1.mono st3.toNo (fun x => x)
  replace hR1 := hR1.mono st3.toNo (fun x => x)
  replace hB2 := hB2.mono st3.toNo (fun x => x)
  replace hR2 := hR2.mono st3.toNo (fun x => x)
  replace tot := tot.trans st3.toNo.pure
  refine NX.then_n ?_
  refine CP.refr 52 [(2, .pointer (some ⟨b1, 0, none⟩)), (3, .pointer (some ⟨b2, 0, none⟩)), (5, .int .i64 x3), (51, .bool (!((((getI l1 x3).f1).1 == ((getI l2 x3).f1).1) && ((((getI l1 x3).f2) == ((getI l2 x3).f2)) && ((((getI l1 x3).f3) == ((getI l2 x3).f3)) && (((getI l1 x3).f4) == ((getI l2 x3).f4)))))))] (by kernel_rfl) (by kernel_rfl) ?_
  clear ds
  intro ds
  refine CP.cond (b := (!((((getI l1 x3).f1).1 == ((getI l2 x3).f1).1) && ((((getI l1 x3).f2) == ((getI l2 x3).f2)) && ((((getI l1 x3).f3) == ((getI l2 x3).f3)) && (((getI l1 x3).f4) == ((getI l2 x3).f4))))))) (by kernel_rfl) (fun h10 => ?_) (fun h10 => ?_)
  ·replace hs := of_if_t hs h10
   refine CP.seqR ?_
   refine WP.stl 1 ?_
   refine WP.dn ?_
   refine NX.then_n ?_
   refine CP.ret ?_
   refine NX.block_r ?_
   refine NX.then_r ?_
   refine NX.then_r ?_
   refine NX.block_r ?_
   refine NX.then_r ?_
   replace hs := Option.some.inj hs
   obtain rfl := hs
   exact NX.fin (v := .bool false) (Res.still (by kernel_rfl)) tot htL rfl
  replace hs := of_if_f hs h10
  refine CP.skip ?_
  refine NX.block_n ?_
  refine NX.then_n ?_
  refine CP.region ?_
  refine WP.stl 3 ?_
  refine WP.dn ?_
  refine NX.post ?_
  exact ⟨(IntKind.i64.wrap (x3 + 1)), ⟨by kernel_rfl, by kernel_rfl⟩, tot, hB1, hR1, hB2, hR2, hs⟩
 replace hs := of_if_f hs h9
 refine CP.exit ?_
 refine NX.then_e ?_
 refine NX.then_e ?_
 refine NX.block_s ?_
 refine NX.then_n ?_
 refine CP.seqR ?_
 refine WP.stl 1 ?_
 refine WP.dn ?_
 refine NX.then_n ?_
 refine CP.ret ?_
 replace hs := Option.some.inj hs
 obtain rfl := hs
 exact NX.fin (v := .bool true) (Res.still (by kernel_rfl)) tot htL rfl
end Go.Proofs.Yticlfbpmfejdoaa
