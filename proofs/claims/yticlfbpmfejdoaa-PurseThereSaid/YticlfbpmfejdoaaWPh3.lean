/-
  Walks, written by program: each Go function computes the plain function of its name, in whatever world its arguments' facts hold.
-/
import Derived.Test.YticlfbpmfejdoaaWPh2
namespace Go.Proofs.Yticlfbpmfejdoaa
open Go.RowKit Go.Lab
attribute [local irreducible] WP CP NX wpList Code.wp Calls
set_option maxRecDepth 100000
set_option maxHeartbeats 4000000
set_option linter.unusedVariables false

def N.purse_Decode_0 : List (List Nat) := [[], [0], [], [2], [], [2, 3, 4], [], [2, 3, 4, 5, 6], [], [2, 3, 4, 5, 6, 7, 8], [2, 3, 4, 5, 6, 7, 8, 9], [2, 3, 4, 5, 6, 7, 8, 9, 10], [0, 1, 2, 3, 4, 5, 6, 7, 8, 9, 10, 11], [0, 1, 2, 3, 4, 5, 6, 7, 8, 9, 10, 11, 12], [0, 1, 2, 3, 4, 5, 6, 7, 8, 9, 10, 11, 12, 13]]
def F.purse_Decode.c1 (d1 : Arr Int 8) (x4 : Int) (x6 : Int) (x8 : Int) (l4 : List S_purse_Held) (x50 : Int) : Option ((Arr Int 8) × Int × (Arr Int 2) × (List S_purse_Held) × Int) := (if (x50 != 0) = true then (some ((zA 8), 0, (zA 2), [], x50)) else (some (d1, x4, (⟨[x6, x8], rfl⟩ : Arr Int 2), l4, 0)))
def F.purse_Decode.l1 (d1 : Arr Int 8) (x4 : Int) (x6 : Int) (x8 : Int) (x10 : Int) : Nat → (List Int) → Int → Int → (List S_purse_Held) → Int → Option ((Arr Int 8) × Int × (Arr Int 2) × (List S_purse_Held) × Int)
  | 0, _, _, _, _, _ => none
  | k + 1, l3, x23, x24, l4, x25 => (if decide (x25 < x10) = true then ((F.purse_reader_name l3 x23 x24).bind fun (d17, d18, x40, x41) => ((F.purse_reader_number d18 x40 x41 1125899906842624).bind fun (x42, d19, x43) => ((F.purse_reader_number d19 x43 x41 1).bind fun (x44, d20, x45) => ((F.purse_reader_number d20 x45 x41 1099511627776).bind fun (x46, d21, x47) => (if l4.length + ([(⟨d17, x42, x44, x46⟩ : S_purse_Held)]).length ≤ 4398046511104 then (F.purse_Decode.l1 d1 x4 x6 x8 x10 k d21 x47 x41 (l4 ++ [(⟨d17, x42, x44, x46⟩ : S_purse_Held)]) (IntKind.i64.wrap (x25 + 1))) else none))))) else ((F.purse_reader_end l3 x23 x24).bind fun x48 => (if (x48 == 0) = true then ((F.purse_Purse_Check d1 x4 (⟨[x6, x8], rfl⟩ : Arr Int 2) l4).bind fun x51 => (F.purse_Decode.c1 d1 x4 x6 x8 l4 x51)) else (F.purse_Decode.c1 d1 x4 x6 x8 l4 x48))))
def F.purse_Decode (l1 : List Int) : Option ((Arr Int 8) × Int × (Arr Int 2) × (List S_purse_Held) × Int) := ((F.octet_NewReader l1).bind fun (l2, x1) => ((F.purse_reader_name l2 x1 0).bind fun (d1, d2, x2, x3) => ((F.purse_reader_number d2 x2 x3 1099511627776).bind fun (x4, d3, x5) => ((F.purse_reader_number d3 x5 x3 1125899906842624).bind fun (x6, d4, x7) => ((F.purse_reader_number d4 x7 x3 1125899906842624).bind fun (x8, d5, x9) => ((F.purse_reader_number d5 x9 x3 16).bind fun (x10, d6, x11) => (F.purse_Decode.l1 d1 x4 x6 x8 x10 fuel d6 x11 x3 ([]) 0)))))))
theorem P.purse_Decode (g0 : GW) (r0 : Nat) (l1 : List Int) (a1 : Option Addr) (n1 : Nat) (c1 : Nat) (hR1 : RdS (Kd.int .u8) g0 5 a1 n1 c1 l1) (o1 : Arr Int 8) (o2 : Int) (o3 : Arr Int 2) (o4 : List S_purse_Held) (o5 : Int) (hs : F.purse_Decode l1 = some (o1, o2, o3, o4, o5)) :
    Calls Try.prog 34 #[.slice a1 n1 c1] g0.w (Ret NoM g0 fun v g => ∃ (a_1 : Option Addr) (n_1 : Nat) (c_1 : Nat), v = .tuple #[AG [encA .u8 o1, [.int .i64 o2], encA .i64 o3, [.slice a_1 n_1 c_1]], .int .i64 o5] ∧ OwnS k_S_purse_Held g r0 56 a_1 n_1 c_1 o4) := by
  refine calls_of (args := [.slice a1 n1 c1]) Try.func34 rfl (r0 + 0) ?_
  intro t ht htL
  refine ⟨_, rfl, ?_⟩
  refine CP.refr 51 [(0, .slice a1 n1 c1)] (by kernel_rfl) (by kernel_rfl) ?_
  intro ds
  have tot : Step (fun l => NoM l ∨ t ≤ l) g0 g0 := Step.refl _ _
  unfold F.purse_Decode at hs
  refine CP.seqR ?_
  refine WP.alloc (T := 32) (t + 1) [encA .u8 (zA 8), [.int .i64 0], encA .i64 (zA 2), [.slice none 0 0]] [8, 1, 2, 1] (by kernel_rfl) (by simp [len_encA]) ?_
  intro g1 b1 st1 hB1
  replace hR1 := hR1.mono st1 (fun x => x)
  replace tot := tot.trans st1.pure
  refine WP.still 1 (by kernel_rfl) ?_
  refine WP.done (by kernel_rfl) ?_
  refine NX.then_n ?_
  refine CP.seqR ?_
  refine WP.still 1 (by kernel_rfl) ?_
  replace hs := Option.bind_eq_some_iff.1 hs
  obtain ⟨⟨l2, x1⟩, hk1, hs⟩ := hs
  dsimp only at hs
  have hcal1 := P.octet_NewReader g1 (t + 2) l1 a1 n1 c1 hR1 l2 x1 hk1
  refine WP.callC hcal1 (by kernel_rfl) ?_
  rintro _ g2 st2 ⟨b2, a2, n2, c2, rfl, hB2, hR2⟩
  replace hR1 := hR1.mono st2 (fun x => x)
  replace hB1 := hB1.mono st2 (fun x => x)
  replace tot := tot.trans st2.pure
  refine WP.still 1 (by kernel_rfl) ?_
  refine WP.alloc (T := 112) (t + 3) [[.pointer (some ⟨b2, 0, none⟩)], [.int .i64 0]] [1, 1] (by kernel_rfl) rfl ?_
  intro g3 b3 st3 hB3
  replace hR1 := hR1.mono st3 (fun x => x)
  replace hB1 := hB1.mono st3 (fun x => x)
  replace hB2 := hB2.mono st3 (fun x => x)
  replace hR2 := hR2.mono st3 (fun x => x)
  replace tot := tot.trans st3.pure
  refine WP.still 1 (by kernel_rfl) ?_
  refine WP.done (by kernel_rfl) ?_
  refine NX.then_n ?_
  refine CP.seqR ?_
  refine WP.still 1 (by kernel_rfl) ?_
  replace hs := Option.bind_eq_some_iff.1 hs
  obtain ⟨⟨d1, d2, x2, x3⟩, hk2, hs⟩ := hs
  dsimp only at hs
  have hcal2 := P.purse_reader_name g3 (t + 3) (t + 2) l2 x1 0 a2 n2 c2 b3 b2 hR2 hB2 hB3 (by omega) (by omega) (by omega) d1 d2 x2 x3 hk2
  refine WP.callC hcal2 (by kernel_rfl) ?_
  rintro _ g4 st4 ⟨a3, n3, c3, rfl, hR3, hB4, hB5⟩
  replace hB1 := hB1.mono st4 (WL.no2 (by omega) (by omega))
  replace tot := tot.trans (st4.up2 (.inr (by omega)) (.inr (by omega)))
  clear hB2
  have hB2 := hB4
  clear hB4
  clear hB3
  have hB3 := hB5
  clear hB5
  refine WP.still 1 (by kernel_rfl) ?_
  replace hs := Option.bind_eq_some_iff.1 hs
  obtain ⟨⟨x4, d3, x5⟩, hk3, hs⟩ := hs
  dsimp only at hs
  have hcal3 := P.purse_reader_number g4 (t + 3) (t + 2) d2 x2 x3 1099511627776 a3 n3 c3 b3 b2 hR3 hB2 hB3 (by omega) (by omega) (by omega) x4 d3 x5 hk3
  refine WP.callC hcal3 (by kernel_rfl) ?_
  rintro _ g5 st5 ⟨a4, n4, c4, rfl, hR4, hB6⟩
  replace hB1 := hB1.mono st5 (WL.no1 (by omega))
  replace hB3 := hB3.mono st5 (WL.no1 (by omega))
  replace tot := tot.trans (st5.up1 (.inr (by omega)))
  clear hB2
  have hB2 := hB6
  clear hB6
  refine WP.still 1 (by kernel_rfl) ?_
  replace hs := Option.bind_eq_some_iff.1 hs
  obtain ⟨⟨x6, d4, x7⟩, hk4, hs⟩ := hs
  dsimp only at hs
  have hcal4 := P.purse_reader_number g5 (t + 3) (t + 2) d3 x5 x3 1125899906842624 a4 n4 c4 b3 b2 hR4 hB2 hB3 (by omega) (by omega) (by omega) x6 d4 x7 hk4
  refine WP.callC hcal4 (by kernel_rfl) ?_
  rintro _ g6 st6 ⟨a5, n5, c5, rfl, hR5, hB7⟩
  replace hB1 := hB1.mono st6 (WL.no1 (by omega))
  replace hB3 := hB3.mono st6 (WL.no1 (by omega))
  replace tot := tot.trans (st6.up1 (.inr (by omega)))
  clear hB2
  have hB2 := hB7
  clear hB7
  refine WP.still 1 (by kernel_rfl) ?_
  replace hs := Option.bind_eq_some_iff.1 hs
  obtain ⟨⟨x8, d5, x9⟩, hk5, hs⟩ := hs
  dsimp only at hs
  have hcal5 := P.purse_reader_number g6 (t + 3) (t + 2) d4 x7 x3 1125899906842624 a5 n5 c5 b3 b2 hR5 hB2 hB3 (by omega) (by omega) (by omega) x8 d5 x9 hk5
  refine WP.callC hcal5 (by kernel_rfl) ?_
  rintro _ g7 st7 ⟨a6, n6, c6, rfl, hR6, hB8⟩
  replace hB1 := hB1.mono st7 (WL.no1 (by omega))
  replace hB3 := hB3.mono st7 (WL.no1 (by omega))
  replace tot := tot.trans (st7.up1 (.inr (by omega)))
  clear hB2
  have hB2 := hB8
  clear hB8
  refine WP.still 1 (by kernel_rfl) ?_
  refine WP.buildS (places := #[(0, 8), (8, 1), (9, 2), (11, 1)]) (t := 32) [encA .u8 (zA 8), [.int .i64 0], encA .i64 (zA 2), [.slice none 0 0]] [8, 1, 2, 1] (by kernel_rfl) (by kernel_rfl) (by simp [len_encA]) (by kernel_rfl) ((.cons (i := 0) (off := 0) (v := AG [encA .u8 d1]) (mid := [encA .u8 d1, [.int .i64 0], encA .i64 (zA 2), [.slice none 0 0]]) [encA .u8 d1] [8] (by kernel_rfl) (by kernel_rfl) (by simp [len_encA]) (by kernel_rfl) (.cons (i := 1) (off := 8) (v := .int .i64 x4) (mid := [encA .u8 d1, [.int .i64 x4], encA .i64 (zA 2), [.slice none 0 0]]) [[.int .i64 x4]] [1] (by kernel_rfl) (by kernel_rfl) rfl (by kernel_rfl) (.cons (i := 2) (off := 9) (v := AG [encA .i64 (⟨[x6, x8], rfl⟩ : Arr Int 2)]) (mid := [encA .u8 d1, [.int .i64 x4], encA .i64 (⟨[x6, x8], rfl⟩ : Arr Int 2), [.slice none 0 0]]) [encA .i64 (⟨[x6, x8], rfl⟩ : Arr Int 2)] [2] (by kernel_rfl) (by kernel_rfl) (by simp [len_encA]) (by kernel_rfl) .nil)))) ?_
  refine WP.alloc (T := 32) (t + 4) [encA .u8 (zA 8), [.int .i64 0], encA .i64 (zA 2), [.slice none 0 0]] [8, 1, 2, 1] (by kernel_rfl) (by simp [len_encA]) ?_
  intro g8 b4 st8 hB9
  replace hB1 := hB1.mono st8 (fun x => x)
  replace hB3 := hB3.mono st8 (fun x => x)
  replace hB2 := hB2.mono st8 (fun x => x)
  replace hR6 := hR6.mono st8 (fun x => x)
  replace tot := tot.trans st8.pure
  refine WP.storeB (ty := 32) (off := 0) (v := AG [encA .u8 d1, [.int .i64 x4], encA .i64 (⟨[x6, x8], rfl⟩ : Arr Int 2), [.slice none 0 0]]) hB9 [encA .u8 d1, [.int .i64 x4], encA .i64 (⟨[x6, x8], rfl⟩ : Arr Int 2), [.slice none 0 0]] [8, 1, 2, 1] (by kernel_rfl) (by kernel_rfl) (by simp [len_encA]) (by kernel_rfl) [encA .u8 d1, [.int .i64 x4], encA .i64 (⟨[x6, x8], rfl⟩ : Arr Int 2), [.slice none 0 0]] (by kernel_rfl) (.arr (.one rfl (.arr (.one rfl .nil)))) ?_
  intro g9 st9 hB10
  replace hB1 := hB1.mono st9 (WL.no1 (by omega))
  replace hB3 := hB3.mono st9 (WL.no1 (by omega))
  replace hB2 := hB2.mono st9 (WL.no1 (by omega))
  replace hR6 := hR6.mono st9 (WL.no1 (by omega))
  replace tot := tot.trans (st9.up1 (.inr (by omega)))
  clear hB9
  have hB9 := hB10
  clear hB10
  refine WP.done (by kernel_rfl) ?_
  refine NX.then_n ?_
  refine CP.refr 51 [(2, .pointer (some ⟨b1, 0, none⟩)), (4, .pointer (some ⟨b3, 0, none⟩)), (5, .pointer (some ⟨b4, 0, none⟩))] (by kernel_rfl) (by kernel_rfl) ?_
  clear ds
  intro ds
  refine CP.seq ?_
  refine CP.seqR ?_
  refine WP.still 1 (by kernel_rfl) ?_
  replace hs := Option.bind_eq_some_iff.1 hs
  obtain ⟨⟨x10, d6, x11⟩, hk6, hs⟩ := hs
  dsimp only at hs
  have hcal6 := P.purse_reader_number g9 (t + 3) (t + 2) d5 x9 x3 16 a6 n6 c6 b3 b2 hR6 hB2 hB3 (by omega) (by omega) (by omega) x10 d6 x11 hk6
  refine WP.callC hcal6 (by kernel_rfl) ?_
  rintro _ g10 st10 ⟨a7, n7, c7, rfl, hR7, hB11⟩
  replace hB1 := hB1.mono st10 (WL.no1 (by omega))
  replace hB3 := hB3.mono st10 (WL.no1 (by omega))
  replace hB9 := hB9.mono st10 (WL.no1 (by omega))
  replace tot := tot.trans (st10.up1 (.inr (by omega)))
  clear hB2
  have hB2 := hB11
  clear hB11
  refine WP.still 1 (by kernel_rfl) ?_
  refine WP.done (by kernel_rfl) ?_
  refine NX.then_n ?_
  refine CP.block ?_
  generalize fuel = k1 at hs
  refine CP.loop (fun k1 tm g => ∃ (l3 : List Int) (a14 : Option Addr) (n12 : Nat) (c13 : Nat) (x23 : Int) (x24 : Int) (l4 : List S_purse_Held) (a15 : Option Addr) (n13 : Nat) (c14 : Nat) (x25 : Int), Fr 51 [(2, .pointer (some ⟨b1, 0, none⟩)), (4, .pointer (some ⟨b3, 0, none⟩)), (5, .pointer (some ⟨b4, 0, none⟩)), (22, .int .i64 x10), (23, .int .i64 x25)] tm ∧ Step (fun l => NoM l ∨ t ≤ l) g0 g ∧ Box g (t + 1) b1 32 [encA .u8 (zA 8), [.int .i64 0], encA .i64 (zA 2), [.slice none 0 0]] [8, 1, 2, 1] ∧ Box g (t + 3) b3 112 [[.pointer (some ⟨b2, 0, none⟩)], [.int .i64 x24]] [1, 1] ∧ Box g (t + 2) b2 150 [[.slice a14 n12 c13], [.int .i64 x23]] [1, 1] ∧ RdS (Kd.int .u8) g 5 a14 n12 c13 l3 ∧ Box g (t + 4) b4 32 [encA .u8 d1, [.int .i64 x4], encA .i64 (⟨[x6, x8], rfl⟩ : Arr Int 2), [.slice a15 n13 c14]] [8, 1, 2, 1] ∧ OwnS k_S_purse_Held g (t + 6) 56 a15 n13 c14 l4 ∧ F.purse_Decode.l1 d1 x4 x6 x8 x10 k1 l3 x23 x24 l4 x25 = some (o1, o2, o3, o4, o5)) k1 ?_ ?_ ?_
  · exact ⟨d6, a7, n7, c7, x11, x3, [], none, 0, 0, 0, ⟨by kernel_rfl, by kernel_rfl⟩, tot, hB1, hB3, hB2, hR7, hB9, (OwnS.nil _ _ _ _), hs⟩
  · rintro tm g ⟨l3, a14, n12, c13, x23, x24, l4, a15, n13, c14, x25, hF, tot, hB1, hB3, hB2, hR14, hB9, hR15, hs⟩
    exact absurd hs (by simp [F.purse_Decode.l1])
  clear tot hs hB1 hB3 hB2 hR7 hB9
  rintro k1 tm g ⟨l3, a14, n12, c13, x23, x24, l4, a15, n13, c14, x25, hF, tot, hB1, hB3, hB2, hR14, hB9, hR15, hs⟩
  clear ds
  obtain ⟨ds, rfl⟩ := hF.open
  clear hF
  unfold F.purse_Decode.l1 at hs
  refine CP.seqR ?_
  refine WP.still 1 (by kernel_rfl) ?_
  refine WP.done (by kernel_rfl) ?_
  refine NX.then_n ?_
  refine CP.seq ?_
  refine CP.cond (b := decide (x25 < x10)) (by kernel_rfl) (fun h7 => ?_) (fun h7 => ?_)
  · replace hs := of_if_t hs h7
    refine CP.skip ?_
    refine NX.then_n ?_
    refine CP.seq ?_
    refine CP.block ?_
    replace hs := Option.bind_eq_some_iff.1 hs
    obtain ⟨⟨d17, d18, x40, x41⟩, hk19, hs⟩ := hs
    dsimp only at hs
    replace hs := Option.bind_eq_some_iff.1 hs
    obtain ⟨⟨x42, d19, x43⟩, hk20, hs⟩ := hs
    dsimp only at hs
    replace hs := Option.bind_eq_some_iff.1 hs
    obtain ⟨⟨x44, d20, x45⟩, hk21, hs⟩ := hs
    dsimp only at hs
    replace hs := Option.bind_eq_some_iff.1 hs
    obtain ⟨⟨x46, d21, x47⟩, hk22, hs⟩ := hs
    dsimp only at hs
    by_cases hc3 : l4.length + ([(⟨d17, x42, x44, x46⟩ : S_purse_Held)]).length ≤ 4398046511104
    case neg => rw [if_neg hc3] at hs; cases hs
    replace hs := of_if_p hs hc3
    refine CP.drawL (by kernel_rfl) [1, 3, 5, 7, 9, 10, 11, 12, 14] N.purse_Decode_0 [⟨none, [1], [], fun l g => Box g (t + 3) b3 112 [[.pointer (some ⟨b2, 0, none⟩)], [.int .i64 x24]] [1, 1]⟩, ⟨none, [0], [], fun l g => Box g (t + 2) b2 150 [[.slice a14 n12 c13], [.int .i64 x23]] [1, 1]⟩, ⟨none, [], [], fun l g => RdS (Kd.int .u8) g 5 a14 n12 c13 l3⟩, ⟨none, [3], [], fun l g => Box g (t + 4) b4 32 [encA .u8 d1, [.int .i64 x4], encA .i64 (⟨[x6, x8], rfl⟩ : Arr Int 2), [.slice a15 n13 c14]] [8, 1, 2, 1]⟩, ⟨none, [2], [], fun l g => OwnS k_S_purse_Held g (t + 6) 56 a15 n13 c14 l4⟩, ⟨some 0, [], [0], fun l g => l.getD 0 undef = .slice a15 n13 c14⟩, ⟨some 1, [1], [], fun l g => Box g (t + 3) b3 112 [[.pointer (some ⟨b2, 0, none⟩)], [.int .i64 x41]] [1, 1]⟩, ⟨some 1, [0], [1], fun l g => ∃ (a24 : Option Addr) (c22 : Nat), l.getD 0 undef = AG [encA .u8 d17] ∧ RdS (Kd.int .u8) g 5 a24 d18.length c22 d18 ∧ Box g (t + 2) b2 150 [[.slice a24 d18.length c22], [.int .i64 x40]] [1, 1]⟩, ⟨some 2, [0], [2], fun l g => ∃ (a25 : Option Addr) (c23 : Nat), l.getD 0 undef = .int .i64 x42 ∧ RdS (Kd.int .u8) g 5 a25 d19.length c23 d19 ∧ Box g (t + 2) b2 150 [[.slice a25 d19.length c23], [.int .i64 x43]] [1, 1]⟩, ⟨some 2, [], [1], fun l g => ∃ (a24 : Option Addr) (c22 : Nat), l.getD 0 undef = AG [encA .u8 d17] ∧ RdS (Kd.int .u8) g 5 a24 d18.length c22 d18⟩, ⟨some 3, [0], [3], fun l g => ∃ (a26 : Option Addr) (c24 : Nat), l.getD 0 undef = .int .i64 x44 ∧ RdS (Kd.int .u8) g 5 a26 d20.length c24 d20 ∧ Box g (t + 2) b2 150 [[.slice a26 d20.length c24], [.int .i64 x45]] [1, 1]⟩, ⟨some 3, [], [2], fun l g => ∃ (a25 : Option Addr) (c23 : Nat), l.getD 0 undef = .int .i64 x42 ∧ RdS (Kd.int .u8) g 5 a25 d19.length c23 d19⟩, ⟨some 4, [0], [4], fun l g => ∃ (a27 : Option Addr) (c25 : Nat), l.getD 0 undef = .int .i64 x46 ∧ RdS (Kd.int .u8) g 5 a27 d21.length c25 d21 ∧ Box g (t + 2) b2 150 [[.slice a27 d21.length c25], [.int .i64 x47]] [1, 1]⟩, ⟨some 4, [], [3], fun l g => ∃ (a26 : Option Addr) (c24 : Nat), l.getD 0 undef = .int .i64 x44 ∧ RdS (Kd.int .u8) g 5 a26 d20.length c24 d20⟩, ⟨some 5, [], [5], fun l g => l.getD 0 undef = AG [encA .u8 d17, [.int .i64 x42], [.int .i64 x44], [.int .i64 x46]]⟩, ⟨some 6, [], [6], fun l g => ∃ (a28 : Option Addr), l.getD 0 undef = .slice a28 1 1 ∧ OwnS k_S_purse_Held g (t + 8) 56 a28 1 1 ([(⟨d17, x42, x44, x46⟩ : S_purse_Held)])⟩, ⟨some 7, [2], [7], fun l g => ∃ (a29 : Option Addr) (c26 : Nat), l.getD 0 undef = .slice a29 (n13 + 1) c26 ∧ OwnS k_S_purse_Held g (t + 6) 56 a29 (n13 + 1) c26 (l4 ++ [(⟨d17, x42, x44, x46⟩ : S_purse_Held)])⟩, ⟨some 8, [2, 3], [7], fun l g => ∃ (a29 : Option Addr) (c26 : Nat), l.getD 0 undef = .slice a29 (n13 + 1) c26 ∧ OwnS k_S_purse_Held g (t + 6) 56 a29 (n13 + 1) c26 (l4 ++ [(⟨d17, x42, x44, x46⟩ : S_purse_Held)]) ∧ Box g (t + 4) b4 32 [encA .u8 d1, [.int .i64 x4], encA .i64 (⟨[x6, x8], rfl⟩ : Arr Int 2), [.slice a29 (n13 + 1) c26]] [8, 1, 2, 1]⟩] [[], [0, 1], [0], [0], [0], [], [], [2], [3]] [(t + 2), (t + 3), (t + 6), (t + 4)] [0, 2, 4, 6, 8, 13] [] (by kernel_rfl) (by simp <;> omega) (by simp <;> omega) ⟨fun _ _ _ _ st h0 hl hj hB3 => (hB3.mono st (hj 1 (by simp) _ rfl)), fun _ _ _ _ st h0 hl hj hB2 => (hB2.mono st (hj 0 (by simp) _ rfl)), fun _ _ _ _ st h0 hl hj hR14 => (RdS.mono (e := 5) hR14 st h0), fun _ _ _ _ st h0 hl hj hB9 => (hB9.mono st (hj 3 (by simp) _ rfl)), fun _ _ _ _ st h0 hl hj hR15 => (hR15.mono st h0 (hj 2 (by simp) _ rfl)), fun _ _ _ _ st h0 hl hj e0 => e0, fun _ _ _ _ st h0 hl hj hB3 => (hB3.mono st (hj 1 (by simp) _ rfl)), fun _ _ _ _ st h0 hl hj ⟨a24, c22, e1, hR24, hB2⟩ => ⟨a24, c22, e1, (RdS.mono (e := 5) hR24 st h0), (hB2.mono st (hj 0 (by simp) _ rfl))⟩, fun _ _ _ _ st h0 hl hj ⟨a25, c23, e2, hR25, hB2⟩ => ⟨a25, c23, e2, (RdS.mono (e := 5) hR25 st h0), (hB2.mono st (hj 0 (by simp) _ rfl))⟩, fun _ _ _ _ st h0 hl hj ⟨a24, c22, e1, hR24⟩ => ⟨a24, c22, e1, (RdS.mono (e := 5) hR24 st h0)⟩, fun _ _ _ _ st h0 hl hj ⟨a26, c24, e3, hR26, hB2⟩ => ⟨a26, c24, e3, (RdS.mono (e := 5) hR26 st h0), (hB2.mono st (hj 0 (by simp) _ rfl))⟩, fun _ _ _ _ st h0 hl hj ⟨a25, c23, e2, hR25⟩ => ⟨a25, c23, e2, (RdS.mono (e := 5) hR25 st h0)⟩, fun _ _ _ _ st h0 hl hj ⟨a27, c25, e4, hR27, hB2⟩ => ⟨a27, c25, e4, (RdS.mono (e := 5) hR27 st h0), (hB2.mono st (hj 0 (by simp) _ rfl))⟩, fun _ _ _ _ st h0 hl hj ⟨a26, c24, e3, hR26⟩ => ⟨a26, c24, e3, (RdS.mono (e := 5) hR26 st h0)⟩, fun _ _ _ _ st h0 hl hj e5 => e5, fun _ _ _ _ st h0 hl hj ⟨a28, e6, hR28⟩ => ⟨a28, e6, (hR28.mono st h0 (fun h => absurd (hl _ h) (by simp <;> omega)))⟩, fun _ _ _ _ st h0 hl hj ⟨a29, c26, e7, hR29⟩ => ⟨a29, c26, e7, (hR29.mono st h0 (hj 2 (by simp) _ rfl))⟩, fun _ _ _ _ st h0 hl hj ⟨a29, c26, e7, hR29, hB9⟩ => ⟨a29, c26, e7, (hR29.mono st h0 (hj 2 (by simp) _ rfl)), (hB9.mono st (hj 3 (by simp) _ rfl))⟩, trivial⟩ ⟨hB3, hB2, hR14, hB9, hR15, trivial, trivial, trivial, trivial, trivial, trivial, trivial, trivial, trivial, trivial, trivial, trivial, trivial, trivial⟩ (by kernel_rfl) (fun vs => by kernel_rfl) ?_ ?_ ?_
    · intro j hj; exact absurd hj (by simp)
    · intro j hj
      have hq : j = 0 ∨ j = 1 ∨ j = 2 ∨ j = 3 ∨ j = 4 ∨ j = 5 ∨ j = 6 ∨ j = 7 ∨ j = 8 := by have h : j < 9 := hj; omega
      rcases hq with rfl | rfl | rfl | rfl | rfl | rfl | rfl | rfl | rfl
      · intro vs gq stq hl hf
        obtain ⟨v0, v1, v2, v3, v4, v5, v6, v7, v8, rfl⟩ := len_k9 hl
        have hB9 := (show Box gq (t + 4) b4 32 [encA .u8 d1, [.int .i64 x4], encA .i64 (⟨[x6, x8], rfl⟩ : Arr Int 2), [.slice a15 n13 c14]] [8, 1, 2, 1] from hf _ (List.mem_of_getElem? (i := 3) rfl) (by kernel_rfl))
        refine WP.loadB (v := .slice a15 n13 c14) hB9 (by kernel_rfl) (by kernel_rfl) ?_
        refine WP.done (by kernel_rfl) (Shown.ok (v := .slice a15 n13 c14) (by kernel_rfl) (Step.refl _ _) ?_)
        exact ⟨trivial, trivial, trivial, trivial, trivial, rfl, trivial, trivial, trivial, trivial, trivial, trivial, trivial, trivial, trivial, trivial, trivial, trivial, trivial⟩
      · intro vs gq stq hl hf
        obtain ⟨v0, v1, v2, v3, v4, v5, v6, v7, v8, rfl⟩ := len_k9 hl
        have hB3 := (show Box gq (t + 3) b3 112 [[.pointer (some ⟨b2, 0, none⟩)], [.int .i64 x24]] [1, 1] from hf _ (List.mem_of_getElem? (i := 0) rfl) (by kernel_rfl))
        have hB2 := (show Box gq (t + 2) b2 150 [[.slice a14 n12 c13], [.int .i64 x23]] [1, 1] from hf _ (List.mem_of_getElem? (i := 1) rfl) (by kernel_rfl))
        have hR14 := (show RdS (Kd.int .u8) gq 5 a14 n12 c13 l3 from hf _ (List.mem_of_getElem? (i := 2) rfl) (by kernel_rfl))
        have hcal19 := P.purse_reader_name gq (t + 3) (t + 2) l3 x23 x24 a14 n12 c13 b3 b2 hR14 hB2 hB3 (by omega) (by omega) (by omega) d17 d18 x40 x41 hk19
        refine WP.callC hcal19 (by kernel_rfl) ?_
        rintro _ g34 st34 ⟨a24, n20, c22, rfl, hR24, hB28, hB29⟩
        obtain rfl := hR24.len
        refine WP.done (by kernel_rfl) (Shown.ok (v := AG [encA .u8 d17]) (by kernel_rfl) st34 ?_)
        exact ⟨trivial, trivial, trivial, trivial, trivial, trivial, hB29, ⟨a24, c22, rfl, hR24, hB28⟩, trivial, trivial, trivial, trivial, trivial, trivial, trivial, trivial, trivial, trivial, trivial⟩
      · intro vs gq stq hl hf
        obtain ⟨v0, v1, v2, v3, v4, v5, v6, v7, v8, rfl⟩ := len_k9 hl
        have hB3 := (show Box gq (t + 3) b3 112 [[.pointer (some ⟨b2, 0, none⟩)], [.int .i64 x41]] [1, 1] from hf _ (List.mem_of_getElem? (i := 6) rfl) (by kernel_rfl))
        obtain ⟨a24, c22, e1, hR24, hB2⟩ := (show ∃ (a24 : Option Addr) (c22 : Nat), v1 = AG [encA .u8 d17] ∧ RdS (Kd.int .u8) gq 5 a24 d18.length c22 d18 ∧ Box gq (t + 2) b2 150 [[.slice a24 d18.length c22], [.int .i64 x40]] [1, 1] from hf _ (List.mem_of_getElem? (i := 7) rfl) (by kernel_rfl))
        subst e1
        have hcal20 := P.purse_reader_number gq (t + 3) (t + 2) d18 x40 x41 1125899906842624 a24 d18.length c22 b3 b2 hR24 hB2 hB3 (by omega) (by omega) (by omega) x42 d19 x43 hk20
        refine WP.callC hcal20 (by kernel_rfl) ?_
        rintro _ g35 st35 ⟨a25, n21, c23, rfl, hR25, hB30⟩
        obtain rfl := hR25.len
        refine WP.done (by kernel_rfl) (Shown.ok (v := .int .i64 x42) (by kernel_rfl) st35 ?_)
        exact ⟨trivial, trivial, trivial, trivial, trivial, trivial, trivial, trivial, ⟨a25, c23, rfl, hR25, hB30⟩, ⟨a24, c22, rfl, (hR24.mono st35 (WL.no (by simp <;> omega)))⟩, trivial, trivial, trivial, trivial, trivial, trivial, trivial, trivial, trivial⟩
      · intro vs gq stq hl hf
        obtain ⟨v0, v1, v2, v3, v4, v5, v6, v7, v8, rfl⟩ := len_k9 hl
        have hB3 := (show Box gq (t + 3) b3 112 [[.pointer (some ⟨b2, 0, none⟩)], [.int .i64 x41]] [1, 1] from hf _ (List.mem_of_getElem? (i := 6) rfl) (by kernel_rfl))
        obtain ⟨a25, c23, e2, hR25, hB2⟩ := (show ∃ (a25 : Option Addr) (c23 : Nat), v2 = .int .i64 x42 ∧ RdS (Kd.int .u8) gq 5 a25 d19.length c23 d19 ∧ Box gq (t + 2) b2 150 [[.slice a25 d19.length c23], [.int .i64 x43]] [1, 1] from hf _ (List.mem_of_getElem? (i := 8) rfl) (by kernel_rfl))
        subst e2
        have hcal21 := P.purse_reader_number gq (t + 3) (t + 2) d19 x43 x41 1 a25 d19.length c23 b3 b2 hR25 hB2 hB3 (by omega) (by omega) (by omega) x44 d20 x45 hk21
        refine WP.callC hcal21 (by kernel_rfl) ?_
        rintro _ g36 st36 ⟨a26, n22, c24, rfl, hR26, hB31⟩
        obtain rfl := hR26.len
        refine WP.done (by kernel_rfl) (Shown.ok (v := .int .i64 x44) (by kernel_rfl) st36 ?_)
        exact ⟨trivial, trivial, trivial, trivial, trivial, trivial, trivial, trivial, trivial, trivial, ⟨a26, c24, rfl, hR26, hB31⟩, ⟨a25, c23, rfl, (hR25.mono st36 (WL.no (by simp <;> omega)))⟩, trivial, trivial, trivial, trivial, trivial, trivial, trivial⟩
      · intro vs gq stq hl hf
        obtain ⟨v0, v1, v2, v3, v4, v5, v6, v7, v8, rfl⟩ := len_k9 hl
        have hB3 := (show Box gq (t + 3) b3 112 [[.pointer (some ⟨b2, 0, none⟩)], [.int .i64 x41]] [1, 1] from hf _ (List.mem_of_getElem? (i := 6) rfl) (by kernel_rfl))
        obtain ⟨a26, c24, e3, hR26, hB2⟩ := (show ∃ (a26 : Option Addr) (c24 : Nat), v3 = .int .i64 x44 ∧ RdS (Kd.int .u8) gq 5 a26 d20.length c24 d20 ∧ Box gq (t + 2) b2 150 [[.slice a26 d20.length c24], [.int .i64 x45]] [1, 1] from hf _ (List.mem_of_getElem? (i := 10) rfl) (by kernel_rfl))
        subst e3
        have hcal22 := P.purse_reader_number gq (t + 3) (t + 2) d20 x45 x41 1099511627776 a26 d20.length c24 b3 b2 hR26 hB2 hB3 (by omega) (by omega) (by omega) x46 d21 x47 hk22
        refine WP.callC hcal22 (by kernel_rfl) ?_
        rintro _ g37 st37 ⟨a27, n23, c25, rfl, hR27, hB32⟩
        obtain rfl := hR27.len
        refine WP.done (by kernel_rfl) (Shown.ok (v := .int .i64 x46) (by kernel_rfl) st37 ?_)
        exact ⟨trivial, trivial, trivial, trivial, trivial, trivial, trivial, trivial, trivial, trivial, trivial, trivial, ⟨a27, c25, rfl, hR27, hB32⟩, ⟨a26, c24, rfl, (hR26.mono st37 (WL.no (by simp <;> omega)))⟩, trivial, trivial, trivial, trivial, trivial⟩
      · intro vs gq stq hl hf
        obtain ⟨v0, v1, v2, v3, v4, v5, v6, v7, v8, rfl⟩ := len_k9 hl
        obtain ⟨a24, c22, e1, hR24⟩ := (show ∃ (a24 : Option Addr) (c22 : Nat), v1 = AG [encA .u8 d17] ∧ RdS (Kd.int .u8) gq 5 a24 d18.length c22 d18 from hf _ (List.mem_of_getElem? (i := 9) rfl) (by kernel_rfl))
        subst e1
        obtain ⟨a25, c23, e2, hR25⟩ := (show ∃ (a25 : Option Addr) (c23 : Nat), v2 = .int .i64 x42 ∧ RdS (Kd.int .u8) gq 5 a25 d19.length c23 d19 from hf _ (List.mem_of_getElem? (i := 11) rfl) (by kernel_rfl))
        subst e2
        obtain ⟨a27, c25, e4, hR27, hB2⟩ := (show ∃ (a27 : Option Addr) (c25 : Nat), v4 = .int .i64 x46 ∧ RdS (Kd.int .u8) gq 5 a27 d21.length c25 d21 ∧ Box gq (t + 2) b2 150 [[.slice a27 d21.length c25], [.int .i64 x47]] [1, 1] from hf _ (List.mem_of_getElem? (i := 12) rfl) (by kernel_rfl))
        subst e4
        obtain ⟨a26, c24, e3, hR26⟩ := (show ∃ (a26 : Option Addr) (c24 : Nat), v3 = .int .i64 x44 ∧ RdS (Kd.int .u8) gq 5 a26 d20.length c24 d20 from hf _ (List.mem_of_getElem? (i := 13) rfl) (by kernel_rfl))
        subst e3
        refine WP.buildS (places := #[(0, 8), (8, 1), (9, 1), (10, 1)]) (t := 56) [encA .u8 (zA 8), [.int .i64 0], [.int .i64 0], [.int .i64 0]] [8, 1, 1, 1] (by kernel_rfl) (by kernel_rfl) (by simp [len_encA]) (by kernel_rfl) ((.cons (i := 0) (off := 0) (v := AG [encA .u8 d17]) (mid := [encA .u8 d17, [.int .i64 0], [.int .i64 0], [.int .i64 0]]) [encA .u8 d17] [8] (by kernel_rfl) (by kernel_rfl) (by simp [len_encA]) (by kernel_rfl) (.cons (i := 1) (off := 8) (v := .int .i64 x42) (mid := [encA .u8 d17, [.int .i64 x42], [.int .i64 0], [.int .i64 0]]) [[.int .i64 x42]] [1] (by kernel_rfl) (by kernel_rfl) rfl (by kernel_rfl) (.cons (i := 2) (off := 9) (v := .int .i64 x44) (mid := [encA .u8 d17, [.int .i64 x42], [.int .i64 x44], [.int .i64 0]]) [[.int .i64 x44]] [1] (by kernel_rfl) (by kernel_rfl) rfl (by kernel_rfl) (.cons (i := 3) (off := 10) (v := .int .i64 x46) (mid := [encA .u8 d17, [.int .i64 x42], [.int .i64 x44], [.int .i64 x46]]) [[.int .i64 x46]] [1] (by kernel_rfl) (by kernel_rfl) rfl (by kernel_rfl) .nil))))) ?_
        refine WP.done (by kernel_rfl) (Shown.ok (v := AG [encA .u8 d17, [.int .i64 x42], [.int .i64 x44], [.int .i64 x46]]) (by kernel_rfl) (Step.refl _ _) ?_)
        exact ⟨trivial, trivial, trivial, trivial, trivial, trivial, trivial, trivial, trivial, trivial, trivial, trivial, trivial, trivial, rfl, trivial, trivial, trivial, trivial⟩
      · intro vs gq stq hl hf
        obtain ⟨v0, v1, v2, v3, v4, v5, v6, v7, v8, rfl⟩ := len_k9 hl
        have e5 := (show v5 = AG [encA .u8 d17, [.int .i64 x42], [.int .i64 x44], [.int .i64 x46]] from hf _ (List.mem_of_getElem? (i := 14) rfl) (by kernel_rfl))
        subst e5
        refine WP.mkSl (kd := k_S_purse_Held) (t := 30) (e := 56) (bytes := 32) (t + 8) [AG [encA .u8 d17, [.int .i64 x42], [.int .i64 x44], [.int .i64 x46]]] [(⟨d17, x42, x44, x46⟩ : S_purse_Held)] (by kernel_rfl) (by kernel_rfl) (Nat.le_of_ble_eq_true rfl) (Nat.le_of_ble_eq_true rfl) (all_cons (Kd.len k_S_purse_Held (g := gq) (x := (⟨d17, x42, x44, x46⟩ : S_purse_Held)) (k_S_purse_Held.mk rfl rfl rfl rfl)) all_nil) (⟨_, _, rfl, (k_S_purse_Held.mk rfl rfl rfl rfl), rfl⟩) rfl ?_
        intro g38 a28 st38 hR28
        refine WP.done (by kernel_rfl) (Shown.ok (v := .slice a28 1 1) (by kernel_rfl) st38.pure ?_)
        exact ⟨trivial, trivial, trivial, trivial, trivial, trivial, trivial, trivial, trivial, trivial, trivial, trivial, trivial, trivial, trivial, ⟨a28, rfl, hR28⟩, trivial, trivial, trivial⟩
      · intro vs gq stq hl hf
        obtain ⟨v0, v1, v2, v3, v4, v5, v6, v7, v8, rfl⟩ := len_k9 hl
        have hR15 := (show OwnS k_S_purse_Held gq (t + 6) 56 a15 n13 c14 l4 from hf _ (List.mem_of_getElem? (i := 4) rfl) (by kernel_rfl))
        have e0 := (show v0 = .slice a15 n13 c14 from hf _ (List.mem_of_getElem? (i := 5) rfl) (by kernel_rfl))
        subst e0
        obtain ⟨a28, e6, hR28⟩ := (show ∃ (a28 : Option Addr), v6 = .slice a28 1 1 ∧ OwnS k_S_purse_Held gq (t + 8) 56 a28 1 1 ([(⟨d17, x42, x44, x46⟩ : S_purse_Held)]) from hf _ (List.mem_of_getElem? (i := 15) rfl) (by kernel_rfl))
        subst e6
        refine WP.append (kd := k_S_purse_Held) (t := 30) (e := 56) (bytes := 32) (a2 := a28) (c2 := 1) hR15 hR28.src hR28.len (by kernel_rfl) (by kernel_rfl) (by omega) (by simp only [maxLen]; omega) (by omega) ?_
        intro g39 a29 c26 st39 hR29
        refine WP.done (by kernel_rfl) (Shown.ok (v := .slice a29 (n13 + 1) c26) (by kernel_rfl) st39 ?_)
        exact ⟨trivial, trivial, trivial, trivial, trivial, trivial, trivial, trivial, trivial, trivial, trivial, trivial, trivial, trivial, trivial, trivial, ⟨a29, c26, rfl, hR29⟩, trivial, trivial⟩
      · intro vs gq stq hl hf
        obtain ⟨v0, v1, v2, v3, v4, v5, v6, v7, v8, rfl⟩ := len_k9 hl
        have hB9 := (show Box gq (t + 4) b4 32 [encA .u8 d1, [.int .i64 x4], encA .i64 (⟨[x6, x8], rfl⟩ : Arr Int 2), [.slice a15 n13 c14]] [8, 1, 2, 1] from hf _ (List.mem_of_getElem? (i := 3) rfl) (by kernel_rfl))
        obtain ⟨a29, c26, e7, hR29⟩ := (show ∃ (a29 : Option Addr) (c26 : Nat), v7 = .slice a29 (n13 + 1) c26 ∧ OwnS k_S_purse_Held gq (t + 6) 56 a29 (n13 + 1) c26 (l4 ++ [(⟨d17, x42, x44, x46⟩ : S_purse_Held)]) from hf _ (List.mem_of_getElem? (i := 16) rfl) (by kernel_rfl))
        subst e7
        refine WP.storeB (ty := 30) (off := 11) (v := .slice a29 (n13 + 1) c26) hB9 [[.slice a29 (n13 + 1) c26]] [1] (by kernel_rfl) (by kernel_rfl) rfl (by kernel_rfl) [encA .u8 d1, [.int .i64 x4], encA .i64 (⟨[x6, x8], rfl⟩ : Arr Int 2), [.slice a29 (n13 + 1) c26]] (by kernel_rfl) (.one rfl .nil) ?_
        intro g40 st40 hB33
        refine WP.done (by kernel_rfl) (Shown.ok (v := undef) (by kernel_rfl) st40 ?_)
        exact ⟨trivial, trivial, trivial, trivial, trivial, trivial, trivial, trivial, trivial, trivial, trivial, trivial, trivial, trivial, trivial, trivial, trivial, ⟨a29, c26, rfl, (hR29.mono st40 (WL.no (by simp <;> omega)) (WL.no (by simp <;> omega))), hB33⟩, trivial⟩
    intro vs g41 st41 hl hf
    obtain ⟨v0, v1, v2, v3, v4, v5, v6, v7, v8, rfl⟩ := len_k9 hl
    have hB3 := (show Box g41 (t + 3) b3 112 [[.pointer (some ⟨b2, 0, none⟩)], [.int .i64 x41]] [1, 1] from hf _ (List.mem_of_getElem? (i := 6) rfl) (by kernel_rfl))
    obtain ⟨a27, c25, e4, hR27, hB2⟩ := (show ∃ (a27 : Option Addr) (c25 : Nat), v4 = .int .i64 x46 ∧ RdS (Kd.int .u8) g41 5 a27 d21.length c25 d21 ∧ Box g41 (t + 2) b2 150 [[.slice a27 d21.length c25], [.int .i64 x47]] [1, 1] from hf _ (List.mem_of_getElem? (i := 12) rfl) (by kernel_rfl))
    subst e4
    obtain ⟨a29, c26, e7, hR29, hB9⟩ := (show ∃ (a29 : Option Addr) (c26 : Nat), v7 = .slice a29 (n13 + 1) c26 ∧ OwnS k_S_purse_Held g41 (t + 6) 56 a29 (n13 + 1) c26 (l4 ++ [(⟨d17, x42, x44, x46⟩ : S_purse_Held)]) ∧ Box g41 (t + 4) b4 32 [encA .u8 d1, [.int .i64 x4], encA .i64 (⟨[x6, x8], rfl⟩ : Arr Int 2), [.slice a29 (n13 + 1) c26]] [8, 1, 2, 1] from hf _ (List.mem_of_getElem? (i := 17) rfl) (by kernel_rfl))
    subst e7
    replace hB1 := hB1.mono st41 (WL.no (by simp <;> omega))
    replace tot := tot.trans (st41.up (by intro l hl; simp at hl; rcases hl with rfl | rfl | rfl | rfl <;> first | exact .inr (by omega) | exact .inl (by simp [WL])))
    refine NX.block_n ?_
    refine NX.then_n ?_
    refine CP.refr 51 [(2, .pointer (some ⟨b1, 0, none⟩)), (4, .pointer (some ⟨b3, 0, none⟩)), (5, .pointer (some ⟨b4, 0, none⟩)), (22, .int .i64 x10), (23, .int .i64 x25)] (by kernel_rfl) (by kernel_rfl) ?_
    clear ds
    intro ds
    refine CP.region ?_
    refine WP.still 2 (by kernel_rfl) ?_
    refine WP.done (by kernel_rfl) ?_
    refine NX.post ?_
    exact ⟨d21, a27, d21.length, c25, x47, x41, (l4 ++ [(⟨d17, x42, x44, x46⟩ : S_purse_Held)]), a29, (n13 + 1), c26, (IntKind.i64.wrap (x25 + 1)), ⟨by kernel_rfl, by kernel_rfl⟩, tot, hB1, hB3, hB2, hR27, hB9, hR29, hs⟩
  replace hs := of_if_f hs h7
  refine CP.exit ?_
  refine NX.then_e ?_
  refine NX.then_e ?_
  refine NX.block_s ?_
  refine NX.then_n ?_
  refine CP.seqR ?_
  refine WP.still 1 (by kernel_rfl) ?_
  replace hs := Option.bind_eq_some_iff.1 hs
  obtain ⟨x48, hk23, hs⟩ := hs
  have hcal23 := P.purse_reader_end g (t + 3) (t + 2) l3 x23 x24 a14 n12 c13 b3 b2 hR14 hB2 hB3 (by omega) (by omega) (by omega) x48 hk23
  refine WP.callC hcal23 (by kernel_rfl) ?_
  rintro _ g42 st42 rfl
  replace hB1 := hB1.mono st42 (fun x => x)
  replace hB3 := hB3.mono st42 (fun x => x)
  replace hB2 := hB2.mono st42 (fun x => x)
  replace hR14 := hR14.mono st42 (fun x => x)
  replace hB9 := hB9.mono st42 (fun x => x)
  replace hR15 := hR15.mono st42 (fun x => x) (fun x => x)
  replace tot := tot.trans st42.pure
  refine WP.still 1 (by kernel_rfl) ?_
  refine WP.done (by kernel_rfl) ?_
  refine NX.then_n ?_
  refine CP.cut (fun tm g => ∃ (x50 : Int), Fr 51 [(2, .pointer (some ⟨b1, 0, none⟩)), (5, .pointer (some ⟨b4, 0, none⟩)), (6, .int .i64 x50)] tm ∧ Step (fun l => NoM l ∨ t ≤ l) g0 g ∧ Box g (t + 1) b1 32 [encA .u8 (zA 8), [.int .i64 0], encA .i64 (zA 2), [.slice none 0 0]] [8, 1, 2, 1] ∧ Box g (t + 4) b4 32 [encA .u8 d1, [.int .i64 x4], encA .i64 (⟨[x6, x8], rfl⟩ : Arr Int 2), [.slice a15 n13 c14]] [8, 1, 2, 1] ∧ OwnS k_S_purse_Held g (t + 6) 56 a15 n13 c14 l4 ∧ (F.purse_Decode.c1 d1 x4 x6 x8 l4 x50) = some (o1, o2, o3, o4, o5)) ?_ ?_
  · refine CP.seqR ?_
    refine WP.still 2 (by kernel_rfl) ?_
    refine WP.done (by kernel_rfl) ?_
    refine NX.then_n ?_
    refine CP.cond (b := (x48 == 0)) (by kernel_rfl) (fun h10 => ?_) (fun h10 => ?_)
    · replace hs := of_if_t hs h10
      refine CP.region ?_
      refine WP.loadB (v := AG [encA .u8 d1, [.int .i64 x4], encA .i64 (⟨[x6, x8], rfl⟩ : Arr Int 2), [.slice a15 n13 c14]]) hB9 (by kernel_rfl) (by kernel_rfl) ?_
      replace hs := Option.bind_eq_some_iff.1 hs
      obtain ⟨x51, hk25, hs⟩ := hs
      have hS3 : 0 ∉ ([(t + 6)] : List Nat) := by simp <;> omega
      have stl3 := GW.lend_step g42 [(t + 6)]
      have hRl3 := hR15.lendTo hS3 (by simp)
      refine WP.regw (g' := GW.lend g42 [(t + 6)]) rfl ?_
      have hcal25 := P.purse_Purse_Check (GW.lend g42 [(t + 6)]) d1 x4 (⟨[x6, x8], rfl⟩ : Arr Int 2) l4 a15 n13 c14 hRl3 x51 hk25
      refine WP.callC hcal25 (by kernel_rfl) ?_
      rintro _ g48 st48 rfl
      have st49 := (GW.back_step st48).lentS
      have hO3 := hR15.backTo hS3 (by simp) st48 (fun x => x)
      refine WP.regw (g' := GW.back g42 g48 [(t + 6)]) rfl ?_
      generalize GW.back g42 g48 [(t + 6)] = g49 at *
      replace hB1 := hB1.mono st49 (WL.no1 (by omega))
      replace hB9 := hB9.mono st49 (WL.no1 (by omega))
      replace tot := tot.trans (st49.up1 (.inr (by omega)))
      clear hR15
      have hR15 : OwnS k_S_purse_Held g49 (t + 6) 56 a15 n13 c14 l4 := hO3
      clear hO3
      refine WP.still 1 (by kernel_rfl) ?_
      refine WP.done (by kernel_rfl) ?_
      refine NX.post ?_
      exact ⟨x51, ⟨by kernel_rfl, by kernel_rfl⟩, tot, hB1, hB9, hR15, hs⟩
    replace hs := of_if_f hs h10
    refine CP.skip ?_
    refine NX.post ?_
    exact ⟨x48, ⟨by kernel_rfl, by kernel_rfl⟩, tot, hB1, hB9, hR15, hs⟩
  clear tot hs hB1 hB9 hR15
  rintro tm g ⟨x50, hF, tot, hB1, hB9, hR15, hs⟩
  clear ds
  obtain ⟨ds, rfl⟩ := hF.open
  clear hF
  unfold F.purse_Decode.c1 at hs
  refine CP.seq ?_
  refine CP.seqR ?_
  refine WP.still 2 (by kernel_rfl) ?_
  refine WP.done (by kernel_rfl) ?_
  refine NX.then_n ?_
  refine CP.cond (b := (x50 != 0)) (by kernel_rfl) (fun h9 => ?_) (fun h9 => ?_)
  · replace hs := of_if_t hs h9
    refine CP.seqR ?_
    refine WP.buildS (places := #[(0, 8), (8, 1), (9, 2), (11, 1)]) (t := 32) [encA .u8 (zA 8), [.int .i64 0], encA .i64 (zA 2), [.slice none 0 0]] [8, 1, 2, 1] (by kernel_rfl) (by kernel_rfl) (by simp [len_encA]) (by kernel_rfl) (.nil) ?_
    refine WP.still 1 (by kernel_rfl) ?_
    refine WP.storeB (ty := 32) (off := 0) (v := AG [encA .u8 (zA 8), [.int .i64 0], encA .i64 (zA 2), [.slice none 0 0]]) hB1 [encA .u8 (zA 8), [.int .i64 0], encA .i64 (zA 2), [.slice none 0 0]] [8, 1, 2, 1] (by kernel_rfl) (by kernel_rfl) (by simp [len_encA]) (by kernel_rfl) [encA .u8 (zA 8), [.int .i64 0], encA .i64 (zA 2), [.slice none 0 0]] (by kernel_rfl) (.arr (.one rfl (.arr (.one rfl .nil)))) ?_
    intro g45 st45 hB34
    replace hB9 := hB9.mono st45 (WL.no1 (by omega))
    replace hR15 := hR15.mono st45 (WL.no1 (by omega)) (WL.no1 (by omega))
    replace tot := tot.trans (st45.up1 (.inr (by omega)))
    clear hB1
    have hB1 := hB34
    clear hB34
    refine WP.still 1 (by kernel_rfl) ?_
    refine WP.done (by kernel_rfl) ?_
    refine NX.then_n ?_
    refine CP.ret ?_
    refine NX.then_r ?_
    replace hs := Option.some.inj hs
    simp only [Prod.mk.injEq] at hs
    obtain ⟨rfl, rfl, rfl, rfl, rfl⟩ := hs
    exact NX.fin (v := .tuple #[AG [encA .u8 (zA 8), [.int .i64 0], encA .i64 (zA 2), [.slice none 0 0]], .int .i64 x50]) (Res.two rfl (RV.box (agg := true) (size := 12) (rs := [encA .u8 (zA 8), [.int .i64 0], encA .i64 (zA 2), [.slice none 0 0]]) hB1 (by kernel_rfl) (by kernel_rfl) (by kernel_rfl) (by kernel_rfl)) (RV.tmp (by kernel_rfl))) tot htL ⟨none, 0, 0, rfl, (OwnS.nil _ _ _ _)⟩
  replace hs := of_if_f hs h9
  refine CP.skip ?_
  refine NX.then_n ?_
  refine CP.seqR ?_
  refine WP.loadB (v := AG [encA .u8 d1, [.int .i64 x4], encA .i64 (⟨[x6, x8], rfl⟩ : Arr Int 2), [.slice a15 n13 c14]]) hB9 (by kernel_rfl) (by kernel_rfl) ?_
  refine WP.storeB (ty := 32) (off := 0) (v := AG [encA .u8 d1, [.int .i64 x4], encA .i64 (⟨[x6, x8], rfl⟩ : Arr Int 2), [.slice a15 n13 c14]]) hB1 [encA .u8 d1, [.int .i64 x4], encA .i64 (⟨[x6, x8], rfl⟩ : Arr Int 2), [.slice a15 n13 c14]] [8, 1, 2, 1] (by kernel_rfl) (by kernel_rfl) (by simp [len_encA]) (by kernel_rfl) [encA .u8 d1, [.int .i64 x4], encA .i64 (⟨[x6, x8], rfl⟩ : Arr Int 2), [.slice a15 n13 c14]] (by kernel_rfl) (.arr (.one rfl (.arr (.one rfl .nil)))) ?_
  intro g46 st46 hB35
  replace hR15 := hR15.mono st46 (WL.no1 (by omega)) (WL.no1 (by omega))
  replace hB9 := hB9.mono st46 (WL.no1 (by omega))
  replace tot := tot.trans (st46.up1 (.inr (by omega)))
  clear hB1
  have hB1 := hB35
  clear hB35
  refine WP.still 1 (by kernel_rfl) ?_
  refine WP.done (by kernel_rfl) ?_
  refine NX.then_n ?_
  refine CP.ret ?_
  obtain ⟨g47, hw1, st47, hnew⟩ := hR15.relab (by omega) r0
  refine NX.regw hw1 ?_
  replace hB1 := hB1.mono st47 (WL.no1 (by omega))
  replace tot := tot.trans (st47.up1 (.inr (by omega)))
  clear hR15
  have hR15 := hnew
  clear hnew
  replace hs := Option.some.inj hs
  simp only [Prod.mk.injEq] at hs
  obtain ⟨rfl, rfl, rfl, rfl, rfl⟩ := hs
  exact NX.fin (v := .tuple #[AG [encA .u8 d1, [.int .i64 x4], encA .i64 (⟨[x6, x8], rfl⟩ : Arr Int 2), [.slice a15 n13 c14]], .int .i64 0]) (Res.two rfl (RV.box (agg := true) (size := 12) (rs := [encA .u8 d1, [.int .i64 x4], encA .i64 (⟨[x6, x8], rfl⟩ : Arr Int 2), [.slice a15 n13 c14]]) hB1 (by kernel_rfl) (by kernel_rfl) (by kernel_rfl) (by kernel_rfl)) (RV.tmp (by kernel_rfl))) tot htL ⟨a15, n13, c14, rfl, hR15⟩
def N.slices_Equal_purse_Held_purse_Held_0 : List (List Nat) := [[], [], [0, 1], [0, 1, 2], [], [], [4, 5], [4, 5, 6], [0, 1, 2, 3, 4, 5, 6, 7]]
def F.slices_Equal_purse_Held_purse_Held.l1 (l1 : List S_purse_Held) (l2 : List S_purse_Held) : Nat → Int → Option (Bool)
  | 0, _ => none
  | k + 1, x1 => (if decide (x1 < (l1.length : Int)) = true then (if (0 : Int) ≤ x1 ∧ x1 < (l1.length : Int) then (if (0 : Int) ≤ x1 ∧ x1 < (l2.length : Int) then (if (!((((getI l1 x1).f1).1 == ((getI l2 x1).f1).1) && ((((getI l1 x1).f2) == ((getI l2 x1).f2)) && ((((getI l1 x1).f3) == ((getI l2 x1).f3)) && (((getI l1 x1).f4) == ((getI l2 x1).f4)))))) = true then (some false) else (F.slices_Equal_purse_Held_purse_Held.l1 l1 l2 k (IntKind.i64.wrap (x1 + 1)))) else none) else none) else (some true))
def F.slices_Equal_purse_Held_purse_Held (l1 : List S_purse_Held) (l2 : List S_purse_Held) : Option (Bool) := (if ((l1.length : Int) != (l2.length : Int)) = true then (some false) else (F.slices_Equal_purse_Held_purse_Held.l1 l1 l2 fuel 0))
theorem P.slices_Equal_purse_Held_purse_Held (g0 : GW) (l1 : List S_purse_Held) (l2 : List S_purse_Held) (a1 : Option Addr) (n1 : Nat) (c1 : Nat) (a2 : Option Addr) (n2 : Nat) (c2 : Nat) (hR1 : RdS k_S_purse_Held g0 56 a1 n1 c1 l1) (hR2 : RdS k_S_purse_Held g0 56 a2 n2 c2 l2) (o1 : Bool) (hs : F.slices_Equal_purse_Held_purse_Held l1 l2 = some o1) :
    Calls Try.prog 47 #[.slice a1 n1 c1, .slice a2 n2 c2] g0.w (Ret NoM g0 fun v g => v = .bool o1) := by
  refine calls_of (args := [.slice a1 n1 c1, .slice a2 n2 c2]) Try.func47 rfl (0) ?_
  intro t ht htL
  refine ⟨_, rfl, ?_⟩
  refine CP.refr 26 [(0, .slice a1 n1 c1), (1, .slice a2 n2 c2)] (by kernel_rfl) (by kernel_rfl) ?_
  intro ds
  have tot : Step (fun l => NoM l ∨ t ≤ l) g0 g0 := Step.refl _ _
  unfold F.slices_Equal_purse_Held_purse_Held at hs
  refine CP.seqR ?_
  refine WP.still 1 (by kernel_rfl) ?_
  refine WP.done (by kernel_rfl) ?_
  refine NX.then_n ?_
  refine CP.seq ?_
  refine CP.seqR ?_
  refine WP.still 1 (by kernel_rfl) ?_
  refine WP.len (a := a1) (cp := c1) hR1.len (by kernel_rfl) ?_
  refine WP.still 1 (by kernel_rfl) ?_
  refine WP.len (a := a2) (cp := c2) hR2.len (by kernel_rfl) ?_
  refine WP.still 1 (by kernel_rfl) ?_
  refine WP.done (by kernel_rfl) ?_
  refine NX.then_n ?_
  refine CP.cond (b := ((l1.length : Int) != (l2.length : Int))) (by kernel_rfl) (fun h1 => ?_) (fun h1 => ?_)
  · replace hs := of_if_t hs h1
    refine CP.seqR ?_
    refine WP.still 1 (by kernel_rfl) ?_
    refine WP.done (by kernel_rfl) ?_
    refine NX.then_n ?_
    refine CP.ret ?_
    refine NX.then_r ?_
    replace hs := Option.some.inj hs
    obtain rfl := hs
    exact NX.fin (v := .bool false) (Res.still (by kernel_rfl)) tot htL rfl
  replace hs := of_if_f hs h1
  refine CP.skip ?_
  refine NX.then_n ?_
  refine CP.seq ?_
  refine CP.seqR ?_
  refine WP.still 1 (by kernel_rfl) ?_
  refine WP.len (a := a1) (cp := c1) hR1.len (by kernel_rfl) ?_
  refine WP.still 1 (by kernel_rfl) ?_
  refine WP.done (by kernel_rfl) ?_
  refine NX.then_n ?_
  refine CP.block ?_
  generalize fuel = k1 at hs
  refine CP.loop (fun k1 tm g => ∃ (x1 : Int), Fr 26 [(0, .slice a1 n1 c1), (1, .slice a2 n2 c2), (12, .int .i64 (l1.length : Int)), (13, .int .i64 x1)] tm ∧ Step (fun l => NoM l ∨ t ≤ l) g0 g ∧ RdS k_S_purse_Held g 56 a1 n1 c1 l1 ∧ RdS k_S_purse_Held g 56 a2 n2 c2 l2 ∧ F.slices_Equal_purse_Held_purse_Held.l1 l1 l2 k1 x1 = some o1) k1 ?_ ?_ ?_
  · exact ⟨0, ⟨by kernel_rfl, by kernel_rfl⟩, tot, hR1, hR2, hs⟩
  · rintro tm g ⟨x1, hF, tot, hR1, hR2, hs⟩
    exact absurd hs (by simp [F.slices_Equal_purse_Held_purse_Held.l1])
  clear tot hs hR1 hR2
  rintro k1 tm g ⟨x1, hF, tot, hR1, hR2, hs⟩
  clear ds
  obtain ⟨ds, rfl⟩ := hF.open
  clear hF
  unfold F.slices_Equal_purse_Held_purse_Held.l1 at hs
  refine CP.seqR ?_
  refine WP.still 1 (by kernel_rfl) ?_
  refine WP.done (by kernel_rfl) ?_
  refine NX.then_n ?_
  refine CP.seq ?_
  refine CP.cond (b := decide (x1 < (l1.length : Int))) (by kernel_rfl) (fun h6 => ?_) (fun h6 => ?_)
  · replace hs := of_if_t hs h6
    refine CP.skip ?_
    refine NX.then_n ?_
    refine CP.seq ?_
    refine CP.block ?_
    refine CP.seqR ?_
    refine WP.still 2 (by kernel_rfl) ?_
    refine WP.done (by kernel_rfl) ?_
    refine NX.then_n ?_
    refine CP.seq ?_
    by_cases hc5 : (0 : Int) ≤ x1 ∧ x1 < (l1.length : Int)
    case neg => rw [if_neg hc5] at hs; cases hs
    replace hs := of_if_p hs hc5
    by_cases hc6 : (0 : Int) ≤ x1 ∧ x1 < (l2.length : Int)
    case neg => rw [if_neg hc6] at hs; cases hs
    replace hs := of_if_p hs hc6
    obtain ⟨b5, u5, ha5⟩ := hR1.at hc5
    obtain ⟨b6, u6, ha6⟩ := hR2.at hc6
    refine CP.drawL (by kernel_rfl) [2, 3, 6, 7, 8] N.slices_Equal_purse_Held_purse_Held_0 [⟨none, [], [], fun l g => RdS k_S_purse_Held g 56 a1 n1 c1 l1⟩, ⟨none, [], [], fun l g => RdS k_S_purse_Held g 56 a2 n2 c2 l2⟩, ⟨some 0, [], [0], fun l g => l.getD 0 undef = .pointer (some ⟨b5, u5 + x1.toNat * 11, none⟩)⟩, ⟨some 1, [], [1], fun l g => l.getD 0 undef = AG [encA .u8 ((getI l1 x1).f1), [.int .i64 ((getI l1 x1).f2)], [.int .i64 ((getI l1 x1).f3)], [.int .i64 ((getI l1 x1).f4)]]⟩, ⟨some 2, [], [2], fun l g => l.getD 0 undef = .pointer (some ⟨b6, u6 + x1.toNat * 11, none⟩)⟩, ⟨some 3, [], [3], fun l g => l.getD 0 undef = AG [encA .u8 ((getI l2 x1).f1), [.int .i64 ((getI l2 x1).f2)], [.int .i64 ((getI l2 x1).f3)], [.int .i64 ((getI l2 x1).f4)]]⟩, ⟨some 4, [], [4], fun l g => l.getD 0 undef = .bool (!((((getI l1 x1).f1).1 == ((getI l2 x1).f1).1) && ((((getI l1 x1).f2) == ((getI l2 x1).f2)) && ((((getI l1 x1).f3) == ((getI l2 x1).f3)) && (((getI l1 x1).f4) == ((getI l2 x1).f4))))))⟩] [[], [], [], [], []] [] [0, 1, 4, 5] [] (by kernel_rfl) (by simp) (by simp) ⟨fun _ _ _ _ st h0 hl hj hR1 => (RdS.mono (e := 56) hR1 st h0), fun _ _ _ _ st h0 hl hj hR2 => (RdS.mono (e := 56) hR2 st h0), fun _ _ _ _ st h0 hl hj e0 => e0, fun _ _ _ _ st h0 hl hj e1 => e1, fun _ _ _ _ st h0 hl hj e2 => e2, fun _ _ _ _ st h0 hl hj e3 => e3, fun _ _ _ _ st h0 hl hj e4 => e4, trivial⟩ ⟨hR1, hR2, trivial, trivial, trivial, trivial, trivial, trivial⟩ (by kernel_rfl) (fun vs => by kernel_rfl) ?_ ?_ ?_
    · intro j hj; exact absurd hj (by simp)
    · intro j hj
      have hq : j = 0 ∨ j = 1 ∨ j = 2 ∨ j = 3 ∨ j = 4 := by have h : j < 5 := hj; omega
      rcases hq with rfl | rfl | rfl | rfl | rfl
      · intro vs gq stq hl hf
        obtain ⟨v0, v1, v2, v3, v4, rfl⟩ := len_k5 hl
        have hR1 := (show RdS k_S_purse_Held gq 56 a1 n1 c1 l1 from hf _ (List.mem_of_getElem? (i := 0) rfl) (by kernel_rfl))
        refine WP.indexA (t := 30) (e := 56) (sz := 11) (cap := c1) (k := .i64) (i := x1) hR1.len ha5 (by kernel_rfl) (by kernel_rfl) hc5 ?_
        refine WP.done (by kernel_rfl) (Shown.ok (v := .pointer (some ⟨b5, u5 + x1.toNat * 11, none⟩)) (by kernel_rfl) (Step.refl _ _) ?_)
        exact ⟨trivial, trivial, rfl, trivial, trivial, trivial, trivial, trivial⟩
      · intro vs gq stq hl hf
        obtain ⟨v0, v1, v2, v3, v4, rfl⟩ := len_k5 hl
        have hR1 := (show RdS k_S_purse_Held gq 56 a1 n1 c1 l1 from hf _ (List.mem_of_getElem? (i := 0) rfl) (by kernel_rfl))
        have e0 := (show v0 = .pointer (some ⟨b5, u5 + x1.toNat * 11, none⟩) from hf _ (List.mem_of_getElem? (i := 2) rfl) (by kernel_rfl))
        subst e0
        obtain ⟨cs5, hcR5, hcV5⟩ := hR1.src.view (getI_some hc5) ha5
        replace hcR5 := k_S_purse_Held.opn hcR5
        refine WP.loadV [encA .u8 ((getI l1 x1).f1), [.int .i64 ((getI l1 x1).f2)], [.int .i64 ((getI l1 x1).f3)], [.int .i64 ((getI l1 x1).f4)]] [8, 1, 1, 1] hcV5 hcR5 (by simp [len_encA]) (f := 0) (ty := 56) (agg := true) (size := 11) (rs := [encA .u8 ((getI l1 x1).f1), [.int .i64 ((getI l1 x1).f2)], [.int .i64 ((getI l1 x1).f3)], [.int .i64 ((getI l1 x1).f4)]]) (v := AG [encA .u8 ((getI l1 x1).f1), [.int .i64 ((getI l1 x1).f2)], [.int .i64 ((getI l1 x1).f3)], [.int .i64 ((getI l1 x1).f4)]]) (by kernel_rfl) (by kernel_rfl) (by kernel_rfl) (by kernel_rfl) ?_
        refine WP.done (by kernel_rfl) (Shown.ok (v := AG [encA .u8 ((getI l1 x1).f1), [.int .i64 ((getI l1 x1).f2)], [.int .i64 ((getI l1 x1).f3)], [.int .i64 ((getI l1 x1).f4)]]) (by kernel_rfl) (Step.refl _ _) ?_)
        exact ⟨trivial, trivial, trivial, rfl, trivial, trivial, trivial, trivial⟩
      · intro vs gq stq hl hf
        obtain ⟨v0, v1, v2, v3, v4, rfl⟩ := len_k5 hl
        have hR2 := (show RdS k_S_purse_Held gq 56 a2 n2 c2 l2 from hf _ (List.mem_of_getElem? (i := 1) rfl) (by kernel_rfl))
        refine WP.indexA (t := 30) (e := 56) (sz := 11) (cap := c2) (k := .i64) (i := x1) hR2.len ha6 (by kernel_rfl) (by kernel_rfl) hc6 ?_
        refine WP.done (by kernel_rfl) (Shown.ok (v := .pointer (some ⟨b6, u6 + x1.toNat * 11, none⟩)) (by kernel_rfl) (Step.refl _ _) ?_)
        exact ⟨trivial, trivial, trivial, trivial, rfl, trivial, trivial, trivial⟩
      · intro vs gq stq hl hf
        obtain ⟨v0, v1, v2, v3, v4, rfl⟩ := len_k5 hl
        have hR2 := (show RdS k_S_purse_Held gq 56 a2 n2 c2 l2 from hf _ (List.mem_of_getElem? (i := 1) rfl) (by kernel_rfl))
        have e2 := (show v2 = .pointer (some ⟨b6, u6 + x1.toNat * 11, none⟩) from hf _ (List.mem_of_getElem? (i := 4) rfl) (by kernel_rfl))
        subst e2
        obtain ⟨cs6, hcR6, hcV6⟩ := hR2.src.view (getI_some hc6) ha6
        replace hcR6 := k_S_purse_Held.opn hcR6
        refine WP.loadV [encA .u8 ((getI l2 x1).f1), [.int .i64 ((getI l2 x1).f2)], [.int .i64 ((getI l2 x1).f3)], [.int .i64 ((getI l2 x1).f4)]] [8, 1, 1, 1] hcV6 hcR6 (by simp [len_encA]) (f := 0) (ty := 56) (agg := true) (size := 11) (rs := [encA .u8 ((getI l2 x1).f1), [.int .i64 ((getI l2 x1).f2)], [.int .i64 ((getI l2 x1).f3)], [.int .i64 ((getI l2 x1).f4)]]) (v := AG [encA .u8 ((getI l2 x1).f1), [.int .i64 ((getI l2 x1).f2)], [.int .i64 ((getI l2 x1).f3)], [.int .i64 ((getI l2 x1).f4)]]) (by kernel_rfl) (by kernel_rfl) (by kernel_rfl) (by kernel_rfl) ?_
        refine WP.done (by kernel_rfl) (Shown.ok (v := AG [encA .u8 ((getI l2 x1).f1), [.int .i64 ((getI l2 x1).f2)], [.int .i64 ((getI l2 x1).f3)], [.int .i64 ((getI l2 x1).f4)]]) (by kernel_rfl) (Step.refl _ _) ?_)
        exact ⟨trivial, trivial, trivial, trivial, trivial, rfl, trivial, trivial⟩
      · intro vs gq stq hl hf
        obtain ⟨v0, v1, v2, v3, v4, rfl⟩ := len_k5 hl
        have e1 := (show v1 = AG [encA .u8 ((getI l1 x1).f1), [.int .i64 ((getI l1 x1).f2)], [.int .i64 ((getI l1 x1).f3)], [.int .i64 ((getI l1 x1).f4)]] from hf _ (List.mem_of_getElem? (i := 3) rfl) (by kernel_rfl))
        subst e1
        have e3 := (show v3 = AG [encA .u8 ((getI l2 x1).f1), [.int .i64 ((getI l2 x1).f2)], [.int .i64 ((getI l2 x1).f3)], [.int .i64 ((getI l2 x1).f4)]] from hf _ (List.mem_of_getElem? (i := 5) rfl) (by kernel_rfl))
        subst e3
        refine WP.neV (by kernel_rfl) (by kernel_rfl) (EqV.struct (d := 9999) (t := 56) (xs := [encA .u8 ((getI l1 x1).f1), [.int .i64 ((getI l1 x1).f2)], [.int .i64 ((getI l1 x1).f3)], [.int .i64 ((getI l1 x1).f4)]]) (ys := [encA .u8 ((getI l2 x1).f1), [.int .i64 ((getI l2 x1).f2)], [.int .i64 ((getI l2 x1).f3)], [.int .i64 ((getI l2 x1).f4)]]) (by kernel_rfl) (by kernel_rfl) (EqFi.cons (ns := [8, 1, 1, 1]) (ms := [8, 1, 1, 1]) (t' := 29) (x := AG [encA .u8 ((getI l1 x1).f1)]) (y := AG [encA .u8 ((getI l2 x1).f1)]) (by simp [len_encA]) (by simp [len_encA]) (by kernel_rfl) (by kernel_rfl) (EqV.arr (d := 9997) (t := 29) (e := 5) (m := 8) (k := .u8) (x := (getI l1 x1).f1) (y := (getI l2 x1).f1) (by kernel_rfl) (by kernel_rfl)) (EqFi.cons (ns := [8, 1, 1, 1]) (ms := [8, 1, 1, 1]) (t' := 3) (x := .int .i64 ((getI l1 x1).f2)) (y := .int .i64 ((getI l2 x1).f2)) (by simp [len_encA]) (by simp [len_encA]) (by kernel_rfl) (by kernel_rfl) (EqV.int (d := 9998) (k' := .i64) (by kernel_rfl)) (EqFi.cons (ns := [8, 1, 1, 1]) (ms := [8, 1, 1, 1]) (t' := 3) (x := .int .i64 ((getI l1 x1).f3)) (y := .int .i64 ((getI l2 x1).f3)) (by simp [len_encA]) (by simp [len_encA]) (by kernel_rfl) (by kernel_rfl) (EqV.int (d := 9998) (k' := .i64) (by kernel_rfl)) (EqFi.one (ns := [8, 1, 1, 1]) (ms := [8, 1, 1, 1]) (t' := 3) (x := .int .i64 ((getI l1 x1).f4)) (y := .int .i64 ((getI l2 x1).f4)) (by simp [len_encA]) (by simp [len_encA]) (by kernel_rfl) (by kernel_rfl) (EqV.int (d := 9998) (k' := .i64) (by kernel_rfl)) (Nat.le_of_ble_eq_true rfl)))))) ?_
        refine WP.done (by kernel_rfl) (Shown.ok (v := .bool (!((((getI l1 x1).f1).1 == ((getI l2 x1).f1).1) && ((((getI l1 x1).f2) == ((getI l2 x1).f2)) && ((((getI l1 x1).f3) == ((getI l2 x1).f3)) && (((getI l1 x1).f4) == ((getI l2 x1).f4))))))) (by kernel_rfl) (Step.refl _ _) ?_)
        exact ⟨trivial, trivial, trivial, trivial, trivial, trivial, rfl, trivial⟩
    intro vs g1 st1 hl hf
    obtain ⟨v0, v1, v2, v3, v4, rfl⟩ := len_k5 hl
    have e4 := (show v4 = .bool (!((((getI l1 x1).f1).1 == ((getI l2 x1).f1).1) && ((((getI l1 x1).f2) == ((getI l2 x1).f2)) && ((((getI l1 x1).f3) == ((getI l2 x1).f3)) && (((getI l1 x1).f4) == ((getI l2 x1).f4)))))) from hf _ (List.mem_of_getElem? (i := 6) rfl) (by kernel_rfl))
    subst e4
    replace hR1 := hR1.mono st1.toNo (fun x => x)
    replace hR2 := hR2.mono st1.toNo (fun x => x)
    replace tot := tot.trans st1.toNo.pure
    refine NX.then_n ?_
    refine CP.refr 26 [(0, .slice a1 n1 c1), (1, .slice a2 n2 c2), (12, .int .i64 (l1.length : Int)), (13, .int .i64 x1), (24, .bool (!((((getI l1 x1).f1).1 == ((getI l2 x1).f1).1) && ((((getI l1 x1).f2) == ((getI l2 x1).f2)) && ((((getI l1 x1).f3) == ((getI l2 x1).f3)) && (((getI l1 x1).f4) == ((getI l2 x1).f4)))))))] (by kernel_rfl) (by kernel_rfl) ?_
    clear ds
    intro ds
    refine CP.cond (b := (!((((getI l1 x1).f1).1 == ((getI l2 x1).f1).1) && ((((getI l1 x1).f2) == ((getI l2 x1).f2)) && ((((getI l1 x1).f3) == ((getI l2 x1).f3)) && (((getI l1 x1).f4) == ((getI l2 x1).f4))))))) (by kernel_rfl) (fun h7 => ?_) (fun h7 => ?_)
    · replace hs := of_if_t hs h7
      refine CP.seqR ?_
      refine WP.still 1 (by kernel_rfl) ?_
      refine WP.done (by kernel_rfl) ?_
      refine NX.then_n ?_
      refine CP.ret ?_
      refine NX.block_r ?_
      refine NX.then_r ?_
      refine NX.then_r ?_
      refine NX.block_r ?_
      refine NX.then_r ?_
      replace hs := Option.some.inj hs
      obtain rfl := hs
      exact NX.fin (v := .bool false) (Res.still (by kernel_rfl)) tot htL rfl
    replace hs := of_if_f hs h7
    refine CP.skip ?_
    refine NX.block_n ?_
    refine NX.then_n ?_
    refine CP.region ?_
    refine WP.still 2 (by kernel_rfl) ?_
    refine WP.done (by kernel_rfl) ?_
    refine NX.post ?_
    exact ⟨(IntKind.i64.wrap (x1 + 1)), ⟨by kernel_rfl, by kernel_rfl⟩, tot, hR1, hR2, hs⟩
  replace hs := of_if_f hs h6
  refine CP.exit ?_
  refine NX.then_e ?_
  refine NX.then_e ?_
  refine NX.block_s ?_
  refine NX.then_n ?_
  refine CP.seqR ?_
  refine WP.still 1 (by kernel_rfl) ?_
  refine WP.done (by kernel_rfl) ?_
  refine NX.then_n ?_
  refine CP.ret ?_
  replace hs := Option.some.inj hs
  obtain rfl := hs
  exact NX.fin (v := .bool true) (Res.still (by kernel_rfl)) tot htL rfl
def F.purse_Same.c1 (q2 : Bool) : Option (Bool) := (some q2)
def F.purse_Same (d1 : Arr Int 8) (x1 : Int) (d2 : Arr Int 2) (l1 : List S_purse_Held) (d3 : Arr Int 8) (x2 : Int) (d4 : Arr Int 2) (l2 : List S_purse_Held) : Option (Bool) := (if (d1.1 == d3.1) = true then (if (x1 == x2) = true then (if (d2.1 == d4.1) = true then ((F.slices_Equal_purse_Held_purse_Held l1 l2).bind fun q3 => (F.purse_Same.c1 q3)) else (F.purse_Same.c1 false)) else (F.purse_Same.c1 false)) else (F.purse_Same.c1 false))
theorem P.purse_Same (g0 : GW) (d1 : Arr Int 8) (x1 : Int) (d2 : Arr Int 2) (l1 : List S_purse_Held) (d3 : Arr Int 8) (x2 : Int) (d4 : Arr Int 2) (l2 : List S_purse_Held) (a1 : Option Addr) (n1 : Nat) (c1 : Nat) (a2 : Option Addr) (n2 : Nat) (c2 : Nat) (hR1 : RdS k_S_purse_Held g0 56 a1 n1 c1 l1) (hR2 : RdS k_S_purse_Held g0 56 a2 n2 c2 l2) (o1 : Bool) (hs : F.purse_Same d1 x1 d2 l1 d3 x2 d4 l2 = some o1) :
    Calls Try.prog 20 #[AG [encA .u8 d1, [.int .i64 x1], encA .i64 d2, [.slice a1 n1 c1]], AG [encA .u8 d3, [.int .i64 x2], encA .i64 d4, [.slice a2 n2 c2]]] g0.w (Ret NoM g0 fun v g => v = .bool o1) := by
  refine calls_of (args := [AG [encA .u8 d1, [.int .i64 x1], encA .i64 d2, [.slice a1 n1 c1]], AG [encA .u8 d3, [.int .i64 x2], encA .i64 d4, [.slice a2 n2 c2]]]) Try.func20 rfl (0) ?_
  intro t ht htL
  refine ⟨_, rfl, ?_⟩
  refine CP.refr 31 [(0, AG [encA .u8 d1, [.int .i64 x1], encA .i64 d2, [.slice a1 n1 c1]]), (1, AG [encA .u8 d3, [.int .i64 x2], encA .i64 d4, [.slice a2 n2 c2]])] (by kernel_rfl) (by kernel_rfl) ?_
  intro ds
  have tot : Step (fun l => NoM l ∨ t ≤ l) g0 g0 := Step.refl _ _
  unfold F.purse_Same at hs
  refine CP.seqR ?_
  refine WP.alloc (T := 32) (t + 1) [encA .u8 d1, [.int .i64 x1], encA .i64 d2, [.slice a1 n1 c1]] [8, 1, 2, 1] (by kernel_rfl) (by simp [len_encA]) ?_
  intro g1 b1 st1 hB1
  replace hR1 := hR1.mono st1 (fun x => x)
  replace hR2 := hR2.mono st1 (fun x => x)
  replace tot := tot.trans st1.pure
  refine WP.alloc (T := 32) (t + 2) [encA .u8 d3, [.int .i64 x2], encA .i64 d4, [.slice a2 n2 c2]] [8, 1, 2, 1] (by kernel_rfl) (by simp [len_encA]) ?_
  intro g2 b2 st2 hB2
  replace hR1 := hR1.mono st2 (fun x => x)
  replace hR2 := hR2.mono st2 (fun x => x)
  replace hB1 := hB1.mono st2 (fun x => x)
  replace tot := tot.trans st2.pure
  refine WP.still 1 (by kernel_rfl) ?_
  refine WP.done (by kernel_rfl) ?_
  refine NX.then_n ?_
  refine CP.cut (fun tm g => ∃ (q2 : Bool), Fr 31 [(4, .bool q2)] tm ∧ Step (fun l => NoM l ∨ t ≤ l) g0 g ∧ (F.purse_Same.c1 q2) = some o1) ?_ ?_
  · refine CP.region ?_
    refine WP.still 1 (by kernel_rfl) ?_
    refine WP.loadB (v := AG [encA .u8 d1]) hB1 (by kernel_rfl) (by kernel_rfl) ?_
    refine WP.still 1 (by kernel_rfl) ?_
    refine WP.loadB (v := AG [encA .u8 d3]) hB2 (by kernel_rfl) (by kernel_rfl) ?_
    refine WP.eqV (by kernel_rfl) (by kernel_rfl) (EqV.arr (d := 9998) (t := 29) (e := 5) (m := 8) (k := .u8) (x := d1) (y := d3) (by kernel_rfl) (by kernel_rfl)) ?_
    refine WP.still 1 (by kernel_rfl) ?_
    refine WP.guard 10 (b := (d1.1 == d3.1)) (by kernel_rfl) (fun h4 => ?_) (fun h4 => ?_)
    · replace hs := of_if_t hs h4
      refine WP.still 1 (by kernel_rfl) ?_
      refine WP.loadB (v := .int .i64 x1) hB1 (by kernel_rfl) (by kernel_rfl) ?_
      refine WP.still 1 (by kernel_rfl) ?_
      refine WP.loadB (v := .int .i64 x2) hB2 (by kernel_rfl) (by kernel_rfl) ?_
      refine WP.still 3 (by kernel_rfl) ?_
      refine WP.guard 17 (b := (x1 == x2)) (by kernel_rfl) (fun h5 => ?_) (fun h5 => ?_)
      · replace hs := of_if_t hs h5
        refine WP.still 1 (by kernel_rfl) ?_
        refine WP.loadB (v := AG [encA .i64 d2]) hB1 (by kernel_rfl) (by kernel_rfl) ?_
        refine WP.still 1 (by kernel_rfl) ?_
        refine WP.loadB (v := AG [encA .i64 d4]) hB2 (by kernel_rfl) (by kernel_rfl) ?_
        refine WP.eqV (by kernel_rfl) (by kernel_rfl) (EqV.arr (d := 9998) (t := 23) (e := 3) (m := 2) (k := .i64) (x := d2) (y := d4) (by kernel_rfl) (by kernel_rfl)) ?_
        refine WP.still 2 (by kernel_rfl) ?_
        refine WP.guard 24 (b := (d2.1 == d4.1)) (by kernel_rfl) (fun h6 => ?_) (fun h6 => ?_)
        · replace hs := of_if_t hs h6
          refine WP.still 1 (by kernel_rfl) ?_
          refine WP.loadB (v := .slice a1 n1 c1) hB1 (by kernel_rfl) (by kernel_rfl) ?_
          refine WP.still 1 (by kernel_rfl) ?_
          refine WP.loadB (v := .slice a2 n2 c2) hB2 (by kernel_rfl) (by kernel_rfl) ?_
          replace hs := Option.bind_eq_some_iff.1 hs
          obtain ⟨q3, hk2, hs⟩ := hs
          have hcal2 := P.slices_Equal_purse_Held_purse_Held g2 l1 l2 a1 n1 c1 a2 n2 c2 hR1 hR2 q3 hk2
          refine WP.callC hcal2 (by kernel_rfl) ?_
          rintro _ g4 st4 rfl
          replace hB1 := hB1.mono st4 (fun x => x)
          replace hR1 := hR1.mono st4 (fun x => x)
          replace hB2 := hB2.mono st4 (fun x => x)
          replace hR2 := hR2.mono st4 (fun x => x)
          replace tot := tot.trans st4.pure
          refine WP.still 2 (by kernel_rfl) ?_
          refine WP.done (by kernel_rfl) ?_
          refine NX.post ?_
          exact ⟨q3, ⟨by kernel_rfl, by kernel_rfl⟩, tot, hs⟩
        replace hs := of_if_f hs h6
        refine WP.still 7 (by kernel_rfl) ?_
        refine WP.done (by kernel_rfl) ?_
        refine NX.post ?_
        exact ⟨false, ⟨by kernel_rfl, by kernel_rfl⟩, tot, hs⟩
      replace hs := of_if_f hs h5
      refine WP.still 14 (by kernel_rfl) ?_
      refine WP.done (by kernel_rfl) ?_
      refine NX.post ?_
      exact ⟨false, ⟨by kernel_rfl, by kernel_rfl⟩, tot, hs⟩
    replace hs := of_if_f hs h4
    refine WP.still 21 (by kernel_rfl) ?_
    refine WP.done (by kernel_rfl) ?_
    refine NX.post ?_
    exact ⟨false, ⟨by kernel_rfl, by kernel_rfl⟩, tot, hs⟩
  clear tot hs hB1 hR1 hB2 hR2
  rintro tm g ⟨q2, hF, tot, hs⟩
  clear ds
  obtain ⟨ds, rfl⟩ := hF.open
  clear hF
  unfold F.purse_Same.c1 at hs
  refine CP.ret ?_
  replace hs := Option.some.inj hs
  obtain rfl := hs
  exact NX.fin (v := .bool q2) (Res.still (by kernel_rfl)) tot htL rfl
def F.octet_PutText (l1 : List Int) (s1 : ByteArray) : Option ((List Int)) := ((F.octet_PutBytes l1 (strBytes s1)).bind fun l2 => (some l2))
theorem P.octet_PutText (g0 : GW) (r0 : Nat) (l1 : List Int) (s1 : ByteArray) (a1 : Option Addr) (n1 : Nat) (c1 : Nat) (hR1 : RdS (Kd.int .u8) g0 5 a1 n1 c1 l1) (o1 : List Int) (hs : F.octet_PutText l1 s1 = some o1) :
    Calls Try.prog 63 #[.slice a1 n1 c1, .string s1] g0.w (Ret NoM g0 fun v g => ∃ (a_1 : Option Addr) (n_1 : Nat) (c_1 : Nat), v = .slice a_1 n_1 c_1 ∧ OwnS (Kd.int .u8) g r0 5 a_1 n_1 c_1 o1) := by
  refine calls_of (args := [.slice a1 n1 c1, .string s1]) Try.func63 rfl (r0 + 0) ?_
  intro t ht htL
  refine ⟨_, rfl, ?_⟩
  refine CP.refr 9 [(0, .slice a1 n1 c1), (1, .string s1)] (by kernel_rfl) (by kernel_rfl) ?_
  intro ds
  have tot : Step (fun l => NoM l ∨ t ≤ l) g0 g0 := Step.refl _ _
  unfold F.octet_PutText at hs
  refine CP.seqR ?_
  refine WP.still 1 (by kernel_rfl) ?_
  refine WP.done (by kernel_rfl) ?_
  refine NX.then_n ?_
  refine CP.seqR ?_
  refine WP.still 2 (by kernel_rfl) ?_
  refine WP.toBytes (e := 5) (s := s1) (by kernel_rfl) ?_
  intro g1 a2 c2 st1 hR2
  replace hR1 := hR1.mono st1 (fun x => x)
  replace tot := tot.trans st1.pure
  replace hs := Option.bind_eq_some_iff.1 hs
  obtain ⟨l2, hk1, hs⟩ := hs
  have hcal1 := P.octet_PutBytes g1 (t + 1) l1 (strBytes s1) a1 n1 c1 a2 s1.size c2 hR1 hR2 l2 hk1
  refine WP.callC hcal1 (by kernel_rfl) ?_
  rintro _ g2 st2 ⟨a3, n2, c3, rfl, hR3⟩
  replace hR1 := hR1.mono st2 (fun x => x)
  replace hR2 := hR2.mono st2 (fun x => x)
  replace tot := tot.trans st2.pure
  refine WP.still 1 (by kernel_rfl) ?_
  refine WP.done (by kernel_rfl) ?_
  refine NX.then_n ?_
  refine CP.ret ?_
  obtain ⟨g3, hw1, st3, hnew⟩ := hR3.relab (by omega) r0
  refine NX.regw hw1 ?_
  replace tot := tot.trans (st3.up1 (.inr (by omega)))
  clear hR3
  have hR3 := hnew
  clear hnew
  replace hs := Option.some.inj hs
  obtain rfl := hs
  exact NX.fin (v := .slice a3 n2 c3) (Res.still (by kernel_rfl)) tot htL ⟨a3, n2, c3, rfl, hR3⟩
def F.hash_begin (x1 : Int) : Option (Int × Int × Int × Int) := (some (2611923443488327891, 1376283091369227076, 11820040416388919760, x1))
theorem P.hash_begin (g0 : GW) (x1 : Int) (o1 : Int) (o2 : Int) (o3 : Int) (o4 : Int) (hs : F.hash_begin x1 = some (o1, o2, o3, o4)) :
    Calls Try.prog 84 #[.int .u64 x1] g0.w (Ret NoM g0 fun v g => v = AG [[.int .u64 o1], [.int .u64 o2], [.int .u64 o3], [.int .u64 o4]]) := by
  refine calls_of (args := [.int .u64 x1]) Try.func84 rfl (0) ?_
  intro t ht htL
  refine ⟨_, rfl, ?_⟩
  refine CP.refr 5 [(0, .int .u64 x1)] (by kernel_rfl) (by kernel_rfl) ?_
  intro ds
  have tot : Step (fun l => NoM l ∨ t ≤ l) g0 g0 := Step.refl _ _
  unfold F.hash_begin at hs
  refine CP.seqR ?_
  refine WP.alloc (T := 142) (t + 1) [[.int .u64 0], [.int .u64 0], [.int .u64 0], [.int .u64 0]] [1, 1, 1, 1] (by kernel_rfl) rfl ?_
  intro g1 b1 st1 hB1
  replace tot := tot.trans st1.pure
  refine WP.done (by kernel_rfl) ?_
  refine NX.then_n ?_
  refine CP.seqR ?_
  refine WP.still 2 (by kernel_rfl) ?_
  refine WP.storeB (ty := 142) (off := 0) (v := AG [[.int .u64 2611923443488327891], [.int .u64 1376283091369227076], [.int .u64 11820040416388919760], [.int .u64 x1]]) hB1 [[.int .u64 2611923443488327891], [.int .u64 1376283091369227076], [.int .u64 11820040416388919760], [.int .u64 x1]] [1, 1, 1, 1] (by kernel_rfl) (by kernel_rfl) rfl (by kernel_rfl) [[.int .u64 2611923443488327891], [.int .u64 1376283091369227076], [.int .u64 11820040416388919760], [.int .u64 x1]] (by kernel_rfl) (.one rfl (.one rfl (.one rfl (.one rfl .nil)))) ?_
  intro g2 st2 hB2
  replace tot := tot.trans (st2.up1 (.inr (by omega)))
  clear hB1
  have hB1 := hB2
  clear hB2
  refine WP.done (by kernel_rfl) ?_
  refine NX.then_n ?_
  refine CP.ret ?_
  replace hs := Option.some.inj hs
  simp only [Prod.mk.injEq] at hs
  obtain ⟨rfl, rfl, rfl, rfl⟩ := hs
  exact NX.fin (v := AG [[.int .u64 2611923443488327891], [.int .u64 1376283091369227076], [.int .u64 11820040416388919760], [.int .u64 x1]]) (Res.one rfl (RV.box (agg := true) (size := 4) (rs := [[.int .u64 2611923443488327891], [.int .u64 1376283091369227076], [.int .u64 11820040416388919760], [.int .u64 x1]]) hB1 (by kernel_rfl) (by kernel_rfl) (by kernel_rfl) (by kernel_rfl))) tot htL rfl
def F.hash_number.l1 (l1 : List Int) : Nat → Int → Int → Option (Int)
  | 0, _, _ => none
  | k + 1, x1, x2 => (if decide (x2 < (l1.length : Int)) = true then (if (0 : Int) ≤ x2 ∧ x2 < (l1.length : Int) then (if (0 : Int) ≤ (IntKind.i64.wrap (8 * x2)) then (F.hash_number.l1 l1 k (bitOr .u64 x1 (shV true .u64 (IntKind.u64.wrap (getI l1 x2)) (IntKind.i64.wrap (8 * x2)))) (IntKind.i64.wrap (x2 + 1))) else none) else none) else (some x1))
def F.hash_number (l1 : List Int) : Option (Int) := (F.hash_number.l1 l1 fuel 0 0)
theorem P.hash_number (g0 : GW) (l1 : List Int) (a1 : Option Addr) (n1 : Nat) (c1 : Nat) (hR1 : RdS (Kd.int .u8) g0 5 a1 n1 c1 l1) (o1 : Int) (hs : F.hash_number l1 = some o1) :
    Calls Try.prog 101 #[.slice a1 n1 c1] g0.w (Ret NoM g0 fun v g => v = .int .u64 o1) := by
  refine calls_of (args := [.slice a1 n1 c1]) Try.func101 rfl (0) ?_
  intro t ht htL
  refine ⟨_, rfl, ?_⟩
  refine CP.refr 22 [(0, .slice a1 n1 c1)] (by kernel_rfl) (by kernel_rfl) ?_
  intro ds
  have tot : Step (fun l => NoM l ∨ t ≤ l) g0 g0 := Step.refl _ _
  unfold F.hash_number at hs
  refine CP.seqR ?_
  refine WP.still 1 (by kernel_rfl) ?_
  refine WP.done (by kernel_rfl) ?_
  refine NX.then_n ?_
  refine CP.seqR ?_
  refine WP.still 1 (by kernel_rfl) ?_
  refine WP.done (by kernel_rfl) ?_
  refine NX.then_n ?_
  refine CP.seq ?_
  refine CP.seqR ?_
  refine WP.still 1 (by kernel_rfl) ?_
  refine WP.len (a := a1) (cp := c1) hR1.len (by kernel_rfl) ?_
  refine WP.still 1 (by kernel_rfl) ?_
  refine WP.done (by kernel_rfl) ?_
  refine NX.then_n ?_
  refine CP.block ?_
  generalize fuel = k1 at hs
  refine CP.loop (fun k1 tm g => ∃ (x1 : Int) (x2 : Int), Fr 22 [(3, .int .u64 x1), (6, .slice a1 n1 c1), (7, .int .i64 (l1.length : Int)), (8, .int .i64 x2)] tm ∧ Step (fun l => NoM l ∨ t ≤ l) g0 g ∧ RdS (Kd.int .u8) g 5 a1 n1 c1 l1 ∧ F.hash_number.l1 l1 k1 x1 x2 = some o1) k1 ?_ ?_ ?_
  · exact ⟨0, 0, ⟨by kernel_rfl, by kernel_rfl⟩, tot, hR1, hs⟩
  · rintro tm g ⟨x1, x2, hF, tot, hR1, hs⟩
    exact absurd hs (by simp [F.hash_number.l1])
  clear tot hs hR1
  rintro k1 tm g ⟨x1, x2, hF, tot, hR1, hs⟩
  clear ds
  obtain ⟨ds, rfl⟩ := hF.open
  clear hF
  unfold F.hash_number.l1 at hs
  refine CP.seqR ?_
  refine WP.still 1 (by kernel_rfl) ?_
  refine WP.done (by kernel_rfl) ?_
  refine NX.then_n ?_
  refine CP.seq ?_
  refine CP.cond (b := decide (x2 < (l1.length : Int))) (by kernel_rfl) (fun h3 => ?_) (fun h3 => ?_)
  · replace hs := of_if_t hs h3
    refine CP.skip ?_
    refine NX.then_n ?_
    refine CP.seq ?_
    refine CP.block ?_
    refine CP.seqR ?_
    refine WP.still 1 (by kernel_rfl) ?_
    by_cases hc5 : (0 : Int) ≤ x2 ∧ x2 < (l1.length : Int)
    case neg => rw [if_neg hc5] at hs; cases hs
    replace hs := of_if_p hs hc5
    obtain ⟨b3, u3, ha3⟩ := hR1.at hc5
    refine WP.indexA (t := 64) (e := 5) (sz := 1) (cap := c1) (k := .i64) (i := x2) hR1.len ha3 (by kernel_rfl) (by kernel_rfl) hc5 ?_
    obtain ⟨cs3, hcR3, hcV3⟩ := hR1.src.view (getI_some hc5) ha3
    replace hcR3 := Kd.o_int hcR3
    refine WP.loadV [[.int .u8 (getI l1 x2)]] [1] hcV3 hcR3 rfl (f := 0) (ty := 5) (agg := false) (size := 1) (rs := [[.int .u8 (getI l1 x2)]]) (v := .int .u8 (getI l1 x2)) (by kernel_rfl) (by kernel_rfl) (by kernel_rfl) (by kernel_rfl) ?_
    refine WP.still 2 (by kernel_rfl) ?_
    refine WP.done (by kernel_rfl) ?_
    refine NX.then_n ?_
    refine CP.region ?_
    refine WP.still 5 (by kernel_rfl) ?_
    by_cases hc6 : (0 : Int) ≤ (IntKind.i64.wrap (8 * x2))
    case neg => rw [if_neg hc6] at hs; cases hs
    replace hs := of_if_p hs hc6
    refine WP.shift (left := true) (k := .u64) (yk := .i64) (x := (IntKind.u64.wrap (getI l1 x2))) (y := (IntKind.i64.wrap (8 * x2))) (by kernel_rfl) hc6 ?_
    refine WP.still 2 (by kernel_rfl) ?_
    refine WP.done (by kernel_rfl) ?_
    refine NX.block_n ?_
    refine NX.then_n ?_
    refine CP.refr 22 [(3, .int .u64 (bitOr .u64 x1 (shV true .u64 (IntKind.u64.wrap (getI l1 x2)) (IntKind.i64.wrap (8 * x2))))), (6, .slice a1 n1 c1), (7, .int .i64 (l1.length : Int)), (8, .int .i64 x2)] (by kernel_rfl) (by kernel_rfl) ?_
    clear ds
    intro ds
    refine CP.region ?_
    refine WP.still 2 (by kernel_rfl) ?_
    refine WP.done (by kernel_rfl) ?_
    refine NX.post ?_
    exact ⟨(bitOr .u64 x1 (shV true .u64 (IntKind.u64.wrap (getI l1 x2)) (IntKind.i64.wrap (8 * x2)))), (IntKind.i64.wrap (x2 + 1)), ⟨by kernel_rfl, by kernel_rfl⟩, tot, hR1, hs⟩
  replace hs := of_if_f hs h3
  refine CP.exit ?_
  refine NX.then_e ?_
  refine NX.then_e ?_
  refine NX.block_s ?_
  refine NX.then_n ?_
  refine CP.seqR ?_
  refine WP.still 2 (by kernel_rfl) ?_
  refine WP.done (by kernel_rfl) ?_
  refine NX.then_n ?_
  refine CP.ret ?_
  replace hs := Option.some.inj hs
  obtain rfl := hs
  exact NX.fin (v := .int .u64 x1) (Res.still (by kernel_rfl)) tot htL rfl
def F.math_bits_RotateLeft64 (x1 : Int) (x2 : Int) : Option (Int) := (if (0 : Int) ≤ (bitAnd .u64 (IntKind.u64.wrap x2) 63) then (if (0 : Int) ≤ (IntKind.u64.wrap (64 - (bitAnd .u64 (IntKind.u64.wrap x2) 63))) then (some (bitOr .u64 (shV true .u64 x1 (bitAnd .u64 (IntKind.u64.wrap x2) 63)) (shV false .u64 x1 (IntKind.u64.wrap (64 - (bitAnd .u64 (IntKind.u64.wrap x2) 63)))))) else none) else none)
theorem P.math_bits_RotateLeft64 (g0 : GW) (x1 : Int) (x2 : Int) (o1 : Int) (hs : F.math_bits_RotateLeft64 x1 x2 = some o1) :
    Calls Try.prog 118 #[.int .u64 x1, .int .i64 x2] g0.w (Ret NoM g0 fun v g => v = .int .u64 o1) := by
  refine calls_of (args := [.int .u64 x1, .int .i64 x2]) Try.func118 rfl (0) ?_
  intro t ht htL
  refine ⟨_, rfl, ?_⟩
  refine CP.refr 17 [(0, .int .u64 x1), (1, .int .i64 x2)] (by kernel_rfl) (by kernel_rfl) ?_
  intro ds
  have tot : Step (fun l => NoM l ∨ t ≤ l) g0 g0 := Step.refl _ _
  unfold F.math_bits_RotateLeft64 at hs
  refine CP.seqR ?_
  refine WP.still 1 (by kernel_rfl) ?_
  refine WP.done (by kernel_rfl) ?_
  refine NX.then_n ?_
  refine CP.seqR ?_
  refine WP.still 4 (by kernel_rfl) ?_
  refine WP.done (by kernel_rfl) ?_
  refine NX.then_n ?_
  refine CP.seqR ?_
  refine WP.still 2 (by kernel_rfl) ?_
  by_cases hc1 : (0 : Int) ≤ (bitAnd .u64 (IntKind.u64.wrap x2) 63)
  case neg => rw [if_neg hc1] at hs; cases hs
  replace hs := of_if_p hs hc1
  refine WP.shift (left := true) (k := .u64) (yk := .u64) (x := x1) (y := (bitAnd .u64 (IntKind.u64.wrap x2) 63)) (by kernel_rfl) hc1 ?_
  refine WP.still 3 (by kernel_rfl) ?_
  by_cases hc2 : (0 : Int) ≤ (IntKind.u64.wrap (64 - (bitAnd .u64 (IntKind.u64.wrap x2) 63)))
  case neg => rw [if_neg hc2] at hs; cases hs
  replace hs := of_if_p hs hc2
  refine WP.shift (left := false) (k := .u64) (yk := .u64) (x := x1) (y := (IntKind.u64.wrap (64 - (bitAnd .u64 (IntKind.u64.wrap x2) 63)))) (by kernel_rfl) hc2 ?_
  refine WP.still 2 (by kernel_rfl) ?_
  refine WP.done (by kernel_rfl) ?_
  refine NX.then_n ?_
  refine CP.refr 17 [(4, .int .u64 (bitOr .u64 (shV true .u64 x1 (bitAnd .u64 (IntKind.u64.wrap x2) 63)) (shV false .u64 x1 (IntKind.u64.wrap (64 - (bitAnd .u64 (IntKind.u64.wrap x2) 63))))))] (by kernel_rfl) (by kernel_rfl) ?_
  clear ds
  intro ds
  refine CP.ret ?_
  replace hs := Option.some.inj hs
  obtain rfl := hs
  exact NX.fin (v := .int .u64 (bitOr .u64 (shV true .u64 x1 (bitAnd .u64 (IntKind.u64.wrap x2) 63)) (shV false .u64 x1 (IntKind.u64.wrap (64 - (bitAnd .u64 (IntKind.u64.wrap x2) 63)))))) (Res.still (by kernel_rfl)) tot htL rfl
def N.hash_state_mix_0 : List (List Nat) := [[], [], [1], [1, 2], [1, 2, 3], [], [5], [5, 6], [5, 6, 7], [1, 2, 3, 4, 5, 6, 7, 8], [], [1, 2, 3, 4, 5, 6, 7, 8, 9, 10], [0], [0, 1, 2, 3, 4, 5, 6, 7, 8, 9, 10, 11, 12], [0, 1, 2, 3, 4, 5, 6, 7, 8, 9, 10, 11, 12, 13]]
def N.hash_state_mix_1 : List (List Nat) := [[], [0], [0, 1], [0, 1, 2], [], [4], [4, 5], [4, 5, 6], [0, 1, 2, 3, 4, 5, 6, 7], [0], [0, 1, 2, 3, 4, 5, 6, 7, 8, 9], [0, 1, 2, 3, 4, 5, 6, 7, 8, 9, 10]]
def F.hash_state_mix (x1 : Int) (x2 : Int) (x3 : Int) (x4 : Int) (x5 : Int) (x6 : Int) : Option (Int × Int × Int × Int) := ((F.math_bits_RotateLeft64 (bitXor .u64 x4 x1) x5).bind fun x7 => ((F.math_bits_RotateLeft64 (bitXor .u64 x2 (IntKind.u64.wrap (x3 + x7))) x6).bind fun x8 => (some (x1, x8, (IntKind.u64.wrap (x3 + x7)), x7))))
theorem P.hash_state_mix (g0 : GW) (m0 : Nat) (x1 : Int) (x2 : Int) (x3 : Int) (x4 : Int) (x5 : Int) (x6 : Int) (b1 : Nat) (hB1 : Box g0 m0 b1 142 [[.int .u64 x1], [.int .u64 x2], [.int .u64 x3], [.int .u64 x4]] [1, 1, 1, 1]) (hm0 : m0 ≠ 0) (o1 : Int) (o2 : Int) (o3 : Int) (o4 : Int) (hs : F.hash_state_mix x1 x2 x3 x4 x5 x6 = some (o1, o2, o3, o4)) :
    Calls Try.prog 116 #[.pointer (some ⟨b1, 0, none⟩), .int .i64 x5, .int .i64 x6] g0.w (Ret (WL [m0]) g0 fun v g => v = .tuple #[] ∧ Box g m0 b1 142 [[.int .u64 o1], [.int .u64 o2], [.int .u64 o3], [.int .u64 o4]] [1, 1, 1, 1]) := by
  refine calls_of (args := [.pointer (some ⟨b1, 0, none⟩), .int .i64 x5, .int .i64 x6]) Try.func116 rfl (m0 + 0) ?_
  intro t ht htL
  refine ⟨_, rfl, ?_⟩
  refine CP.refr 45 [(0, .pointer (some ⟨b1, 0, none⟩)), (1, .int .i64 x5), (2, .int .i64 x6)] (by kernel_rfl) (by kernel_rfl) ?_
  intro ds
  have tot : Step (fun l => (WL [m0]) l ∨ t ≤ l) g0 g0 := Step.refl _ _
  unfold F.hash_state_mix at hs
  refine CP.seq ?_
  replace hs := Option.bind_eq_some_iff.1 hs
  obtain ⟨x7, hk1, hs⟩ := hs
  refine CP.drawL (by kernel_rfl) [4, 8, 11, 14] N.hash_state_mix_0 [⟨none, [0], [], fun l g => Box g m0 b1 142 [[.int .u64 x1], [.int .u64 x2], [.int .u64 x3], [.int .u64 x4]] [1, 1, 1, 1]⟩, ⟨some 0, [], [0], fun l g => l.getD 0 undef = .int .u64 x4⟩, ⟨some 1, [], [1], fun l g => l.getD 0 undef = .int .u64 x1⟩, ⟨some 2, [], [2], fun l g => l.getD 0 undef = .int .u64 x7⟩, ⟨some 3, [0], [], fun l g => Box g m0 b1 142 [[.int .u64 x1], [.int .u64 x2], [.int .u64 x3], [.int .u64 x7]] [1, 1, 1, 1]⟩] [[], [], [], [0]] [m0] [0, 1, 2, 3, 5, 6, 7, 10, 12, 13] [9] (by kernel_rfl) (by simp <;> omega) (by simp) ⟨fun _ _ _ _ st h0 hl hj hB1 => (hB1.mono st (hj 0 (by simp) _ rfl)), fun _ _ _ _ st h0 hl hj e0 => e0, fun _ _ _ _ st h0 hl hj e1 => e1, fun _ _ _ _ st h0 hl hj e2 => e2, fun _ _ _ _ st h0 hl hj hB1 => (hB1.mono st (hj 0 (by simp) _ rfl)), trivial⟩ ⟨hB1, trivial, trivial, trivial, trivial, trivial⟩ (by kernel_rfl) (fun vs => by kernel_rfl) ?_ ?_ ?_
  · intro j hj
    have hq : j = 0 := by have h : j < 1 := hj; omega
    rcases hq with rfl
    · intro vs gq stq hl hf
      obtain ⟨v0, v1, v2, v3, rfl⟩ := len_k4 hl
      have e0 := (show v0 = .int .u64 x4 from hf _ (List.mem_of_getElem? (i := 1) rfl) (by kernel_rfl))
      subst e0
      have e1 := (show v1 = .int .u64 x1 from hf _ (List.mem_of_getElem? (i := 2) rfl) (by kernel_rfl))
      subst e1
      show Option.isSome _ = true
      kernel_rfl
  · intro j hj
    have hq : j = 0 ∨ j = 1 ∨ j = 2 ∨ j = 3 := by have h : j < 4 := hj; omega
    rcases hq with rfl | rfl | rfl | rfl
    · intro vs gq stq hl hf
      obtain ⟨v0, v1, v2, v3, rfl⟩ := len_k4 hl
      have hB1 := (show Box gq m0 b1 142 [[.int .u64 x1], [.int .u64 x2], [.int .u64 x3], [.int .u64 x4]] [1, 1, 1, 1] from hf _ (List.mem_of_getElem? (i := 0) rfl) (by kernel_rfl))
      refine WP.loadB (v := .int .u64 x4) hB1 (by kernel_rfl) (by kernel_rfl) ?_
      refine WP.done (by kernel_rfl) (Shown.ok (v := .int .u64 x4) (by kernel_rfl) (Step.refl _ _) ?_)
      exact ⟨trivial, rfl, trivial, trivial, trivial, trivial⟩
    · intro vs gq stq hl hf
      obtain ⟨v0, v1, v2, v3, rfl⟩ := len_k4 hl
      have hB1 := (show Box gq m0 b1 142 [[.int .u64 x1], [.int .u64 x2], [.int .u64 x3], [.int .u64 x4]] [1, 1, 1, 1] from hf _ (List.mem_of_getElem? (i := 0) rfl) (by kernel_rfl))
      refine WP.loadB (v := .int .u64 x1) hB1 (by kernel_rfl) (by kernel_rfl) ?_
      refine WP.done (by kernel_rfl) (Shown.ok (v := .int .u64 x1) (by kernel_rfl) (Step.refl _ _) ?_)
      exact ⟨trivial, trivial, rfl, trivial, trivial, trivial⟩
    · intro vs gq stq hl hf
      obtain ⟨v0, v1, v2, v3, rfl⟩ := len_k4 hl
      have e0 := (show v0 = .int .u64 x4 from hf _ (List.mem_of_getElem? (i := 1) rfl) (by kernel_rfl))
      subst e0
      have e1 := (show v1 = .int .u64 x1 from hf _ (List.mem_of_getElem? (i := 2) rfl) (by kernel_rfl))
      subst e1
      have hcal1 := P.math_bits_RotateLeft64 gq (bitXor .u64 x4 x1) x5 x7 hk1
      refine WP.callC hcal1 (by kernel_rfl) ?_
      rintro _ g1 st1 rfl
      refine WP.done (by kernel_rfl) (Shown.ok (v := .int .u64 x7) (by kernel_rfl) st1.pure ?_)
      exact ⟨trivial, trivial, trivial, rfl, trivial, trivial⟩
    · intro vs gq stq hl hf
      obtain ⟨v0, v1, v2, v3, rfl⟩ := len_k4 hl
      have hB1 := (show Box gq m0 b1 142 [[.int .u64 x1], [.int .u64 x2], [.int .u64 x3], [.int .u64 x4]] [1, 1, 1, 1] from hf _ (List.mem_of_getElem? (i := 0) rfl) (by kernel_rfl))
      have e2 := (show v2 = .int .u64 x7 from hf _ (List.mem_of_getElem? (i := 3) rfl) (by kernel_rfl))
      subst e2
      refine WP.storeB (ty := 116) (off := 3) (v := .int .u64 x7) hB1 [[.int .u64 x7]] [1] (by kernel_rfl) (by kernel_rfl) rfl (by kernel_rfl) [[.int .u64 x1], [.int .u64 x2], [.int .u64 x3], [.int .u64 x7]] (by kernel_rfl) (.one rfl .nil) ?_
      intro g2 st2 hB2
      refine WP.done (by kernel_rfl) (Shown.ok (v := undef) (by kernel_rfl) st2 ?_)
      exact ⟨trivial, trivial, trivial, trivial, hB2, trivial⟩
  intro vs g3 st3 hl hf
  obtain ⟨v0, v1, v2, v3, rfl⟩ := len_k4 hl
  have hB1 := (show Box g3 m0 b1 142 [[.int .u64 x1], [.int .u64 x2], [.int .u64 x3], [.int .u64 x7]] [1, 1, 1, 1] from hf _ (List.mem_of_getElem? (i := 4) rfl) (by kernel_rfl))
  replace tot := tot.trans (st3.up1 (.inl (by simp [WL])))
  refine NX.then_n ?_
  refine CP.refr 45 [(0, .pointer (some ⟨b1, 0, none⟩)), (2, .int .i64 x6)] (by kernel_rfl) (by kernel_rfl) ?_
  clear ds
  intro ds
  refine CP.seq ?_
  refine CP.drawL (by kernel_rfl) [3, 7, 11] N.hash_state_mix_1 [⟨none, [0], [], fun l g => Box g m0 b1 142 [[.int .u64 x1], [.int .u64 x2], [.int .u64 x3], [.int .u64 x7]] [1, 1, 1, 1]⟩, ⟨some 0, [], [0], fun l g => l.getD 0 undef = .int .u64 x3⟩, ⟨some 1, [], [1], fun l g => l.getD 0 undef = .int .u64 x7⟩, ⟨some 2, [0], [], fun l g => Box g m0 b1 142 [[.int .u64 x1], [.int .u64 x2], [.int .u64 (IntKind.u64.wrap (x3 + x7))], [.int .u64 x7]] [1, 1, 1, 1]⟩] [[], [], [0]] [m0] [0, 1, 2, 4, 5, 6, 9, 10] [8] (by kernel_rfl) (by simp <;> omega) (by simp) ⟨fun _ _ _ _ st h0 hl hj hB1 => (hB1.mono st (hj 0 (by simp) _ rfl)), fun _ _ _ _ st h0 hl hj e0 => e0, fun _ _ _ _ st h0 hl hj e1 => e1, fun _ _ _ _ st h0 hl hj hB1 => (hB1.mono st (hj 0 (by simp) _ rfl)), trivial⟩ ⟨hB1, trivial, trivial, trivial, trivial⟩ (by kernel_rfl) (fun vs => by kernel_rfl) ?_ ?_ ?_
  · intro j hj
    have hq : j = 0 := by have h : j < 1 := hj; omega
    rcases hq with rfl
    · intro vs gq stq hl hf
      obtain ⟨v0, v1, v2, rfl⟩ := len_k3 hl
      have e0 := (show v0 = .int .u64 x3 from hf _ (List.mem_of_getElem? (i := 1) rfl) (by kernel_rfl))
      subst e0
      have e1 := (show v1 = .int .u64 x7 from hf _ (List.mem_of_getElem? (i := 2) rfl) (by kernel_rfl))
      subst e1
      show Option.isSome _ = true
      kernel_rfl
  · intro j hj
    have hq : j = 0 ∨ j = 1 ∨ j = 2 := by have h : j < 3 := hj; omega
    rcases hq with rfl | rfl | rfl
    · intro vs gq stq hl hf
      obtain ⟨v0, v1, v2, rfl⟩ := len_k3 hl
      have hB1 := (show Box gq m0 b1 142 [[.int .u64 x1], [.int .u64 x2], [.int .u64 x3], [.int .u64 x7]] [1, 1, 1, 1] from hf _ (List.mem_of_getElem? (i := 0) rfl) (by kernel_rfl))
      refine WP.loadB (v := .int .u64 x3) hB1 (by kernel_rfl) (by kernel_rfl) ?_
      refine WP.done (by kernel_rfl) (Shown.ok (v := .int .u64 x3) (by kernel_rfl) (Step.refl _ _) ?_)
      exact ⟨trivial, rfl, trivial, trivial, trivial⟩
    · intro vs gq stq hl hf
      obtain ⟨v0, v1, v2, rfl⟩ := len_k3 hl
      have hB1 := (show Box gq m0 b1 142 [[.int .u64 x1], [.int .u64 x2], [.int .u64 x3], [.int .u64 x7]] [1, 1, 1, 1] from hf _ (List.mem_of_getElem? (i := 0) rfl) (by kernel_rfl))
      refine WP.loadB (v := .int .u64 x7) hB1 (by kernel_rfl) (by kernel_rfl) ?_
      refine WP.done (by kernel_rfl) (Shown.ok (v := .int .u64 x7) (by kernel_rfl) (Step.refl _ _) ?_)
      exact ⟨trivial, trivial, rfl, trivial, trivial⟩
    · intro vs gq stq hl hf
      obtain ⟨v0, v1, v2, rfl⟩ := len_k3 hl
      have hB1 := (show Box gq m0 b1 142 [[.int .u64 x1], [.int .u64 x2], [.int .u64 x3], [.int .u64 x7]] [1, 1, 1, 1] from hf _ (List.mem_of_getElem? (i := 0) rfl) (by kernel_rfl))
      have e0 := (show v0 = .int .u64 x3 from hf _ (List.mem_of_getElem? (i := 1) rfl) (by kernel_rfl))
      subst e0
      have e1 := (show v1 = .int .u64 x7 from hf _ (List.mem_of_getElem? (i := 2) rfl) (by kernel_rfl))
      subst e1
      refine WP.storeB (ty := 116) (off := 2) (v := .int .u64 (IntKind.u64.wrap (x3 + x7))) hB1 [[.int .u64 (IntKind.u64.wrap (x3 + x7))]] [1] (by kernel_rfl) (by kernel_rfl) rfl (by kernel_rfl) [[.int .u64 x1], [.int .u64 x2], [.int .u64 (IntKind.u64.wrap (x3 + x7))], [.int .u64 x7]] (by kernel_rfl) (.one rfl .nil) ?_
      intro g4 st4 hB3
      refine WP.done (by kernel_rfl) (Shown.ok (v := undef) (by kernel_rfl) st4 ?_)
      exact ⟨trivial, trivial, trivial, hB3, trivial⟩
  intro vs g5 st5 hl hf
  obtain ⟨v0, v1, v2, rfl⟩ := len_k3 hl
  have hB1 := (show Box g5 m0 b1 142 [[.int .u64 x1], [.int .u64 x2], [.int .u64 (IntKind.u64.wrap (x3 + x7))], [.int .u64 x7]] [1, 1, 1, 1] from hf _ (List.mem_of_getElem? (i := 3) rfl) (by kernel_rfl))
  replace tot := tot.trans (st5.up1 (.inl (by simp [WL])))
  refine NX.then_n ?_
  refine CP.refr 45 [(0, .pointer (some ⟨b1, 0, none⟩)), (2, .int .i64 x6)] (by kernel_rfl) (by kernel_rfl) ?_
  clear ds
  intro ds
  replace hs := Option.bind_eq_some_iff.1 hs
  obtain ⟨x8, hk2, hs⟩ := hs
  refine CP.drawL (by kernel_rfl) [4, 8, 11, 14] N.hash_state_mix_0 [⟨none, [0], [], fun l g => Box g m0 b1 142 [[.int .u64 x1], [.int .u64 x2], [.int .u64 (IntKind.u64.wrap (x3 + x7))], [.int .u64 x7]] [1, 1, 1, 1]⟩, ⟨some 0, [], [0], fun l g => l.getD 0 undef = .int .u64 x2⟩, ⟨some 1, [], [1], fun l g => l.getD 0 undef = .int .u64 (IntKind.u64.wrap (x3 + x7))⟩, ⟨some 2, [], [2], fun l g => l.getD 0 undef = .int .u64 x8⟩, ⟨some 3, [0], [], fun l g => Box g m0 b1 142 [[.int .u64 x1], [.int .u64 x8], [.int .u64 (IntKind.u64.wrap (x3 + x7))], [.int .u64 x7]] [1, 1, 1, 1]⟩] [[], [], [], [0]] [m0] [0, 1, 2, 3, 5, 6, 7, 10, 12, 13] [9] (by kernel_rfl) (by simp <;> omega) (by simp) ⟨fun _ _ _ _ st h0 hl hj hB1 => (hB1.mono st (hj 0 (by simp) _ rfl)), fun _ _ _ _ st h0 hl hj e0 => e0, fun _ _ _ _ st h0 hl hj e1 => e1, fun _ _ _ _ st h0 hl hj e2 => e2, fun _ _ _ _ st h0 hl hj hB1 => (hB1.mono st (hj 0 (by simp) _ rfl)), trivial⟩ ⟨hB1, trivial, trivial, trivial, trivial, trivial⟩ (by kernel_rfl) (fun vs => by kernel_rfl) ?_ ?_ ?_
  · intro j hj
    have hq : j = 0 := by have h : j < 1 := hj; omega
    rcases hq with rfl
    · intro vs gq stq hl hf
      obtain ⟨v0, v1, v2, v3, rfl⟩ := len_k4 hl
      have e0 := (show v0 = .int .u64 x2 from hf _ (List.mem_of_getElem? (i := 1) rfl) (by kernel_rfl))
      subst e0
      have e1 := (show v1 = .int .u64 (IntKind.u64.wrap (x3 + x7)) from hf _ (List.mem_of_getElem? (i := 2) rfl) (by kernel_rfl))
      subst e1
      show Option.isSome _ = true
      kernel_rfl
  · intro j hj
    have hq : j = 0 ∨ j = 1 ∨ j = 2 ∨ j = 3 := by have h : j < 4 := hj; omega
    rcases hq with rfl | rfl | rfl | rfl
    · intro vs gq stq hl hf
      obtain ⟨v0, v1, v2, v3, rfl⟩ := len_k4 hl
      have hB1 := (show Box gq m0 b1 142 [[.int .u64 x1], [.int .u64 x2], [.int .u64 (IntKind.u64.wrap (x3 + x7))], [.int .u64 x7]] [1, 1, 1, 1] from hf _ (List.mem_of_getElem? (i := 0) rfl) (by kernel_rfl))
      refine WP.loadB (v := .int .u64 x2) hB1 (by kernel_rfl) (by kernel_rfl) ?_
      refine WP.done (by kernel_rfl) (Shown.ok (v := .int .u64 x2) (by kernel_rfl) (Step.refl _ _) ?_)
      exact ⟨trivial, rfl, trivial, trivial, trivial, trivial⟩
    · intro vs gq stq hl hf
      obtain ⟨v0, v1, v2, v3, rfl⟩ := len_k4 hl
      have hB1 := (show Box gq m0 b1 142 [[.int .u64 x1], [.int .u64 x2], [.int .u64 (IntKind.u64.wrap (x3 + x7))], [.int .u64 x7]] [1, 1, 1, 1] from hf _ (List.mem_of_getElem? (i := 0) rfl) (by kernel_rfl))
      refine WP.loadB (v := .int .u64 (IntKind.u64.wrap (x3 + x7))) hB1 (by kernel_rfl) (by kernel_rfl) ?_
      refine WP.done (by kernel_rfl) (Shown.ok (v := .int .u64 (IntKind.u64.wrap (x3 + x7))) (by kernel_rfl) (Step.refl _ _) ?_)
      exact ⟨trivial, trivial, rfl, trivial, trivial, trivial⟩
    · intro vs gq stq hl hf
      obtain ⟨v0, v1, v2, v3, rfl⟩ := len_k4 hl
      have e0 := (show v0 = .int .u64 x2 from hf _ (List.mem_of_getElem? (i := 1) rfl) (by kernel_rfl))
      subst e0
      have e1 := (show v1 = .int .u64 (IntKind.u64.wrap (x3 + x7)) from hf _ (List.mem_of_getElem? (i := 2) rfl) (by kernel_rfl))
      subst e1
      have hcal2 := P.math_bits_RotateLeft64 gq (bitXor .u64 x2 (IntKind.u64.wrap (x3 + x7))) x6 x8 hk2
      refine WP.callC hcal2 (by kernel_rfl) ?_
      rintro _ g6 st6 rfl
      refine WP.done (by kernel_rfl) (Shown.ok (v := .int .u64 x8) (by kernel_rfl) st6.pure ?_)
      exact ⟨trivial, trivial, trivial, rfl, trivial, trivial⟩
    · intro vs gq stq hl hf
      obtain ⟨v0, v1, v2, v3, rfl⟩ := len_k4 hl
      have hB1 := (show Box gq m0 b1 142 [[.int .u64 x1], [.int .u64 x2], [.int .u64 (IntKind.u64.wrap (x3 + x7))], [.int .u64 x7]] [1, 1, 1, 1] from hf _ (List.mem_of_getElem? (i := 0) rfl) (by kernel_rfl))
      have e2 := (show v2 = .int .u64 x8 from hf _ (List.mem_of_getElem? (i := 3) rfl) (by kernel_rfl))
      subst e2
      refine WP.storeB (ty := 116) (off := 1) (v := .int .u64 x8) hB1 [[.int .u64 x8]] [1] (by kernel_rfl) (by kernel_rfl) rfl (by kernel_rfl) [[.int .u64 x1], [.int .u64 x8], [.int .u64 (IntKind.u64.wrap (x3 + x7))], [.int .u64 x7]] (by kernel_rfl) (.one rfl .nil) ?_
      intro g7 st7 hB4
      refine WP.done (by kernel_rfl) (Shown.ok (v := undef) (by kernel_rfl) st7 ?_)
      exact ⟨trivial, trivial, trivial, trivial, hB4, trivial⟩
  intro vs g8 st8 hl hf
  obtain ⟨v0, v1, v2, v3, rfl⟩ := len_k4 hl
  have hB1 := (show Box g8 m0 b1 142 [[.int .u64 x1], [.int .u64 x8], [.int .u64 (IntKind.u64.wrap (x3 + x7))], [.int .u64 x7]] [1, 1, 1, 1] from hf _ (List.mem_of_getElem? (i := 4) rfl) (by kernel_rfl))
  replace tot := tot.trans (st8.up1 (.inl (by simp [WL])))
  replace hs := Option.some.inj hs
  simp only [Prod.mk.injEq] at hs
  obtain ⟨rfl, rfl, rfl, rfl⟩ := hs
  exact NX.finE (v := .tuple #[]) (Res.still (by kernel_rfl)) tot htL ⟨rfl, hB1⟩
def N.hash_state_stir_0 : List (List Nat) := [[], [], [1], [1, 2], [1, 2, 3], [], [5], [5, 6], [5, 6, 7], [1, 2, 3, 4, 5, 6, 7, 8], [], [10], [10, 11], [1, 2, 3, 4, 5, 6, 7, 8, 9, 10, 11, 12], [0], [0, 1, 2, 3, 4, 5, 6, 7, 8, 9, 10, 11, 12, 13, 14], [0, 1, 2, 3, 4, 5, 6, 7, 8, 9, 10, 11, 12, 13, 14, 15]]
def N.hash_state_stir_1 : List (List Nat) := [[], [0], [0, 1], [0, 1, 2], [], [4], [4, 5], [4, 5, 6], [0, 1, 2, 3, 4, 5, 6, 7], [0], [0, 1, 2, 3, 4, 5, 6, 7, 8, 9], [0, 1, 2, 3, 4, 5, 6, 7, 8, 9, 10]]
def F.hash_state_stir.l1 : Nat → Int → Int → Int → Int → Int → Option (Int × Int × Int × Int)
  | 0, _, _, _, _, _ => none
  | k + 1, x13, x14, x15, x16, x17 => (if decide (x17 < 6) = true then ((F.hash_state_mix (bitXor .u64 (IntKind.u64.wrap (x13 + x14)) (IntKind.u64.wrap (IntKind.i64.wrap (x17 + 1)))) x14 x15 x16 32 24).bind fun (x31, x32, x33, x34) => ((F.hash_state_mix (IntKind.u64.wrap (x31 + x32)) x32 x33 x34 16 63).bind fun (x35, x36, x37, x38) => (F.hash_state_stir.l1 k x35 x36 x37 x38 (IntKind.i64.wrap (x17 + 1))))) else (some (x13, x14, x15, x16)))
def F.hash_state_stir (x1 : Int) (x2 : Int) (x3 : Int) (x4 : Int) : Option (Int × Int × Int × Int) := (F.hash_state_stir.l1 fuel x1 x2 x3 x4 0)
theorem P.hash_state_stir (g0 : GW) (m0 : Nat) (x1 : Int) (x2 : Int) (x3 : Int) (x4 : Int) (b1 : Nat) (hB1 : Box g0 m0 b1 142 [[.int .u64 x1], [.int .u64 x2], [.int .u64 x3], [.int .u64 x4]] [1, 1, 1, 1]) (hm0 : m0 ≠ 0) (o1 : Int) (o2 : Int) (o3 : Int) (o4 : Int) (hs : F.hash_state_stir x1 x2 x3 x4 = some (o1, o2, o3, o4)) :
    Calls Try.prog 113 #[.pointer (some ⟨b1, 0, none⟩)] g0.w (Ret (WL [m0]) g0 fun v g => v = .tuple #[] ∧ Box g m0 b1 142 [[.int .u64 o1], [.int .u64 o2], [.int .u64 o3], [.int .u64 o4]] [1, 1, 1, 1]) := by
  refine calls_of (args := [.pointer (some ⟨b1, 0, none⟩)]) Try.func113 rfl (m0 + 0) ?_
  intro t ht htL
  refine ⟨_, rfl, ?_⟩
  refine CP.refr 38 [(0, .pointer (some ⟨b1, 0, none⟩))] (by kernel_rfl) (by kernel_rfl) ?_
  intro ds
  have tot : Step (fun l => (WL [m0]) l ∨ t ≤ l) g0 g0 := Step.refl _ _
  unfold F.hash_state_stir at hs
  refine CP.seqR ?_
  refine WP.still 1 (by kernel_rfl) ?_
  refine WP.done (by kernel_rfl) ?_
  refine NX.then_n ?_
  refine CP.block ?_
  generalize fuel = k1 at hs
  refine CP.loop (fun k1 tm g => ∃ (x13 : Int) (x14 : Int) (x15 : Int) (x16 : Int) (x17 : Int), Fr 38 [(0, .pointer (some ⟨b1, 0, none⟩)), (3, .int .i64 x17)] tm ∧ Step (fun l => (WL [m0]) l ∨ t ≤ l) g0 g ∧ Box g m0 b1 142 [[.int .u64 x13], [.int .u64 x14], [.int .u64 x15], [.int .u64 x16]] [1, 1, 1, 1] ∧ F.hash_state_stir.l1 k1 x13 x14 x15 x16 x17 = some (o1, o2, o3, o4)) k1 ?_ ?_ ?_
  · exact ⟨x1, x2, x3, x4, 0, ⟨by kernel_rfl, by kernel_rfl⟩, tot, hB1, hs⟩
  · rintro tm g ⟨x13, x14, x15, x16, x17, hF, tot, hB1, hs⟩
    exact absurd hs (by simp [F.hash_state_stir.l1])
  clear tot hs hB1
  rintro k1 tm g ⟨x13, x14, x15, x16, x17, hF, tot, hB1, hs⟩
  clear ds
  obtain ⟨ds, rfl⟩ := hF.open
  clear hF
  unfold F.hash_state_stir.l1 at hs
  refine CP.seqR ?_
  refine WP.still 1 (by kernel_rfl) ?_
  refine WP.done (by kernel_rfl) ?_
  refine NX.then_n ?_
  refine CP.seq ?_
  refine CP.cond (b := decide (x17 < 6)) (by kernel_rfl) (fun h3 => ?_) (fun h3 => ?_)
  · replace hs := of_if_t hs h3
    refine CP.skip ?_
    refine NX.then_n ?_
    refine CP.seq ?_
    refine CP.block ?_
    refine CP.seqR ?_
    refine WP.still 2 (by kernel_rfl) ?_
    refine WP.done (by kernel_rfl) ?_
    refine NX.then_n ?_
    refine CP.seq ?_
    refine CP.drawL (by kernel_rfl) [4, 8, 16] N.hash_state_stir_0 [⟨none, [0], [], fun l g => Box g m0 b1 142 [[.int .u64 x13], [.int .u64 x14], [.int .u64 x15], [.int .u64 x16]] [1, 1, 1, 1]⟩, ⟨some 0, [], [0], fun l g => l.getD 0 undef = .int .u64 x13⟩, ⟨some 1, [], [1], fun l g => l.getD 0 undef = .int .u64 x14⟩, ⟨some 2, [0], [], fun l g => Box g m0 b1 142 [[.int .u64 (bitXor .u64 (IntKind.u64.wrap (x13 + x14)) (IntKind.u64.wrap (IntKind.i64.wrap (x17 + 1))))], [.int .u64 x14], [.int .u64 x15], [.int .u64 x16]] [1, 1, 1, 1]⟩] [[], [], [0]] [m0] [0, 1, 2, 3, 5, 6, 7, 10, 11, 12, 14, 15] [9, 13] (by kernel_rfl) (by simp <;> omega) (by simp) ⟨fun _ _ _ _ st h0 hl hj hB1 => (hB1.mono st (hj 0 (by simp) _ rfl)), fun _ _ _ _ st h0 hl hj e0 => e0, fun _ _ _ _ st h0 hl hj e1 => e1, fun _ _ _ _ st h0 hl hj hB1 => (hB1.mono st (hj 0 (by simp) _ rfl)), trivial⟩ ⟨hB1, trivial, trivial, trivial, trivial⟩ (by kernel_rfl) (fun vs => by kernel_rfl) ?_ ?_ ?_
    · intro j hj
      have hq : j = 0 ∨ j = 1 := by have h : j < 2 := hj; omega
      rcases hq with rfl | rfl
      · intro vs gq stq hl hf
        obtain ⟨v0, v1, v2, rfl⟩ := len_k3 hl
        have e0 := (show v0 = .int .u64 x13 from hf _ (List.mem_of_getElem? (i := 1) rfl) (by kernel_rfl))
        subst e0
        have e1 := (show v1 = .int .u64 x14 from hf _ (List.mem_of_getElem? (i := 2) rfl) (by kernel_rfl))
        subst e1
        show Option.isSome _ = true
        kernel_rfl
      · intro vs gq stq hl hf
        obtain ⟨v0, v1, v2, rfl⟩ := len_k3 hl
        have e0 := (show v0 = .int .u64 x13 from hf _ (List.mem_of_getElem? (i := 1) rfl) (by kernel_rfl))
        subst e0
        have e1 := (show v1 = .int .u64 x14 from hf _ (List.mem_of_getElem? (i := 2) rfl) (by kernel_rfl))
        subst e1
        show Option.isSome _ = true
        kernel_rfl
    · intro j hj
      have hq : j = 0 ∨ j = 1 ∨ j = 2 := by have h : j < 3 := hj; omega
      rcases hq with rfl | rfl | rfl
      · intro vs gq stq hl hf
        obtain ⟨v0, v1, v2, rfl⟩ := len_k3 hl
        have hB1 := (show Box gq m0 b1 142 [[.int .u64 x13], [.int .u64 x14], [.int .u64 x15], [.int .u64 x16]] [1, 1, 1, 1] from hf _ (List.mem_of_getElem? (i := 0) rfl) (by kernel_rfl))
        refine WP.loadB (v := .int .u64 x13) hB1 (by kernel_rfl) (by kernel_rfl) ?_
        refine WP.done (by kernel_rfl) (Shown.ok (v := .int .u64 x13) (by kernel_rfl) (Step.refl _ _) ?_)
        exact ⟨trivial, rfl, trivial, trivial, trivial⟩
      · intro vs gq stq hl hf
        obtain ⟨v0, v1, v2, rfl⟩ := len_k3 hl
        have hB1 := (show Box gq m0 b1 142 [[.int .u64 x13], [.int .u64 x14], [.int .u64 x15], [.int .u64 x16]] [1, 1, 1, 1] from hf _ (List.mem_of_getElem? (i := 0) rfl) (by kernel_rfl))
        refine WP.loadB (v := .int .u64 x14) hB1 (by kernel_rfl) (by kernel_rfl) ?_
        refine WP.done (by kernel_rfl) (Shown.ok (v := .int .u64 x14) (by kernel_rfl) (Step.refl _ _) ?_)
        exact ⟨trivial, trivial, rfl, trivial, trivial⟩
      · intro vs gq stq hl hf
        obtain ⟨v0, v1, v2, rfl⟩ := len_k3 hl
        have hB1 := (show Box gq m0 b1 142 [[.int .u64 x13], [.int .u64 x14], [.int .u64 x15], [.int .u64 x16]] [1, 1, 1, 1] from hf _ (List.mem_of_getElem? (i := 0) rfl) (by kernel_rfl))
        have e0 := (show v0 = .int .u64 x13 from hf _ (List.mem_of_getElem? (i := 1) rfl) (by kernel_rfl))
        subst e0
        have e1 := (show v1 = .int .u64 x14 from hf _ (List.mem_of_getElem? (i := 2) rfl) (by kernel_rfl))
        subst e1
        refine WP.storeB (ty := 116) (off := 0) (v := .int .u64 (bitXor .u64 (IntKind.u64.wrap (x13 + x14)) (IntKind.u64.wrap (IntKind.i64.wrap (x17 + 1))))) hB1 [[.int .u64 (bitXor .u64 (IntKind.u64.wrap (x13 + x14)) (IntKind.u64.wrap (IntKind.i64.wrap (x17 + 1))))]] [1] (by kernel_rfl) (by kernel_rfl) rfl (by kernel_rfl) [[.int .u64 (bitXor .u64 (IntKind.u64.wrap (x13 + x14)) (IntKind.u64.wrap (IntKind.i64.wrap (x17 + 1))))], [.int .u64 x14], [.int .u64 x15], [.int .u64 x16]] (by kernel_rfl) (.one rfl .nil) ?_
        intro g9 st9 hB10
        refine WP.done (by kernel_rfl) (Shown.ok (v := undef) (by kernel_rfl) st9 ?_)
        exact ⟨trivial, trivial, trivial, hB10, trivial⟩
    intro vs g10 st10 hl hf
    obtain ⟨v0, v1, v2, rfl⟩ := len_k3 hl
    have hB1 := (show Box g10 m0 b1 142 [[.int .u64 (bitXor .u64 (IntKind.u64.wrap (x13 + x14)) (IntKind.u64.wrap (IntKind.i64.wrap (x17 + 1))))], [.int .u64 x14], [.int .u64 x15], [.int .u64 x16]] [1, 1, 1, 1] from hf _ (List.mem_of_getElem? (i := 3) rfl) (by kernel_rfl))
    replace tot := tot.trans (st10.up1 (.inl (by simp [WL])))
    refine NX.then_n ?_
    refine CP.refr 38 [(0, .pointer (some ⟨b1, 0, none⟩)), (3, .int .i64 x17)] (by kernel_rfl) (by kernel_rfl) ?_
    clear ds
    intro ds
    refine CP.seqR ?_
    refine WP.still 1 (by kernel_rfl) ?_
    replace hs := Option.bind_eq_some_iff.1 hs
    obtain ⟨⟨x31, x32, x33, x34⟩, hk5, hs⟩ := hs
    dsimp only at hs
    have hcal5 := P.hash_state_mix g10 m0 (bitXor .u64 (IntKind.u64.wrap (x13 + x14)) (IntKind.u64.wrap (IntKind.i64.wrap (x17 + 1)))) x14 x15 x16 32 24 b1 hB1 (by omega) x31 x32 x33 x34 hk5
    refine WP.callC hcal5 (by kernel_rfl) ?_
    rintro _ g11 st11 ⟨rfl, hB11⟩
    replace tot := tot.trans (st11.up1 (.inl (by simp [WL])))
    clear hB1
    have hB1 := hB11
    clear hB11
    refine WP.done (by kernel_rfl) ?_
    refine NX.then_n ?_
    refine CP.seq ?_
    refine CP.drawL (by kernel_rfl) [3, 7, 11] N.hash_state_stir_1 [⟨none, [0], [], fun l g => Box g m0 b1 142 [[.int .u64 x31], [.int .u64 x32], [.int .u64 x33], [.int .u64 x34]] [1, 1, 1, 1]⟩, ⟨some 0, [], [0], fun l g => l.getD 0 undef = .int .u64 x31⟩, ⟨some 1, [], [1], fun l g => l.getD 0 undef = .int .u64 x32⟩, ⟨some 2, [0], [], fun l g => Box g m0 b1 142 [[.int .u64 (IntKind.u64.wrap (x31 + x32))], [.int .u64 x32], [.int .u64 x33], [.int .u64 x34]] [1, 1, 1, 1]⟩] [[], [], [0]] [m0] [0, 1, 2, 4, 5, 6, 9, 10] [8] (by kernel_rfl) (by simp <;> omega) (by simp) ⟨fun _ _ _ _ st h0 hl hj hB1 => (hB1.mono st (hj 0 (by simp) _ rfl)), fun _ _ _ _ st h0 hl hj e0 => e0, fun _ _ _ _ st h0 hl hj e1 => e1, fun _ _ _ _ st h0 hl hj hB1 => (hB1.mono st (hj 0 (by simp) _ rfl)), trivial⟩ ⟨hB1, trivial, trivial, trivial, trivial⟩ (by kernel_rfl) (fun vs => by kernel_rfl) ?_ ?_ ?_
    · intro j hj
      have hq : j = 0 := by have h : j < 1 := hj; omega
      rcases hq with rfl
      · intro vs gq stq hl hf
        obtain ⟨v0, v1, v2, rfl⟩ := len_k3 hl
        have e0 := (show v0 = .int .u64 x31 from hf _ (List.mem_of_getElem? (i := 1) rfl) (by kernel_rfl))
        subst e0
        have e1 := (show v1 = .int .u64 x32 from hf _ (List.mem_of_getElem? (i := 2) rfl) (by kernel_rfl))
        subst e1
        show Option.isSome _ = true
        kernel_rfl
    · intro j hj
      have hq : j = 0 ∨ j = 1 ∨ j = 2 := by have h : j < 3 := hj; omega
      rcases hq with rfl | rfl | rfl
      · intro vs gq stq hl hf
        obtain ⟨v0, v1, v2, rfl⟩ := len_k3 hl
        have hB1 := (show Box gq m0 b1 142 [[.int .u64 x31], [.int .u64 x32], [.int .u64 x33], [.int .u64 x34]] [1, 1, 1, 1] from hf _ (List.mem_of_getElem? (i := 0) rfl) (by kernel_rfl))
        refine WP.loadB (v := .int .u64 x31) hB1 (by kernel_rfl) (by kernel_rfl) ?_
        refine WP.done (by kernel_rfl) (Shown.ok (v := .int .u64 x31) (by kernel_rfl) (Step.refl _ _) ?_)
        exact ⟨trivial, rfl, trivial, trivial, trivial⟩
      · intro vs gq stq hl hf
        obtain ⟨v0, v1, v2, rfl⟩ := len_k3 hl
        have hB1 := (show Box gq m0 b1 142 [[.int .u64 x31], [.int .u64 x32], [.int .u64 x33], [.int .u64 x34]] [1, 1, 1, 1] from hf _ (List.mem_of_getElem? (i := 0) rfl) (by kernel_rfl))
        refine WP.loadB (v := .int .u64 x32) hB1 (by kernel_rfl) (by kernel_rfl) ?_
        refine WP.done (by kernel_rfl) (Shown.ok (v := .int .u64 x32) (by kernel_rfl) (Step.refl _ _) ?_)
        exact ⟨trivial, trivial, rfl, trivial, trivial⟩
      · intro vs gq stq hl hf
        obtain ⟨v0, v1, v2, rfl⟩ := len_k3 hl
        have hB1 := (show Box gq m0 b1 142 [[.int .u64 x31], [.int .u64 x32], [.int .u64 x33], [.int .u64 x34]] [1, 1, 1, 1] from hf _ (List.mem_of_getElem? (i := 0) rfl) (by kernel_rfl))
        have e0 := (show v0 = .int .u64 x31 from hf _ (List.mem_of_getElem? (i := 1) rfl) (by kernel_rfl))
        subst e0
        have e1 := (show v1 = .int .u64 x32 from hf _ (List.mem_of_getElem? (i := 2) rfl) (by kernel_rfl))
        subst e1
        refine WP.storeB (ty := 116) (off := 0) (v := .int .u64 (IntKind.u64.wrap (x31 + x32))) hB1 [[.int .u64 (IntKind.u64.wrap (x31 + x32))]] [1] (by kernel_rfl) (by kernel_rfl) rfl (by kernel_rfl) [[.int .u64 (IntKind.u64.wrap (x31 + x32))], [.int .u64 x32], [.int .u64 x33], [.int .u64 x34]] (by kernel_rfl) (.one rfl .nil) ?_
        intro g12 st12 hB12
        refine WP.done (by kernel_rfl) (Shown.ok (v := undef) (by kernel_rfl) st12 ?_)
        exact ⟨trivial, trivial, trivial, hB12, trivial⟩
    intro vs g13 st13 hl hf
    obtain ⟨v0, v1, v2, rfl⟩ := len_k3 hl
    have hB1 := (show Box g13 m0 b1 142 [[.int .u64 (IntKind.u64.wrap (x31 + x32))], [.int .u64 x32], [.int .u64 x33], [.int .u64 x34]] [1, 1, 1, 1] from hf _ (List.mem_of_getElem? (i := 3) rfl) (by kernel_rfl))
    replace tot := tot.trans (st13.up1 (.inl (by simp [WL])))
    refine NX.then_n ?_
    refine CP.refr 38 [(0, .pointer (some ⟨b1, 0, none⟩)), (3, .int .i64 x17)] (by kernel_rfl) (by kernel_rfl) ?_
    clear ds
    intro ds
    refine CP.region ?_
    refine WP.still 1 (by kernel_rfl) ?_
    replace hs := Option.bind_eq_some_iff.1 hs
    obtain ⟨⟨x35, x36, x37, x38⟩, hk6, hs⟩ := hs
    dsimp only at hs
    have hcal6 := P.hash_state_mix g13 m0 (IntKind.u64.wrap (x31 + x32)) x32 x33 x34 16 63 b1 hB1 (by omega) x35 x36 x37 x38 hk6
    refine WP.callC hcal6 (by kernel_rfl) ?_
    rintro _ g14 st14 ⟨rfl, hB13⟩
    replace tot := tot.trans (st14.up1 (.inl (by simp [WL])))
    clear hB1
    have hB1 := hB13
    clear hB13
    refine WP.done (by kernel_rfl) ?_
    refine NX.block_n ?_
    refine NX.then_n ?_
    refine CP.region ?_
    refine WP.still 2 (by kernel_rfl) ?_
    refine WP.done (by kernel_rfl) ?_
    refine NX.post ?_
    exact ⟨x35, x36, x37, x38, (IntKind.i64.wrap (x17 + 1)), ⟨by kernel_rfl, by kernel_rfl⟩, tot, hB1, hs⟩
  replace hs := of_if_f hs h3
  refine CP.exit ?_
  refine NX.then_e ?_
  refine NX.then_e ?_
  refine NX.block_s ?_
  replace hs := Option.some.inj hs
  simp only [Prod.mk.injEq] at hs
  obtain ⟨rfl, rfl, rfl, rfl⟩ := hs
  exact NX.finE (v := .tuple #[]) (Res.still (by kernel_rfl)) tot htL ⟨rfl, hB1⟩
def N.hash_state_take_0 : List (List Nat) := [[], [0], [0, 1], [0, 1, 2], [], [0, 1, 2, 3, 4], [0], [0, 1, 2, 3, 4, 5, 6], [0, 1, 2, 3, 4, 5, 6, 7]]
def F.hash_state_take (x1 : Int) (x2 : Int) (x3 : Int) (x4 : Int) (x5 : Int) : Option (Int × Int × Int × Int) := ((F.hash_state_stir (bitXor .u64 x1 x5) x2 x3 x4).bind fun (x6, x7, x8, x9) => (some (x6, x7, x8, x9)))
theorem P.hash_state_take (g0 : GW) (m0 : Nat) (x1 : Int) (x2 : Int) (x3 : Int) (x4 : Int) (x5 : Int) (b1 : Nat) (hB1 : Box g0 m0 b1 142 [[.int .u64 x1], [.int .u64 x2], [.int .u64 x3], [.int .u64 x4]] [1, 1, 1, 1]) (hm0 : m0 ≠ 0) (o1 : Int) (o2 : Int) (o3 : Int) (o4 : Int) (hs : F.hash_state_take x1 x2 x3 x4 x5 = some (o1, o2, o3, o4)) :
    Calls Try.prog 100 #[.pointer (some ⟨b1, 0, none⟩), .int .u64 x5] g0.w (Ret (WL [m0]) g0 fun v g => v = .tuple #[] ∧ Box g m0 b1 142 [[.int .u64 o1], [.int .u64 o2], [.int .u64 o3], [.int .u64 o4]] [1, 1, 1, 1]) := by
  refine calls_of (args := [.pointer (some ⟨b1, 0, none⟩), .int .u64 x5]) Try.func100 rfl (m0 + 0) ?_
  intro t ht htL
  refine ⟨_, rfl, ?_⟩
  refine CP.refr 14 [(0, .pointer (some ⟨b1, 0, none⟩)), (1, .int .u64 x5)] (by kernel_rfl) (by kernel_rfl) ?_
  intro ds
  have tot : Step (fun l => (WL [m0]) l ∨ t ≤ l) g0 g0 := Step.refl _ _
  unfold F.hash_state_take at hs
  refine CP.seq ?_
  refine CP.drawL (by kernel_rfl) [3, 8] N.hash_state_take_0 [⟨none, [0], [], fun l g => Box g m0 b1 142 [[.int .u64 x1], [.int .u64 x2], [.int .u64 x3], [.int .u64 x4]] [1, 1, 1, 1]⟩, ⟨some 0, [], [0], fun l g => l.getD 0 undef = .int .u64 x1⟩, ⟨some 1, [0], [], fun l g => Box g m0 b1 142 [[.int .u64 (bitXor .u64 x1 x5)], [.int .u64 x2], [.int .u64 x3], [.int .u64 x4]] [1, 1, 1, 1]⟩] [[], [0]] [m0] [0, 1, 2, 4, 6, 7] [5] (by kernel_rfl) (by simp <;> omega) (by simp) ⟨fun _ _ _ _ st h0 hl hj hB1 => (hB1.mono st (hj 0 (by simp) _ rfl)), fun _ _ _ _ st h0 hl hj e0 => e0, fun _ _ _ _ st h0 hl hj hB1 => (hB1.mono st (hj 0 (by simp) _ rfl)), trivial⟩ ⟨hB1, trivial, trivial, trivial⟩ (by kernel_rfl) (fun vs => by kernel_rfl) ?_ ?_ ?_
  · intro j hj
    have hq : j = 0 := by have h : j < 1 := hj; omega
    rcases hq with rfl
    · intro vs gq stq hl hf
      obtain ⟨v0, v1, rfl⟩ := len_k2 hl
      have e0 := (show v0 = .int .u64 x1 from hf _ (List.mem_of_getElem? (i := 1) rfl) (by kernel_rfl))
      subst e0
      show Option.isSome _ = true
      kernel_rfl
  · intro j hj
    have hq : j = 0 ∨ j = 1 := by have h : j < 2 := hj; omega
    rcases hq with rfl | rfl
    · intro vs gq stq hl hf
      obtain ⟨v0, v1, rfl⟩ := len_k2 hl
      have hB1 := (show Box gq m0 b1 142 [[.int .u64 x1], [.int .u64 x2], [.int .u64 x3], [.int .u64 x4]] [1, 1, 1, 1] from hf _ (List.mem_of_getElem? (i := 0) rfl) (by kernel_rfl))
      refine WP.loadB (v := .int .u64 x1) hB1 (by kernel_rfl) (by kernel_rfl) ?_
      refine WP.done (by kernel_rfl) (Shown.ok (v := .int .u64 x1) (by kernel_rfl) (Step.refl _ _) ?_)
      exact ⟨trivial, rfl, trivial, trivial⟩
    · intro vs gq stq hl hf
      obtain ⟨v0, v1, rfl⟩ := len_k2 hl
      have hB1 := (show Box gq m0 b1 142 [[.int .u64 x1], [.int .u64 x2], [.int .u64 x3], [.int .u64 x4]] [1, 1, 1, 1] from hf _ (List.mem_of_getElem? (i := 0) rfl) (by kernel_rfl))
      have e0 := (show v0 = .int .u64 x1 from hf _ (List.mem_of_getElem? (i := 1) rfl) (by kernel_rfl))
      subst e0
      refine WP.storeB (ty := 116) (off := 0) (v := .int .u64 (bitXor .u64 x1 x5)) hB1 [[.int .u64 (bitXor .u64 x1 x5)]] [1] (by kernel_rfl) (by kernel_rfl) rfl (by kernel_rfl) [[.int .u64 (bitXor .u64 x1 x5)], [.int .u64 x2], [.int .u64 x3], [.int .u64 x4]] (by kernel_rfl) (.one rfl .nil) ?_
      intro g1 st1 hB2
      refine WP.done (by kernel_rfl) (Shown.ok (v := undef) (by kernel_rfl) st1 ?_)
      exact ⟨trivial, trivial, hB2, trivial⟩
  intro vs g2 st2 hl hf
  obtain ⟨v0, v1, rfl⟩ := len_k2 hl
  have hB1 := (show Box g2 m0 b1 142 [[.int .u64 (bitXor .u64 x1 x5)], [.int .u64 x2], [.int .u64 x3], [.int .u64 x4]] [1, 1, 1, 1] from hf _ (List.mem_of_getElem? (i := 2) rfl) (by kernel_rfl))
  replace tot := tot.trans (st2.up1 (.inl (by simp [WL])))
  refine NX.then_n ?_
  refine CP.refr 14 [(0, .pointer (some ⟨b1, 0, none⟩))] (by kernel_rfl) (by kernel_rfl) ?_
  clear ds
  intro ds
  refine CP.region ?_
  refine WP.still 1 (by kernel_rfl) ?_
  replace hs := Option.bind_eq_some_iff.1 hs
  obtain ⟨⟨x6, x7, x8, x9⟩, hk1, hs⟩ := hs
  dsimp only at hs
  have hcal1 := P.hash_state_stir g2 m0 (bitXor .u64 x1 x5) x2 x3 x4 b1 hB1 (by omega) x6 x7 x8 x9 hk1
  refine WP.callC hcal1 (by kernel_rfl) ?_
  rintro _ g3 st3 ⟨rfl, hB3⟩
  replace tot := tot.trans (st3.up1 (.inl (by simp [WL])))
  clear hB1
  have hB1 := hB3
  clear hB3
  refine WP.done (by kernel_rfl) ?_
  replace hs := Option.some.inj hs
  simp only [Prod.mk.injEq] at hs
  obtain ⟨rfl, rfl, rfl, rfl⟩ := hs
  exact NX.finE (v := .tuple #[]) (Res.still (by kernel_rfl)) tot htL ⟨rfl, hB1⟩
def N.hash_state_bytes_0 : List (List Nat) := [[], [], [1], [], [3], [3, 4], [3, 4, 5], [1, 2, 3, 4, 5, 6], [0, 1, 2, 3, 4, 5, 6, 7]]
def F.hash_state_bytes.l1 (l1 : List Int) : Nat → Int → Int → Int → Int → (List Int) → Option (Int × Int × Int × Int)
  | 0, _, _, _, _, _ => none
  | k + 1, x19, x20, x21, x22, l2 => (if decide ((l2.length : Int) ≥ 8) = true then (if (0 : Int) ≤ 0 ∧ (0 : Int) ≤ 8 ∧ 8 ≤ (l2.length : Int) then ((F.hash_number (sliceI l2 0 8)).bind fun x41 => ((F.hash_state_take x19 x20 x21 x22 x41).bind fun (x42, x43, x44, x45) => (if (0 : Int) ≤ 8 ∧ 8 ≤ (l2.length : Int) ∧ (l2.length : Int) ≤ (l2.length : Int) then (F.hash_state_bytes.l1 l1 k x42 x43 x44 x45 (sliceI l2 8 (l2.length : Int))) else none))) else none) else ((F.hash_number l2).bind fun x46 => (if (0 : Int) ≤ (IntKind.i64.wrap (8 * (l2.length : Int))) then ((F.hash_state_take x19 x20 x21 x22 (bitOr .u64 x46 (shV true .u64 1 (IntKind.i64.wrap (8 * (l2.length : Int)))))).bind fun (x47, x48, x49, x50) => ((F.hash_state_take x47 x48 x49 x50 (IntKind.u64.wrap (l1.length : Int))).bind fun (x51, x52, x53, x54) => (some (x51, x52, x53, x54)))) else none)))
def F.hash_state_bytes (x1 : Int) (x2 : Int) (x3 : Int) (x4 : Int) (l1 : List Int) : Option (Int × Int × Int × Int) := (F.hash_state_bytes.l1 l1 fuel x1 x2 x3 x4 l1)
theorem P.hash_state_bytes (g0 : GW) (m0 : Nat) (x1 : Int) (x2 : Int) (x3 : Int) (x4 : Int) (l1 : List Int) (a1 : Option Addr) (n1 : Nat) (c1 : Nat) (b1 : Nat) (hR1 : RdS (Kd.int .u8) g0 5 a1 n1 c1 l1) (hB1 : Box g0 m0 b1 142 [[.int .u64 x1], [.int .u64 x2], [.int .u64 x3], [.int .u64 x4]] [1, 1, 1, 1]) (hm0 : m0 ≠ 0) (o1 : Int) (o2 : Int) (o3 : Int) (o4 : Int) (hs : F.hash_state_bytes x1 x2 x3 x4 l1 = some (o1, o2, o3, o4)) :
    Calls Try.prog 85 #[.pointer (some ⟨b1, 0, none⟩), .slice a1 n1 c1] g0.w (Ret (WL [m0]) g0 fun v g => v = .tuple #[] ∧ Box g m0 b1 142 [[.int .u64 o1], [.int .u64 o2], [.int .u64 o3], [.int .u64 o4]] [1, 1, 1, 1]) := by
  refine calls_of (args := [.pointer (some ⟨b1, 0, none⟩), .slice a1 n1 c1]) Try.func85 rfl (m0 + 0) ?_
  intro t ht htL
  refine ⟨_, rfl, ?_⟩
  refine CP.refr 30 [(0, .pointer (some ⟨b1, 0, none⟩)), (1, .slice a1 n1 c1)] (by kernel_rfl) (by kernel_rfl) ?_
  intro ds
  have tot : Step (fun l => (WL [m0]) l ∨ t ≤ l) g0 g0 := Step.refl _ _
  unfold F.hash_state_bytes at hs
  refine CP.seqR ?_
  refine WP.still 1 (by kernel_rfl) ?_
  refine WP.len (a := a1) (cp := c1) hR1.len (by kernel_rfl) ?_
  refine WP.still 1 (by kernel_rfl) ?_
  refine WP.done (by kernel_rfl) ?_
  refine NX.then_n ?_
  refine CP.seq ?_
  refine CP.block ?_
  generalize fuel = k1 at hs
  refine CP.loop (fun k1 tm g => ∃ (x19 : Int) (x20 : Int) (x21 : Int) (x22 : Int) (l2 : List Int) (a4 : Option Addr) (n2 : Nat) (c4 : Nat), Fr 30 [(0, .pointer (some ⟨b1, 0, none⟩)), (1, .slice a4 n2 c4), (4, .int .i64 (l1.length : Int))] tm ∧ Step (fun l => (WL [m0]) l ∨ t ≤ l) g0 g ∧ Box g m0 b1 142 [[.int .u64 x19], [.int .u64 x20], [.int .u64 x21], [.int .u64 x22]] [1, 1, 1, 1] ∧ RdS (Kd.int .u8) g 5 a4 n2 c4 l2 ∧ F.hash_state_bytes.l1 l1 k1 x19 x20 x21 x22 l2 = some (o1, o2, o3, o4)) k1 ?_ ?_ ?_
  · exact ⟨x1, x2, x3, x4, l1, a1, n1, c1, ⟨by kernel_rfl, by kernel_rfl⟩, tot, hB1, hR1, hs⟩
  · rintro tm g ⟨x19, x20, x21, x22, l2, a4, n2, c4, hF, tot, hB1, hR4, hs⟩
    exact absurd hs (by simp [F.hash_state_bytes.l1])
  clear tot hs hB1 hR1
  rintro k1 tm g ⟨x19, x20, x21, x22, l2, a4, n2, c4, hF, tot, hB1, hR4, hs⟩
  clear ds
  obtain ⟨ds, rfl⟩ := hF.open
  clear hF
  unfold F.hash_state_bytes.l1 at hs
  refine CP.seq ?_
  refine CP.seqR ?_
  refine WP.still 1 (by kernel_rfl) ?_
  refine WP.len (a := a4) (cp := c4) hR4.len (by kernel_rfl) ?_
  refine WP.still 1 (by kernel_rfl) ?_
  refine WP.done (by kernel_rfl) ?_
  refine NX.then_n ?_
  refine CP.cond (b := decide ((l2.length : Int) ≥ 8)) (by kernel_rfl) (fun h3 => ?_) (fun h3 => ?_)
  · replace hs := of_if_t hs h3
    refine CP.skip ?_
    refine NX.then_n ?_
    refine CP.block ?_
    refine CP.seqR ?_
    refine WP.still 2 (by kernel_rfl) ?_
    by_cases hc7 : (0 : Int) ≤ 0 ∧ (0 : Int) ≤ 8 ∧ 8 ≤ (l2.length : Int)
    case neg => rw [if_neg hc7] at hs; cases hs
    replace hs := of_if_p hs hc7
    refine WP.sliceR (lo := none) (hi := some (.int .i64 8)) hR4 0 8 (by kernel_rfl) (.inl ⟨rfl, rfl⟩) (.inr ⟨_, rfl⟩) hc7 ?_
    intro a8 c8 hR8
    replace hs := Option.bind_eq_some_iff.1 hs
    obtain ⟨x41, hk11, hs⟩ := hs
    have hcal11 := P.hash_number g (sliceI l2 0 8) a8 ((8 : Int).toNat - (0 : Int).toNat) c8 hR8 x41 hk11
    refine WP.callC hcal11 (by kernel_rfl) ?_
    rintro _ g11 st11 rfl
    replace hB1 := hB1.mono st11 (fun x => x)
    replace hR4 := hR4.mono st11 (fun x => x)
    replace hR8 := hR8.mono st11 (fun x => x)
    replace tot := tot.trans st11.pure
    replace hs := Option.bind_eq_some_iff.1 hs
    obtain ⟨⟨x42, x43, x44, x45⟩, hk12, hs⟩ := hs
    dsimp only at hs
    have hcal12 := P.hash_state_take g11 m0 x19 x20 x21 x22 x41 b1 hB1 (by omega) x42 x43 x44 x45 hk12
    refine WP.callC hcal12 (by kernel_rfl) ?_
    rintro _ g12 st12 ⟨rfl, hB8⟩
    replace hR4 := hR4.mono st12 (WL.no1 (by omega))
    replace hR8 := hR8.mono st12 (WL.no1 (by omega))
    replace tot := tot.trans (st12.up1 (.inl (by simp [WL])))
    clear hB1
    have hB1 := hB8
    clear hB8
    refine WP.done (by kernel_rfl) ?_
    refine NX.then_n ?_
    refine CP.region ?_
    refine WP.still 1 (by kernel_rfl) ?_
    by_cases hc8 : (0 : Int) ≤ 8 ∧ 8 ≤ (l2.length : Int) ∧ (l2.length : Int) ≤ (l2.length : Int)
    case neg => rw [if_neg hc8] at hs; cases hs
    replace hs := of_if_p hs hc8
    refine WP.sliceR (lo := some (.int .i64 8)) (hi := none) hR4 8 (l2.length : Int) (by kernel_rfl) (.inr ⟨_, rfl⟩) (.inl ⟨rfl, rfl⟩) hc8 ?_
    intro a9 c9 hR9
    refine WP.still 1 (by kernel_rfl) ?_
    refine WP.done (by kernel_rfl) ?_
    refine NX.block_n ?_
    refine NX.post ?_
    exact ⟨x42, x43, x44, x45, (sliceI l2 8 (l2.length : Int)), a9, ((l2.length : Int).toNat - (8 : Int).toNat), c9, ⟨by kernel_rfl, by kernel_rfl⟩, tot, hB1, hR9, hs⟩
  replace hs := of_if_f hs h3
  refine CP.exit ?_
  refine NX.then_e ?_
  refine NX.then_e ?_
  refine NX.block_s ?_
  refine NX.then_n ?_
  refine CP.seq ?_
  replace hs := Option.bind_eq_some_iff.1 hs
  obtain ⟨x46, hk13, hs⟩ := hs
  by_cases hc9 : (0 : Int) ≤ (IntKind.i64.wrap (8 * (l2.length : Int)))
  case neg => rw [if_neg hc9] at hs; cases hs
  replace hs := of_if_p hs hc9
  replace hs := Option.bind_eq_some_iff.1 hs
  obtain ⟨⟨x47, x48, x49, x50⟩, hk14, hs⟩ := hs
  dsimp only at hs
  refine CP.drawL (by kernel_rfl) [2, 4, 6, 8] N.hash_state_bytes_0 [⟨none, [0], [], fun l g => Box g m0 b1 142 [[.int .u64 x19], [.int .u64 x20], [.int .u64 x21], [.int .u64 x22]] [1, 1, 1, 1]⟩, ⟨none, [], [], fun l g => RdS (Kd.int .u8) g 5 a4 n2 c4 l2⟩, ⟨some 0, [], [0], fun l g => l.getD 0 undef = .int .u64 x46⟩, ⟨some 1, [], [1], fun l g => l.getD 0 undef = .int .i64 (l2.length : Int)⟩, ⟨some 2, [], [2], fun l g => l.getD 0 undef = .int .u64 (shV true .u64 1 (IntKind.i64.wrap (8 * (l2.length : Int))))⟩, ⟨some 3, [], [3], fun l g => l.getD 0 undef = .tuple #[]⟩, ⟨some 3, [0], [], fun l g => Box g m0 b1 142 [[.int .u64 x47], [.int .u64 x48], [.int .u64 x49], [.int .u64 x50]] [1, 1, 1, 1]⟩] [[], [], [], [0]] [m0] [0, 1, 3] [5, 7] (by kernel_rfl) (by simp <;> omega) (by simp) ⟨fun _ _ _ _ st h0 hl hj hB1 => (hB1.mono st (hj 0 (by simp) _ rfl)), fun _ _ _ _ st h0 hl hj hR4 => (RdS.mono (e := 5) hR4 st h0), fun _ _ _ _ st h0 hl hj e0 => e0, fun _ _ _ _ st h0 hl hj e1 => e1, fun _ _ _ _ st h0 hl hj e2 => e2, fun _ _ _ _ st h0 hl hj e3 => e3, fun _ _ _ _ st h0 hl hj hB1 => (hB1.mono st (hj 0 (by simp) _ rfl)), trivial⟩ ⟨hB1, hR4, trivial, trivial, trivial, trivial, trivial, trivial⟩ (by kernel_rfl) (fun vs => by kernel_rfl) ?_ ?_ ?_
  · intro j hj
    have hq : j = 0 ∨ j = 1 := by have h : j < 2 := hj; omega
    rcases hq with rfl | rfl
    · intro vs gq stq hl hf
      obtain ⟨v0, v1, v2, v3, rfl⟩ := len_k4 hl
      have e1 := (show v1 = .int .i64 (l2.length : Int) from hf _ (List.mem_of_getElem? (i := 3) rfl) (by kernel_rfl))
      subst e1
      show Option.isSome _ = true
      kernel_rfl
    · intro vs gq stq hl hf
      obtain ⟨v0, v1, v2, v3, rfl⟩ := len_k4 hl
      have e0 := (show v0 = .int .u64 x46 from hf _ (List.mem_of_getElem? (i := 2) rfl) (by kernel_rfl))
      subst e0
      have e2 := (show v2 = .int .u64 (shV true .u64 1 (IntKind.i64.wrap (8 * (l2.length : Int)))) from hf _ (List.mem_of_getElem? (i := 4) rfl) (by kernel_rfl))
      subst e2
      show Option.isSome _ = true
      kernel_rfl
  · intro j hj
    have hq : j = 0 ∨ j = 1 ∨ j = 2 ∨ j = 3 := by have h : j < 4 := hj; omega
    rcases hq with rfl | rfl | rfl | rfl
    · intro vs gq stq hl hf
      obtain ⟨v0, v1, v2, v3, rfl⟩ := len_k4 hl
      have hR4 := (show RdS (Kd.int .u8) gq 5 a4 n2 c4 l2 from hf _ (List.mem_of_getElem? (i := 1) rfl) (by kernel_rfl))
      have hcal13 := P.hash_number gq l2 a4 n2 c4 hR4 x46 hk13
      refine WP.callC hcal13 (by kernel_rfl) ?_
      rintro _ g13 st13 rfl
      refine WP.done (by kernel_rfl) (Shown.ok (v := .int .u64 x46) (by kernel_rfl) st13.pure ?_)
      exact ⟨trivial, trivial, rfl, trivial, trivial, trivial, trivial, trivial⟩
    · intro vs gq stq hl hf
      obtain ⟨v0, v1, v2, v3, rfl⟩ := len_k4 hl
      have hR4 := (show RdS (Kd.int .u8) gq 5 a4 n2 c4 l2 from hf _ (List.mem_of_getElem? (i := 1) rfl) (by kernel_rfl))
      refine WP.len (a := a4) (cp := c4) hR4.len (by kernel_rfl) ?_
      refine WP.done (by kernel_rfl) (Shown.ok (v := .int .i64 (l2.length : Int)) (by kernel_rfl) (Step.refl _ _) ?_)
      exact ⟨trivial, trivial, trivial, rfl, trivial, trivial, trivial, trivial⟩
    · intro vs gq stq hl hf
      obtain ⟨v0, v1, v2, v3, rfl⟩ := len_k4 hl
      have e1 := (show v1 = .int .i64 (l2.length : Int) from hf _ (List.mem_of_getElem? (i := 3) rfl) (by kernel_rfl))
      subst e1
      refine WP.shift (left := true) (k := .u64) (yk := .i64) (x := 1) (y := (IntKind.i64.wrap (8 * (l2.length : Int)))) (by kernel_rfl) hc9 ?_
      refine WP.done (by kernel_rfl) (Shown.ok (v := .int .u64 (shV true .u64 1 (IntKind.i64.wrap (8 * (l2.length : Int))))) (by kernel_rfl) (Step.refl _ _) ?_)
      exact ⟨trivial, trivial, trivial, trivial, rfl, trivial, trivial, trivial⟩
    · intro vs gq stq hl hf
      obtain ⟨v0, v1, v2, v3, rfl⟩ := len_k4 hl
      have hB1 := (show Box gq m0 b1 142 [[.int .u64 x19], [.int .u64 x20], [.int .u64 x21], [.int .u64 x22]] [1, 1, 1, 1] from hf _ (List.mem_of_getElem? (i := 0) rfl) (by kernel_rfl))
      have e0 := (show v0 = .int .u64 x46 from hf _ (List.mem_of_getElem? (i := 2) rfl) (by kernel_rfl))
      subst e0
      have e2 := (show v2 = .int .u64 (shV true .u64 1 (IntKind.i64.wrap (8 * (l2.length : Int)))) from hf _ (List.mem_of_getElem? (i := 4) rfl) (by kernel_rfl))
      subst e2
      have hcal14 := P.hash_state_take gq m0 x19 x20 x21 x22 (bitOr .u64 x46 (shV true .u64 1 (IntKind.i64.wrap (8 * (l2.length : Int))))) b1 hB1 (by omega) x47 x48 x49 x50 hk14
      refine WP.callC hcal14 (by kernel_rfl) ?_
      rintro _ g14 st14 ⟨rfl, hB9⟩
      refine WP.done (by kernel_rfl) (Shown.ok (v := .tuple #[]) (by kernel_rfl) st14 ?_)
      exact ⟨trivial, trivial, trivial, trivial, trivial, rfl, hB9, trivial⟩
  intro vs g15 st15 hl hf
  obtain ⟨v0, v1, v2, v3, rfl⟩ := len_k4 hl
  have hB1 := (show Box g15 m0 b1 142 [[.int .u64 x47], [.int .u64 x48], [.int .u64 x49], [.int .u64 x50]] [1, 1, 1, 1] from hf _ (List.mem_of_getElem? (i := 6) rfl) (by kernel_rfl))
  replace tot := tot.trans (st15.up1 (.inl (by simp [WL])))
  refine NX.then_n ?_
  refine CP.refr 30 [(0, .pointer (some ⟨b1, 0, none⟩)), (4, .int .i64 (l1.length : Int))] (by kernel_rfl) (by kernel_rfl) ?_
  clear ds
  intro ds
  refine CP.region ?_
  refine WP.still 3 (by kernel_rfl) ?_
  replace hs := Option.bind_eq_some_iff.1 hs
  obtain ⟨⟨x51, x52, x53, x54⟩, hk15, hs⟩ := hs
  dsimp only at hs
  have hcal15 := P.hash_state_take g15 m0 x47 x48 x49 x50 (IntKind.u64.wrap (l1.length : Int)) b1 hB1 (by omega) x51 x52 x53 x54 hk15
  refine WP.callC hcal15 (by kernel_rfl) ?_
  rintro _ g16 st16 ⟨rfl, hB10⟩
  replace tot := tot.trans (st16.up1 (.inl (by simp [WL])))
  clear hB1
  have hB1 := hB10
  clear hB10
  refine WP.done (by kernel_rfl) ?_
  replace hs := Option.some.inj hs
  simp only [Prod.mk.injEq] at hs
  obtain ⟨rfl, rfl, rfl, rfl⟩ := hs
  exact NX.finE (v := .tuple #[]) (Res.still (by kernel_rfl)) tot htL ⟨rfl, hB1⟩
def N.hash_state_gives_0 : List (List Nat) := [[], [0], [0, 1], [0, 1, 2], [], [4], [4, 5], [4, 5, 6], [0, 1, 2, 3, 4, 5, 6, 7], [0, 1, 2, 3, 4, 5, 6, 7, 8]]
def F.hash_state_gives (x1 : Int) (x2 : Int) (x3 : Int) (x4 : Int) : Option (Int) := (some (bitXor .u64 x1 x3))
theorem P.hash_state_gives (g0 : GW) (m0 : Nat) (x1 : Int) (x2 : Int) (x3 : Int) (x4 : Int) (b1 : Nat) (hB1 : Box g0 m0 b1 142 [[.int .u64 x1], [.int .u64 x2], [.int .u64 x3], [.int .u64 x4]] [1, 1, 1, 1]) (hm0 : m0 ≠ 0) (o1 : Int) (hs : F.hash_state_gives x1 x2 x3 x4 = some o1) :
    Calls Try.prog 103 #[.pointer (some ⟨b1, 0, none⟩)] g0.w (Ret NoM g0 fun v g => v = .int .u64 o1) := by
  refine calls_of (args := [.pointer (some ⟨b1, 0, none⟩)]) Try.func103 rfl (m0 + 0) ?_
  intro t ht htL
  refine ⟨_, rfl, ?_⟩
  refine CP.refr 12 [(0, .pointer (some ⟨b1, 0, none⟩))] (by kernel_rfl) (by kernel_rfl) ?_
  intro ds
  have tot : Step (fun l => NoM l ∨ t ≤ l) g0 g0 := Step.refl _ _
  unfold F.hash_state_gives at hs
  refine CP.seqR ?_
  refine WP.still 1 (by kernel_rfl) ?_
  refine WP.done (by kernel_rfl) ?_
  refine NX.then_n ?_
  refine CP.seq ?_
  refine CP.drawL (by kernel_rfl) [3, 7] N.hash_state_gives_0 [⟨none, [], [], fun l g => Box g m0 b1 142 [[.int .u64 x1], [.int .u64 x2], [.int .u64 x3], [.int .u64 x4]] [1, 1, 1, 1]⟩, ⟨some 0, [], [0], fun l g => l.getD 0 undef = .int .u64 x1⟩, ⟨some 1, [], [1], fun l g => l.getD 0 undef = .int .u64 x3⟩] [[], []] [] [0, 1, 2, 4, 5, 6] [8, 9] (by kernel_rfl) (by simp) (by simp) ⟨fun _ _ _ _ st h0 hl hj hB1 => (hB1.mono st (fun h => absurd (hl _ h) (by simp))), fun _ _ _ _ st h0 hl hj e0 => e0, fun _ _ _ _ st h0 hl hj e1 => e1, trivial⟩ ⟨hB1, trivial, trivial, trivial⟩ (by kernel_rfl) (fun vs => by kernel_rfl) ?_ ?_ ?_
  · intro j hj
    have hq : j = 0 ∨ j = 1 := by have h : j < 2 := hj; omega
    rcases hq with rfl | rfl
    · intro vs gq stq hl hf
      obtain ⟨v0, v1, rfl⟩ := len_k2 hl
      have e0 := (show v0 = .int .u64 x1 from hf _ (List.mem_of_getElem? (i := 1) rfl) (by kernel_rfl))
      subst e0
      have e1 := (show v1 = .int .u64 x3 from hf _ (List.mem_of_getElem? (i := 2) rfl) (by kernel_rfl))
      subst e1
      show Option.isSome _ = true
      kernel_rfl
    · intro vs gq stq hl hf
      obtain ⟨v0, v1, rfl⟩ := len_k2 hl
      have e0 := (show v0 = .int .u64 x1 from hf _ (List.mem_of_getElem? (i := 1) rfl) (by kernel_rfl))
      subst e0
      have e1 := (show v1 = .int .u64 x3 from hf _ (List.mem_of_getElem? (i := 2) rfl) (by kernel_rfl))
      subst e1
      show Option.isSome _ = true
      kernel_rfl
  · intro j hj
    have hq : j = 0 ∨ j = 1 := by have h : j < 2 := hj; omega
    rcases hq with rfl | rfl
    · intro vs gq stq hl hf
      obtain ⟨v0, v1, rfl⟩ := len_k2 hl
      have hB1 := (show Box gq m0 b1 142 [[.int .u64 x1], [.int .u64 x2], [.int .u64 x3], [.int .u64 x4]] [1, 1, 1, 1] from hf _ (List.mem_of_getElem? (i := 0) rfl) (by kernel_rfl))
      refine WP.loadB (v := .int .u64 x1) hB1 (by kernel_rfl) (by kernel_rfl) ?_
      refine WP.done (by kernel_rfl) (Shown.ok (v := .int .u64 x1) (by kernel_rfl) (Step.refl _ _) ?_)
      exact ⟨trivial, rfl, trivial, trivial⟩
    · intro vs gq stq hl hf
      obtain ⟨v0, v1, rfl⟩ := len_k2 hl
      have hB1 := (show Box gq m0 b1 142 [[.int .u64 x1], [.int .u64 x2], [.int .u64 x3], [.int .u64 x4]] [1, 1, 1, 1] from hf _ (List.mem_of_getElem? (i := 0) rfl) (by kernel_rfl))
      refine WP.loadB (v := .int .u64 x3) hB1 (by kernel_rfl) (by kernel_rfl) ?_
      refine WP.done (by kernel_rfl) (Shown.ok (v := .int .u64 x3) (by kernel_rfl) (Step.refl _ _) ?_)
      exact ⟨trivial, trivial, rfl, trivial⟩
  intro vs g1 st1 hl hf
  obtain ⟨v0, v1, rfl⟩ := len_k2 hl
  have e0 := (show v0 = .int .u64 x1 from hf _ (List.mem_of_getElem? (i := 1) rfl) (by kernel_rfl))
  subst e0
  have e1 := (show v1 = .int .u64 x3 from hf _ (List.mem_of_getElem? (i := 2) rfl) (by kernel_rfl))
  subst e1
  replace tot := tot.trans st1.toNo.pure
  refine NX.then_n ?_
  refine CP.refr 12 [(2, .int .u64 (bitXor .u64 x1 x3))] (by kernel_rfl) (by kernel_rfl) ?_
  clear ds
  intro ds
  refine CP.ret ?_
  replace hs := Option.some.inj hs
  obtain rfl := hs
  exact NX.fin (v := .int .u64 (bitXor .u64 x1 x3)) (Res.still (by kernel_rfl)) tot htL rfl
def F.hash_FromNum.l1 (x1 : Int) : Nat → (Arr Int 8) → Int → Option ((Arr Int 8))
  | 0, _, _ => none
  | k + 1, d1, x2 => (if decide (x2 < 8) = true then (if (0 : Int) ≤ (IntKind.i64.wrap (8 * x2)) then (if (0 : Int) ≤ x2 ∧ x2 < (8 : Int) then (F.hash_FromNum.l1 x1 k (aset d1 x2 (IntKind.u8.wrap (shV false .u64 x1 (IntKind.i64.wrap (8 * x2))))) (IntKind.i64.wrap (x2 + 1))) else none) else none) else (some d1))
def F.hash_FromNum (x1 : Int) : Option ((Arr Int 8)) := (F.hash_FromNum.l1 x1 fuel (zA 8) 0)
theorem P.hash_FromNum (g0 : GW) (x1 : Int) (o1 : Arr Int 8) (hs : F.hash_FromNum x1 = some o1) :
    Calls Try.prog 102 #[.int .u64 x1] g0.w (Ret NoM g0 fun v g => v = AG [encA .u8 o1]) := by
  refine calls_of (args := [.int .u64 x1]) Try.func102 rfl (0) ?_
  intro t ht htL
  refine ⟨_, rfl, ?_⟩
  refine CP.refr 17 [(0, .int .u64 x1)] (by kernel_rfl) (by kernel_rfl) ?_
  intro ds
  have tot : Step (fun l => NoM l ∨ t ≤ l) g0 g0 := Step.refl _ _
  unfold F.hash_FromNum at hs
  refine CP.seqR ?_
  refine WP.alloc (T := 29) (t + 1) [encA .u8 (zA 8)] [8] (by kernel_rfl) (by simp [len_encA]) ?_
  intro g1 b1 st1 hB1
  replace tot := tot.trans st1.pure
  refine WP.done (by kernel_rfl) ?_
  refine NX.then_n ?_
  refine CP.seqR ?_
  refine WP.alloc (T := 29) (t + 2) [encA .u8 (zA 8)] [8] (by kernel_rfl) (by simp [len_encA]) ?_
  intro g2 b2 st2 hB2
  replace hB1 := hB1.mono st2 (fun x => x)
  replace tot := tot.trans st2.pure
  refine WP.done (by kernel_rfl) ?_
  refine NX.then_n ?_
  refine CP.seq ?_
  refine CP.seqR ?_
  refine WP.still 1 (by kernel_rfl) ?_
  refine WP.done (by kernel_rfl) ?_
  refine NX.then_n ?_
  refine CP.block ?_
  generalize fuel = k1 at hs
  refine CP.loop (fun k1 tm g => ∃ (d1 : Arr Int 8) (x2 : Int), Fr 17 [(0, .int .u64 x1), (2, .pointer (some ⟨b1, 0, none⟩)), (3, .pointer (some ⟨b2, 0, none⟩)), (5, .int .i64 x2)] tm ∧ Step (fun l => NoM l ∨ t ≤ l) g0 g ∧ Box g (t + 1) b1 29 [encA .u8 (zA 8)] [8] ∧ Box g (t + 2) b2 29 [encA .u8 d1] [8] ∧ F.hash_FromNum.l1 x1 k1 d1 x2 = some o1) k1 ?_ ?_ ?_
  · exact ⟨(zA 8), 0, ⟨by kernel_rfl, by kernel_rfl⟩, tot, hB1, hB2, hs⟩
  · rintro tm g ⟨d1, x2, hF, tot, hB1, hB2, hs⟩
    exact absurd hs (by simp [F.hash_FromNum.l1])
  clear tot hs hB1 hB2
  rintro k1 tm g ⟨d1, x2, hF, tot, hB1, hB2, hs⟩
  clear ds
  obtain ⟨ds, rfl⟩ := hF.open
  clear hF
  unfold F.hash_FromNum.l1 at hs
  refine CP.seqR ?_
  refine WP.still 1 (by kernel_rfl) ?_
  refine WP.done (by kernel_rfl) ?_
  refine NX.then_n ?_
  refine CP.seq ?_
  refine CP.cond (b := decide (x2 < 8)) (by kernel_rfl) (fun h3 => ?_) (fun h3 => ?_)
  · replace hs := of_if_t hs h3
    refine CP.skip ?_
    refine NX.then_n ?_
    refine CP.seq ?_
    refine CP.block ?_
    refine CP.seqR ?_
    refine WP.still 2 (by kernel_rfl) ?_
    refine WP.done (by kernel_rfl) ?_
    refine NX.then_n ?_
    refine CP.region ?_
    refine WP.still 4 (by kernel_rfl) ?_
    by_cases hc4 : (0 : Int) ≤ (IntKind.i64.wrap (8 * x2))
    case neg => rw [if_neg hc4] at hs; cases hs
    replace hs := of_if_p hs hc4
    refine WP.shift (left := false) (k := .u64) (yk := .i64) (x := x1) (y := (IntKind.i64.wrap (8 * x2))) (by kernel_rfl) hc4 ?_
    refine WP.still 1 (by kernel_rfl) ?_
    by_cases hc5 : (0 : Int) ≤ x2 ∧ x2 < (8 : Int)
    case neg => rw [if_neg hc5] at hs; cases hs
    replace hs := of_if_p hs hc5
    refine WP.ixBox (t := 29) (e := 5) (m := 8) (size := 1) (b := b2) (off := 0) (k := .i64) (i := x2) (by kernel_rfl) (by kernel_rfl) hc5 ?_
    refine WP.storeE (ty := 5) (o := 0) (m := 8) (k := .u8) (d := d1) (i := x2) (x := (IntKind.u8.wrap (shV false .u64 x1 (IntKind.i64.wrap (8 * x2))))) hB2 (by kernel_rfl) hc5 (by kernel_rfl) (by kernel_rfl) [encA .u8 (aset d1 x2 (IntKind.u8.wrap (shV false .u64 x1 (IntKind.i64.wrap (8 * x2)))))] (by kernel_rfl) ?_
    intro g7 st7 hB7
    replace hB1 := hB1.mono st7 (WL.no1 (by omega))
    replace tot := tot.trans (st7.up1 (.inr (by omega)))
    clear hB2
    have hB2 := hB7
    clear hB7
    refine WP.done (by kernel_rfl) ?_
    refine NX.block_n ?_
    refine NX.then_n ?_
    refine CP.region ?_
    refine WP.still 2 (by kernel_rfl) ?_
    refine WP.done (by kernel_rfl) ?_
    refine NX.post ?_
    exact ⟨(aset d1 x2 (IntKind.u8.wrap (shV false .u64 x1 (IntKind.i64.wrap (8 * x2))))), (IntKind.i64.wrap (x2 + 1)), ⟨by kernel_rfl, by kernel_rfl⟩, tot, hB1, hB2, hs⟩
  replace hs := of_if_f hs h3
  refine CP.exit ?_
  refine NX.then_e ?_
  refine NX.then_e ?_
  refine NX.block_s ?_
  refine NX.then_n ?_
  refine CP.seqR ?_
  refine WP.loadB (v := AG [encA .u8 d1]) hB2 (by kernel_rfl) (by kernel_rfl) ?_
  refine WP.storeB (ty := 29) (off := 0) (v := AG [encA .u8 d1]) hB1 [encA .u8 d1] [8] (by kernel_rfl) (by kernel_rfl) (by simp [len_encA]) (by kernel_rfl) [encA .u8 d1] (by kernel_rfl) (.arr .nil) ?_
  intro g8 st8 hB8
  replace hB2 := hB2.mono st8 (WL.no1 (by omega))
  replace tot := tot.trans (st8.up1 (.inr (by omega)))
  clear hB1
  have hB1 := hB8
  clear hB8
  refine WP.done (by kernel_rfl) ?_
  refine NX.then_n ?_
  refine CP.ret ?_
  replace hs := Option.some.inj hs
  obtain rfl := hs
  exact NX.fin (v := AG [encA .u8 d1]) (Res.one rfl (RV.box (agg := true) (size := 8) (rs := [encA .u8 d1]) hB1 (by kernel_rfl) (by kernel_rfl) (by kernel_rfl) (by kernel_rfl))) tot htL rfl
def F.hash_state_digest (x1 : Int) (x2 : Int) (x3 : Int) (x4 : Int) : Option ((Arr Int 8)) := ((F.hash_state_gives x1 x2 x3 x4).bind fun x5 => ((F.hash_FromNum x5).bind fun d1 => (some d1)))
theorem P.hash_state_digest (g0 : GW) (m0 : Nat) (x1 : Int) (x2 : Int) (x3 : Int) (x4 : Int) (b1 : Nat) (hB1 : Box g0 m0 b1 142 [[.int .u64 x1], [.int .u64 x2], [.int .u64 x3], [.int .u64 x4]] [1, 1, 1, 1]) (hm0 : m0 ≠ 0) (o1 : Arr Int 8) (hs : F.hash_state_digest x1 x2 x3 x4 = some o1) :
    Calls Try.prog 86 #[.pointer (some ⟨b1, 0, none⟩)] g0.w (Ret NoM g0 fun v g => v = AG [encA .u8 o1]) := by
  refine calls_of (args := [.pointer (some ⟨b1, 0, none⟩)]) Try.func86 rfl (m0 + 0) ?_
  intro t ht htL
  refine ⟨_, rfl, ?_⟩
  refine CP.refr 6 [(0, .pointer (some ⟨b1, 0, none⟩))] (by kernel_rfl) (by kernel_rfl) ?_
  intro ds
  have tot : Step (fun l => NoM l ∨ t ≤ l) g0 g0 := Step.refl _ _
  unfold F.hash_state_digest at hs
  refine CP.seqR ?_
  refine WP.alloc (T := 29) (t + 1) [encA .u8 (zA 8)] [8] (by kernel_rfl) (by simp [len_encA]) ?_
  intro g1 b2 st1 hB2
  replace hB1 := hB1.mono st1 (fun x => x)
  replace tot := tot.trans st1.pure
  refine WP.done (by kernel_rfl) ?_
  refine NX.then_n ?_
  refine CP.seqR ?_
  refine WP.still 1 (by kernel_rfl) ?_
  replace hs := Option.bind_eq_some_iff.1 hs
  obtain ⟨x5, hk1, hs⟩ := hs
  have hcal1 := P.hash_state_gives g1 m0 x1 x2 x3 x4 b1 hB1 (by omega) x5 hk1
  refine WP.callC hcal1 (by kernel_rfl) ?_
  rintro _ g2 st2 rfl
  replace hB1 := hB1.mono st2 (fun x => x)
  replace hB2 := hB2.mono st2 (fun x => x)
  replace tot := tot.trans st2.pure
  replace hs := Option.bind_eq_some_iff.1 hs
  obtain ⟨d1, hk2, hs⟩ := hs
  have hcal2 := P.hash_FromNum g2 x5 d1 hk2
  refine WP.callC hcal2 (by kernel_rfl) ?_
  rintro _ g3 st3 rfl
  replace hB1 := hB1.mono st3 (fun x => x)
  replace hB2 := hB2.mono st3 (fun x => x)
  replace tot := tot.trans st3.pure
  refine WP.storeB (ty := 29) (off := 0) (v := AG [encA .u8 d1]) hB2 [encA .u8 d1] [8] (by kernel_rfl) (by kernel_rfl) (by simp [len_encA]) (by kernel_rfl) [encA .u8 d1] (by kernel_rfl) (.arr .nil) ?_
  intro g4 st4 hB3
  replace hB1 := hB1.mono st4 (WL.no1 (by omega))
  replace tot := tot.trans (st4.up1 (.inr (by omega)))
  clear hB2
  have hB2 := hB3
  clear hB3
  refine WP.done (by kernel_rfl) ?_
  refine NX.then_n ?_
  refine CP.ret ?_
  replace hs := Option.some.inj hs
  obtain rfl := hs
  exact NX.fin (v := AG [encA .u8 d1]) (Res.one rfl (RV.box (agg := true) (size := 8) (rs := [encA .u8 d1]) hB2 (by kernel_rfl) (by kernel_rfl) (by kernel_rfl) (by kernel_rfl))) tot htL rfl
def F.hash_Of (l1 : List Int) : Option ((Arr Int 8)) := ((F.hash_begin 1).bind fun (x1, x2, x3, x4) => ((F.hash_state_bytes x1 x2 x3 x4 l1).bind fun (x5, x6, x7, x8) => ((F.hash_state_digest x5 x6 x7 x8).bind fun d1 => (some d1))))
theorem P.hash_Of (g0 : GW) (l1 : List Int) (a1 : Option Addr) (n1 : Nat) (c1 : Nat) (hR1 : RdS (Kd.int .u8) g0 5 a1 n1 c1 l1) (o1 : Arr Int 8) (hs : F.hash_Of l1 = some o1) :
    Calls Try.prog 62 #[.slice a1 n1 c1] g0.w (Ret NoM g0 fun v g => v = AG [encA .u8 o1]) := by
  refine calls_of (args := [.slice a1 n1 c1]) Try.func62 rfl (0) ?_
  intro t ht htL
  refine ⟨_, rfl, ?_⟩
  refine CP.refr 8 [(0, .slice a1 n1 c1)] (by kernel_rfl) (by kernel_rfl) ?_
  intro ds
  have tot : Step (fun l => NoM l ∨ t ≤ l) g0 g0 := Step.refl _ _
  unfold F.hash_Of at hs
  refine CP.seqR ?_
  refine WP.alloc (T := 29) (t + 1) [encA .u8 (zA 8)] [8] (by kernel_rfl) (by simp [len_encA]) ?_
  intro g1 b1 st1 hB1
  replace hR1 := hR1.mono st1 (fun x => x)
  replace tot := tot.trans st1.pure
  refine WP.done (by kernel_rfl) ?_
  refine NX.then_n ?_
  refine CP.seqR ?_
  replace hs := Option.bind_eq_some_iff.1 hs
  obtain ⟨⟨x1, x2, x3, x4⟩, hk1, hs⟩ := hs
  dsimp only at hs
  have hcal1 := P.hash_begin g1 1 x1 x2 x3 x4 hk1
  refine WP.callC hcal1 (by kernel_rfl) ?_
  rintro _ g2 st2 rfl
  replace hR1 := hR1.mono st2 (fun x => x)
  replace hB1 := hB1.mono st2 (fun x => x)
  replace tot := tot.trans st2.pure
  refine WP.alloc (T := 142) (t + 2) [[.int .u64 0], [.int .u64 0], [.int .u64 0], [.int .u64 0]] [1, 1, 1, 1] (by kernel_rfl) rfl ?_
  intro g3 b2 st3 hB2
  replace hR1 := hR1.mono st3 (fun x => x)
  replace hB1 := hB1.mono st3 (fun x => x)
  replace tot := tot.trans st3.pure
  refine WP.storeB (ty := 142) (off := 0) (v := AG [[.int .u64 x1], [.int .u64 x2], [.int .u64 x3], [.int .u64 x4]]) hB2 [[.int .u64 x1], [.int .u64 x2], [.int .u64 x3], [.int .u64 x4]] [1, 1, 1, 1] (by kernel_rfl) (by kernel_rfl) rfl (by kernel_rfl) [[.int .u64 x1], [.int .u64 x2], [.int .u64 x3], [.int .u64 x4]] (by kernel_rfl) (.one rfl (.one rfl (.one rfl (.one rfl .nil)))) ?_
  intro g4 st4 hB3
  replace hR1 := hR1.mono st4 (WL.no1 (by omega))
  replace hB1 := hB1.mono st4 (WL.no1 (by omega))
  replace tot := tot.trans (st4.up1 (.inr (by omega)))
  clear hB2
  have hB2 := hB3
  clear hB3
  refine WP.done (by kernel_rfl) ?_
  refine NX.then_n ?_
  refine CP.seqR ?_
  refine WP.still 1 (by kernel_rfl) ?_
  replace hs := Option.bind_eq_some_iff.1 hs
  obtain ⟨⟨x5, x6, x7, x8⟩, hk2, hs⟩ := hs
  dsimp only at hs
  have hcal2 := P.hash_state_bytes g4 (t + 2) x1 x2 x3 x4 l1 a1 n1 c1 b2 hR1 hB2 (by omega) x5 x6 x7 x8 hk2
  refine WP.callC hcal2 (by kernel_rfl) ?_
  rintro _ g5 st5 ⟨rfl, hB4⟩
  replace hR1 := hR1.mono st5 (WL.no1 (by omega))
  replace hB1 := hB1.mono st5 (WL.no1 (by omega))
  replace tot := tot.trans (st5.up1 (.inr (by omega)))
  clear hB2
  have hB2 := hB4
  clear hB4
  refine WP.done (by kernel_rfl) ?_
  refine NX.then_n ?_
  refine CP.seqR ?_
  replace hs := Option.bind_eq_some_iff.1 hs
  obtain ⟨d1, hk3, hs⟩ := hs
  have hcal3 := P.hash_state_digest g5 (t + 2) x5 x6 x7 x8 b2 hB2 (by omega) d1 hk3
  refine WP.callC hcal3 (by kernel_rfl) ?_
  rintro _ g6 st6 rfl
  replace hB1 := hB1.mono st6 (fun x => x)
  replace hB2 := hB2.mono st6 (fun x => x)
  replace tot := tot.trans st6.pure
  refine WP.storeB (ty := 29) (off := 0) (v := AG [encA .u8 d1]) hB1 [encA .u8 d1] [8] (by kernel_rfl) (by kernel_rfl) (by simp [len_encA]) (by kernel_rfl) [encA .u8 d1] (by kernel_rfl) (.arr .nil) ?_
  intro g7 st7 hB5
  replace hB2 := hB2.mono st7 (WL.no1 (by omega))
  replace tot := tot.trans (st7.up1 (.inr (by omega)))
  clear hB1
  have hB1 := hB5
  clear hB5
  refine WP.done (by kernel_rfl) ?_
  refine NX.then_n ?_
  refine CP.ret ?_
  replace hs := Option.some.inj hs
  obtain rfl := hs
  exact NX.fin (v := AG [encA .u8 d1]) (Res.one rfl (RV.box (agg := true) (size := 8) (rs := [encA .u8 d1]) hB1 (by kernel_rfl) (by kernel_rfl) (by kernel_rfl) (by kernel_rfl))) tot htL rfl
def F.purse_Purse_Digest (d1 : Arr Int 8) (x1 : Int) (d2 : Arr Int 2) (l1 : List S_purse_Held) : Option ((Arr Int 8)) := ((F.purse_Purse_Check d1 x1 d2 l1).bind fun x2 => (if (x2 != 0) = true then (some (zA 8)) else ((F.octet_PutText ([]) str_1).bind fun l2 => ((F.purse_Purse_bytes d1 x1 d2 l1).bind fun l3 => (if l2.length + l3.length ≤ 140737488355328 then ((F.hash_Of (l2 ++ l3)).bind fun d3 => (some d3)) else none)))))
theorem P.purse_Purse_Digest (g0 : GW) (d1 : Arr Int 8) (x1 : Int) (d2 : Arr Int 2) (l1 : List S_purse_Held) (a1 : Option Addr) (n1 : Nat) (c1 : Nat) (hR1 : RdS k_S_purse_Held g0 56 a1 n1 c1 l1) (o1 : Arr Int 8) (hs : F.purse_Purse_Digest d1 x1 d2 l1 = some o1) :
    Calls Try.prog 32 #[AG [encA .u8 d1, [.int .i64 x1], encA .i64 d2, [.slice a1 n1 c1]]] g0.w (Ret NoM g0 fun v g => v = AG [encA .u8 o1]) := by
  refine calls_of (args := [AG [encA .u8 d1, [.int .i64 x1], encA .i64 d2, [.slice a1 n1 c1]]]) Try.func32 rfl (0) ?_
  intro t ht htL
  refine ⟨_, rfl, ?_⟩
  refine CP.refr 12 [(0, AG [encA .u8 d1, [.int .i64 x1], encA .i64 d2, [.slice a1 n1 c1]])] (by kernel_rfl) (by kernel_rfl) ?_
  intro ds
  have tot : Step (fun l => NoM l ∨ t ≤ l) g0 g0 := Step.refl _ _
  unfold F.purse_Purse_Digest at hs
  refine CP.seqR ?_
  refine WP.alloc (T := 32) (t + 1) [encA .u8 d1, [.int .i64 x1], encA .i64 d2, [.slice a1 n1 c1]] [8, 1, 2, 1] (by kernel_rfl) (by simp [len_encA]) ?_
  intro g1 b1 st1 hB1
  replace hR1 := hR1.mono st1 (fun x => x)
  replace tot := tot.trans st1.pure
  refine WP.alloc (T := 29) (t + 2) [encA .u8 (zA 8)] [8] (by kernel_rfl) (by simp [len_encA]) ?_
  intro g2 b2 st2 hB2
  replace hR1 := hR1.mono st2 (fun x => x)
  replace hB1 := hB1.mono st2 (fun x => x)
  replace tot := tot.trans st2.pure
  refine WP.done (by kernel_rfl) ?_
  refine NX.then_n ?_
  refine CP.seq ?_
  refine CP.seqR ?_
  refine WP.loadB (v := AG [encA .u8 d1, [.int .i64 x1], encA .i64 d2, [.slice a1 n1 c1]]) hB1 (by kernel_rfl) (by kernel_rfl) ?_
  replace hs := Option.bind_eq_some_iff.1 hs
  obtain ⟨x2, hk1, hs⟩ := hs
  have hcal1 := P.purse_Purse_Check g2 d1 x1 d2 l1 a1 n1 c1 hR1 x2 hk1
  refine WP.callC hcal1 (by kernel_rfl) ?_
  rintro _ g3 st3 rfl
  replace hB1 := hB1.mono st3 (fun x => x)
  replace hR1 := hR1.mono st3 (fun x => x)
  replace hB2 := hB2.mono st3 (fun x => x)
  replace tot := tot.trans st3.pure
  refine WP.still 1 (by kernel_rfl) ?_
  refine WP.done (by kernel_rfl) ?_
  refine NX.then_n ?_
  refine CP.cond (b := (x2 != 0)) (by kernel_rfl) (fun h1 => ?_) (fun h1 => ?_)
  · replace hs := of_if_t hs h1
    refine CP.seqR ?_
    refine WP.still 1 (by kernel_rfl) ?_
    refine WP.storeB (ty := 29) (off := 0) (v := AG [encA .u8 (zA 8)]) hB2 [encA .u8 (zA 8)] [8] (by kernel_rfl) (by kernel_rfl) (by simp [len_encA]) (by kernel_rfl) [encA .u8 (zA 8)] (by kernel_rfl) (.arr .nil) ?_
    intro g4 st4 hB3
    replace hB1 := hB1.mono st4 (WL.no1 (by omega))
    replace hR1 := hR1.mono st4 (WL.no1 (by omega))
    replace tot := tot.trans (st4.up1 (.inr (by omega)))
    clear hB2
    have hB2 := hB3
    clear hB3
    refine WP.done (by kernel_rfl) ?_
    refine NX.then_n ?_
    refine CP.ret ?_
    refine NX.then_r ?_
    replace hs := Option.some.inj hs
    obtain rfl := hs
    exact NX.fin (v := AG [encA .u8 (zA 8)]) (Res.one rfl (RV.box (agg := true) (size := 8) (rs := [encA .u8 (zA 8)]) hB2 (by kernel_rfl) (by kernel_rfl) (by kernel_rfl) (by kernel_rfl))) tot htL rfl
  replace hs := of_if_f hs h1
  refine CP.skip ?_
  refine NX.then_n ?_
  refine CP.seq ?_
  replace hs := Option.bind_eq_some_iff.1 hs
  obtain ⟨l2, hk2, hs⟩ := hs
  replace hs := Option.bind_eq_some_iff.1 hs
  obtain ⟨l3, hk3, hs⟩ := hs
  by_cases hc1 : l2.length + l3.length ≤ 140737488355328
  case neg => rw [if_neg hc1] at hs; cases hs
  replace hs := of_if_p hs hc1
  replace hs := Option.bind_eq_some_iff.1 hs
  obtain ⟨d3, hk4, hs⟩ := hs
  refine CP.drawL (by kernel_rfl) [0, 1, 2, 3, 4, 5] [[], [], [0, 1], [0, 1, 2], [0, 1, 2, 3], [0, 1, 2, 3, 4]] [⟨none, [], [], fun l g => Box g (t + 1) b1 32 [encA .u8 d1, [.int .i64 x1], encA .i64 d2, [.slice a1 n1 c1]] [8, 1, 2, 1]⟩, ⟨none, [], [], fun l g => RdS k_S_purse_Held g 56 a1 n1 c1 l1⟩, ⟨none, [1], [], fun l g => Box g (t + 2) b2 29 [encA .u8 (zA 8)] [8]⟩, ⟨some 0, [0], [0], fun l g => ∃ (a2 : Option Addr) (c2 : Nat), l.getD 0 undef = .slice a2 l2.length c2 ∧ OwnS (Kd.int .u8) g (t + 3) 5 a2 l2.length c2 l2⟩, ⟨some 1, [], [1], fun l g => l.getD 0 undef = AG [encA .u8 d1, [.int .i64 x1], encA .i64 d2, [.slice a1 n1 c1]]⟩, ⟨some 2, [], [2], fun l g => ∃ (a3 : Option Addr) (c3 : Nat), l.getD 0 undef = .slice a3 l3.length c3 ∧ RdS (Kd.int .u8) g 5 a3 l3.length c3 l3⟩, ⟨some 3, [0], [3], fun l g => ∃ (a4 : Option Addr) (c4 : Nat), l.getD 0 undef = .slice a4 (l2.length + l3.length) c4 ∧ OwnS (Kd.int .u8) g (t + 3) 5 a4 (l2.length + l3.length) c4 (l2 ++ l3)⟩, ⟨some 3, [], [0], fun l g => ∃ (a2 : Option Addr) (c2 : Nat), l.getD 0 undef = .slice a2 l2.length c2⟩, ⟨some 4, [], [4], fun l g => l.getD 0 undef = AG [encA .u8 d3]⟩, ⟨some 4, [0], [3], fun l g => ∃ (a4 : Option Addr) (c4 : Nat), l.getD 0 undef = .slice a4 (l2.length + l3.length) c4 ∧ OwnS (Kd.int .u8) g (t + 3) 5 a4 (l2.length + l3.length) c4 (l2 ++ l3)⟩, ⟨some 5, [1], [], fun l g => Box g (t + 2) b2 29 [encA .u8 d3] [8]⟩] [[], [], [], [0], [0], [1]] [(t + 3), (t + 2)] [] [] (by kernel_rfl) (by simp <;> omega) (by simp <;> omega) ⟨fun _ _ _ _ st h0 hl hj hB1 => (hB1.mono st (fun h => absurd (hl _ h) (by simp <;> omega))), fun _ _ _ _ st h0 hl hj hR1 => (RdS.mono (e := 56) hR1 st h0), fun _ _ _ _ st h0 hl hj hB2 => (hB2.mono st (hj 1 (by simp) _ rfl)), fun _ _ _ _ st h0 hl hj ⟨a2, c2, e0, hR2⟩ => ⟨a2, c2, e0, (hR2.mono st h0 (hj 0 (by simp) _ rfl))⟩, fun _ _ _ _ st h0 hl hj e1 => e1, fun _ _ _ _ st h0 hl hj ⟨a3, c3, e2, hR3⟩ => ⟨a3, c3, e2, (RdS.mono (e := 5) hR3 st h0)⟩, fun _ _ _ _ st h0 hl hj ⟨a4, c4, e3, hR4⟩ => ⟨a4, c4, e3, (hR4.mono st h0 (hj 0 (by simp) _ rfl))⟩, fun _ _ _ _ st h0 hl hj ⟨a2, c2, e0⟩ => ⟨a2, c2, e0⟩, fun _ _ _ _ st h0 hl hj e4 => e4, fun _ _ _ _ st h0 hl hj ⟨a4, c4, e3, hR4⟩ => ⟨a4, c4, e3, (hR4.mono st h0 (hj 0 (by simp) _ rfl))⟩, fun _ _ _ _ st h0 hl hj hB2 => (hB2.mono st (hj 1 (by simp) _ rfl)), trivial⟩ ⟨hB1, hR1, hB2, trivial, trivial, trivial, trivial, trivial, trivial, trivial, trivial, trivial⟩ (by kernel_rfl) (fun vs => by kernel_rfl) ?_ ?_ ?_
  · intro j hj; exact absurd hj (by simp)
  · intro j hj
    have hq : j = 0 ∨ j = 1 ∨ j = 2 ∨ j = 3 ∨ j = 4 ∨ j = 5 := by have h : j < 6 := hj; omega
    rcases hq with rfl | rfl | rfl | rfl | rfl | rfl
    · intro vs gq stq hl hf
      obtain ⟨v0, v1, v2, v3, v4, v5, rfl⟩ := len_k6 hl
      have hcal2 := P.octet_PutText gq (t + 3) ([]) str_1 none 0 0 (RdS.nil _ _ _) l2 hk2
      refine WP.callC hcal2 (by kernel_rfl) ?_
      rintro _ g5 st5 ⟨a2, n2, c2, rfl, hR2⟩
      obtain rfl := hR2.len
      refine WP.done (by kernel_rfl) (Shown.ok (v := .slice a2 l2.length c2) (by kernel_rfl) st5.pure ?_)
      exact ⟨trivial, trivial, trivial, ⟨a2, c2, rfl, hR2⟩, trivial, trivial, trivial, trivial, trivial, trivial, trivial, trivial⟩
    · intro vs gq stq hl hf
      obtain ⟨v0, v1, v2, v3, v4, v5, rfl⟩ := len_k6 hl
      have hB1 := (show Box gq (t + 1) b1 32 [encA .u8 d1, [.int .i64 x1], encA .i64 d2, [.slice a1 n1 c1]] [8, 1, 2, 1] from hf _ (List.mem_of_getElem? (i := 0) rfl) (by kernel_rfl))
      refine WP.loadB (v := AG [encA .u8 d1, [.int .i64 x1], encA .i64 d2, [.slice a1 n1 c1]]) hB1 (by kernel_rfl) (by kernel_rfl) ?_
      refine WP.done (by kernel_rfl) (Shown.ok (v := AG [encA .u8 d1, [.int .i64 x1], encA .i64 d2, [.slice a1 n1 c1]]) (by kernel_rfl) (Step.refl _ _) ?_)
      exact ⟨trivial, trivial, trivial, trivial, rfl, trivial, trivial, trivial, trivial, trivial, trivial, trivial⟩
    · intro vs gq stq hl hf
      obtain ⟨v0, v1, v2, v3, v4, v5, rfl⟩ := len_k6 hl
      have hR1 := (show RdS k_S_purse_Held gq 56 a1 n1 c1 l1 from hf _ (List.mem_of_getElem? (i := 1) rfl) (by kernel_rfl))
      have e1 := (show v1 = AG [encA .u8 d1, [.int .i64 x1], encA .i64 d2, [.slice a1 n1 c1]] from hf _ (List.mem_of_getElem? (i := 4) rfl) (by kernel_rfl))
      subst e1
      have hcal3 := P.purse_Purse_bytes gq d1 x1 d2 l1 a1 n1 c1 hR1 l3 hk3
      refine WP.callC hcal3 (by kernel_rfl) ?_
      rintro _ g6 st6 ⟨a3, n3, c3, rfl, hR3⟩
      obtain rfl := hR3.len
      refine WP.done (by kernel_rfl) (Shown.ok (v := .slice a3 l3.length c3) (by kernel_rfl) st6.pure ?_)
      exact ⟨trivial, trivial, trivial, trivial, trivial, ⟨a3, c3, rfl, hR3⟩, trivial, trivial, trivial, trivial, trivial, trivial⟩
    · intro vs gq stq hl hf
      obtain ⟨v0, v1, v2, v3, v4, v5, rfl⟩ := len_k6 hl
      obtain ⟨a2, c2, e0, hR2⟩ := (show ∃ (a2 : Option Addr) (c2 : Nat), v0 = .slice a2 l2.length c2 ∧ OwnS (Kd.int .u8) gq (t + 3) 5 a2 l2.length c2 l2 from hf _ (List.mem_of_getElem? (i := 3) rfl) (by kernel_rfl))
      subst e0
      obtain ⟨a3, c3, e2, hR3⟩ := (show ∃ (a3 : Option Addr) (c3 : Nat), v2 = .slice a3 l3.length c3 ∧ RdS (Kd.int .u8) gq 5 a3 l3.length c3 l3 from hf _ (List.mem_of_getElem? (i := 5) rfl) (by kernel_rfl))
      subst e2
      refine WP.append (kd := (Kd.int .u8)) (t := 64) (e := 5) (bytes := 1) (a2 := a3) (c2 := c3) hR2 hR3.src hR3.len (by kernel_rfl) (by kernel_rfl) (by omega) (by simp only [maxLen]; omega) (by omega) ?_
      intro g7 a4 c4 st7 hR4
      refine WP.done (by kernel_rfl) (Shown.ok (v := .slice a4 (l2.length + l3.length) c4) (by kernel_rfl) st7 ?_)
      exact ⟨trivial, trivial, trivial, trivial, trivial, trivial, ⟨a4, c4, rfl, hR4⟩, ⟨a2, c2, rfl⟩, trivial, trivial, trivial, trivial⟩
    · intro vs gq stq hl hf
      obtain ⟨v0, v1, v2, v3, v4, v5, rfl⟩ := len_k6 hl
      obtain ⟨a4, c4, e3, hR4⟩ := (show ∃ (a4 : Option Addr) (c4 : Nat), v3 = .slice a4 (l2.length + l3.length) c4 ∧ OwnS (Kd.int .u8) gq (t + 3) 5 a4 (l2.length + l3.length) c4 (l2 ++ l3) from hf _ (List.mem_of_getElem? (i := 6) rfl) (by kernel_rfl))
      subst e3
      have hS1 : 0 ∉ ([(t + 3)] : List Nat) := by simp <;> omega
      have stl1 := GW.lend_step gq [(t + 3)]
      have hRl1 := hR4.lendTo hS1 (by simp)
      refine WP.regw (g' := GW.lend gq [(t + 3)]) rfl ?_
      have hcal4 := P.hash_Of (GW.lend gq [(t + 3)]) (l2 ++ l3) a4 (l2.length + l3.length) c4 hRl1 d3 hk4
      refine WP.callC hcal4 (by kernel_rfl) ?_
      rintro _ g8 st8 rfl
      have st9 := (GW.back_step st8).lentS
      have hO1 := hR4.backTo hS1 (by simp) st8 (fun x => x)
      refine WP.regw (g' := GW.back gq g8 [(t + 3)]) rfl ?_
      generalize GW.back gq g8 [(t + 3)] = g9 at *
      refine WP.done (by kernel_rfl) (Shown.ok (v := AG [encA .u8 d3]) (by kernel_rfl) st9 ?_)
      exact ⟨trivial, trivial, trivial, trivial, trivial, trivial, trivial, trivial, rfl, ⟨a4, c4, rfl, hO1⟩, trivial, trivial⟩
    · intro vs gq stq hl hf
      obtain ⟨v0, v1, v2, v3, v4, v5, rfl⟩ := len_k6 hl
      have hB2 := (show Box gq (t + 2) b2 29 [encA .u8 (zA 8)] [8] from hf _ (List.mem_of_getElem? (i := 2) rfl) (by kernel_rfl))
      have e4 := (show v4 = AG [encA .u8 d3] from hf _ (List.mem_of_getElem? (i := 8) rfl) (by kernel_rfl))
      subst e4
      refine WP.storeB (ty := 29) (off := 0) (v := AG [encA .u8 d3]) hB2 [encA .u8 d3] [8] (by kernel_rfl) (by kernel_rfl) (by simp [len_encA]) (by kernel_rfl) [encA .u8 d3] (by kernel_rfl) (.arr .nil) ?_
      intro g10 st10 hB4
      refine WP.done (by kernel_rfl) (Shown.ok (v := undef) (by kernel_rfl) st10 ?_)
      exact ⟨trivial, trivial, trivial, trivial, trivial, trivial, trivial, trivial, trivial, trivial, hB4, trivial⟩
  intro vs g11 st11 hl hf
  obtain ⟨v0, v1, v2, v3, v4, v5, rfl⟩ := len_k6 hl
  have hB2 := (show Box g11 (t + 2) b2 29 [encA .u8 d3] [8] from hf _ (List.mem_of_getElem? (i := 10) rfl) (by kernel_rfl))
  replace tot := tot.trans (st11.up2 (.inr (by omega)) (.inr (by omega)))
  refine NX.then_n ?_
  refine CP.refr 12 [(2, .pointer (some ⟨b2, 0, none⟩))] (by kernel_rfl) (by kernel_rfl) ?_
  clear ds
  intro ds
  refine CP.ret ?_
  replace hs := Option.some.inj hs
  obtain rfl := hs
  exact NX.fin (v := AG [encA .u8 d3]) (Res.one rfl (RV.box (agg := true) (size := 8) (rs := [encA .u8 d3]) hB2 (by kernel_rfl) (by kernel_rfl) (by kernel_rfl) (by kernel_rfl))) tot htL rfl
def F.baizelaw47_PurseThere.c3 : Option (Bool) := ((F.baizelaw47_told).bind fun q7 => (some q7))
def F.baizelaw47_PurseThere.c4 (q8 : Bool) : Option (Bool) := (if q8 = true then (some false) else (F.baizelaw47_PurseThere.c3))
def F.baizelaw47_PurseThere.c2 (l2 : List Int) : Option (Bool) := ((F.purse_Decode l2).bind fun (d11, x9, d12, l8, x10) => (if (x10 == 0) = true then ((F.purse_Purse_Encode d11 x9 d12 l8).bind fun (l9, x11) => (if (x11 != 0) = true then (F.baizelaw47_PurseThere.c4 true) else (F.baizelaw47_PurseThere.c4 (!((bytesStr l9).toList == (bytesStr l2).toList))))) else (F.baizelaw47_PurseThere.c3)))
def F.baizelaw47_PurseThere.c5 (l2 : List Int) (q10 : Bool) : Option (Bool) := (if q10 = true then (some false) else (F.baizelaw47_PurseThere.c2 l2))
def N.baizelaw47_PurseThere_0 : List (List Nat) := [[], [0], [0, 1], [0, 1, 2], [0, 1, 2], [0, 1, 2, 3, 4], [0, 1, 2, 3, 4, 5], [0, 1, 2, 3, 4, 5, 6], [0, 1, 2, 3, 4, 5, 6, 7], [0, 1, 2, 3, 4, 5, 6, 7, 8], [0, 1, 2, 3, 4, 5, 6, 7, 8, 9], [0, 1, 2, 3, 4, 5, 6, 7, 8], [0, 1, 2, 3, 4, 5, 6, 7, 8, 9, 10, 11], [0, 1, 2, 3, 4, 5, 6, 7, 8, 9, 10, 11, 12], [0, 1, 2, 3, 4, 5, 6, 7, 8, 9, 10, 11, 12, 13]]
def F.baizelaw47_PurseThere.c1 (d1 : Arr Int 8) (x1 : Int) (d2 : Arr Int 2) (l1 : List S_baizeref47_Held) (l2 : List Int) (q2 : Bool) : Option (Bool) := (if q2 = true then ((F.baizelaw47_told).bind fun q3 => (some q3)) else ((F.baizelaw47_Own d1 x1 d2 l1).bind fun (d3, x2, d4, l3) => ((F.purse_Purse_Encode d3 x2 d4 l3).bind fun (l10, x12) => (if (x12 == 0) = true then ((F.purse_Decode l10).bind fun (d13, x13, d14, l11, x14) => (if (x14 != 0) = true then (F.baizelaw47_PurseThere.c5 l2 true) else ((F.purse_Same d3 x2 d4 l3 d13 x13 d14 l11).bind fun q11 => (if (!q11) = true then (F.baizelaw47_PurseThere.c5 l2 true) else ((F.purse_Purse_Digest d13 x13 d14 l11).bind fun d17 => ((F.purse_Purse_Digest d3 x2 d4 l3).bind fun d18 => (F.baizelaw47_PurseThere.c5 l2 (!(d17.1 == d18.1))))))))) else (F.baizelaw47_PurseThere.c2 l2)))))
def F.baizelaw47_PurseThere (d1 : Arr Int 8) (x1 : Int) (d2 : Arr Int 2) (l1 : List S_baizeref47_Held) (l2 : List Int) : Option (Bool) := ((F.baizelaw47_great d1 x1 d2 l1).bind fun q12 => (if q12 = true then (F.baizelaw47_PurseThere.c1 d1 x1 d2 l1 l2 true) else (F.baizelaw47_PurseThere.c1 d1 x1 d2 l1 l2 (decide ((l2.length : Int) > 1000)))))
theorem P.baizelaw47_PurseThere (g0 : GW) (d1 : Arr Int 8) (x1 : Int) (d2 : Arr Int 2) (l1 : List S_baizeref47_Held) (l2 : List Int) (a1 : Option Addr) (n1 : Nat) (c1 : Nat) (a2 : Option Addr) (n2 : Nat) (c2 : Nat) (hR1 : RdS k_S_baizeref47_Held g0 60 a1 n1 c1 l1) (hR2 : RdS (Kd.int .u8) g0 5 a2 n2 c2 l2) (o1 : Bool) (hs : F.baizelaw47_PurseThere d1 x1 d2 l1 l2 = some o1) :
    Calls Try.prog 9 #[AG [encA .u8 d1, [.int .i64 x1], encA .i64 d2, [.slice a1 n1 c1]], .slice a2 n2 c2] g0.w (Ret NoM g0 fun v g => v = .bool o1) := by
  refine calls_of (args := [AG [encA .u8 d1, [.int .i64 x1], encA .i64 d2, [.slice a1 n1 c1]], .slice a2 n2 c2]) Try.func9 rfl (0) ?_
  intro t ht htL
  refine ⟨_, rfl, ?_⟩
  refine CP.refr 73 [(0, AG [encA .u8 d1, [.int .i64 x1], encA .i64 d2, [.slice a1 n1 c1]]), (1, .slice a2 n2 c2)] (by kernel_rfl) (by kernel_rfl) ?_
  intro ds
  have tot : Step (fun l => NoM l ∨ t ≤ l) g0 g0 := Step.refl _ _
  unfold F.baizelaw47_PurseThere at hs
  refine CP.seqR ?_
  refine WP.alloc (T := 26) (t + 1) [encA .u8 d1, [.int .i64 x1], encA .i64 d2, [.slice a1 n1 c1]] [8, 1, 2, 1] (by kernel_rfl) (by simp [len_encA]) ?_
  intro g1 b1 st1 hB1
  replace hR1 := hR1.mono st1 (fun x => x)
  replace hR2 := hR2.mono st1 (fun x => x)
  replace tot := tot.trans st1.pure
  refine WP.still 1 (by kernel_rfl) ?_
  refine WP.done (by kernel_rfl) ?_
  refine NX.then_n ?_
  refine CP.seq ?_
  refine CP.cut (fun tm g => ∃ (q2 : Bool), Fr 73 [(1, .slice a2 n2 c2), (2, .pointer (some ⟨b1, 0, none⟩)), (20, .bool q2)] tm ∧ Step (fun l => NoM l ∨ t ≤ l) g0 g ∧ RdS (Kd.int .u8) g 5 a2 n2 c2 l2 ∧ Box g (t + 1) b1 26 [encA .u8 d1, [.int .i64 x1], encA .i64 d2, [.slice a1 n1 c1]] [8, 1, 2, 1] ∧ RdS k_S_baizeref47_Held g 60 a1 n1 c1 l1 ∧ (F.baizelaw47_PurseThere.c1 d1 x1 d2 l1 l2 q2) = some o1) ?_ ?_
  · refine CP.region ?_
    refine WP.loadB (v := AG [encA .u8 d1, [.int .i64 x1], encA .i64 d2, [.slice a1 n1 c1]]) hB1 (by kernel_rfl) (by kernel_rfl) ?_
    replace hs := Option.bind_eq_some_iff.1 hs
    obtain ⟨q12, hk22, hs⟩ := hs
    have hcal22 := P.baizelaw47_great g1 d1 x1 d2 l1 a1 n1 c1 hR1 q12 hk22
    refine WP.callC hcal22 (by kernel_rfl) ?_
    rintro _ g46 st46 rfl
    replace hR2 := hR2.mono st46 (fun x => x)
    replace hB1 := hB1.mono st46 (fun x => x)
    replace hR1 := hR1.mono st46 (fun x => x)
    replace tot := tot.trans st46.pure
    refine WP.still 1 (by kernel_rfl) ?_
    refine WP.guard 16 (b := q12) (by kernel_rfl) (fun h20 => ?_) (fun h20 => ?_)
    · replace hs := of_if_t hs h20
      refine WP.still 4 (by kernel_rfl) ?_
      refine WP.done (by kernel_rfl) ?_
      refine NX.post ?_
      exact ⟨true, ⟨by kernel_rfl, by kernel_rfl⟩, tot, hR2, hB1, hR1, hs⟩
    replace hs := of_if_f hs h20
    refine WP.still 1 (by kernel_rfl) ?_
    refine WP.len (a := a2) (cp := c2) hR2.len (by kernel_rfl) ?_
    refine WP.still 2 (by kernel_rfl) ?_
    refine WP.done (by kernel_rfl) ?_
    refine NX.post ?_
    exact ⟨decide ((l2.length : Int) > 1000), ⟨by kernel_rfl, by kernel_rfl⟩, tot, hR2, hB1, hR1, hs⟩
  clear tot hs hR2 hB1 hR1
  rintro tm g ⟨q2, hF, tot, hR2, hB1, hR1, hs⟩
  clear ds
  obtain ⟨ds, rfl⟩ := hF.open
  clear hF
  unfold F.baizelaw47_PurseThere.c1 at hs
  refine CP.cond (b := q2) (by kernel_rfl) (fun h2 => ?_) (fun h2 => ?_)
  · replace hs := of_if_t hs h2
    refine CP.seqR ?_
    replace hs := Option.bind_eq_some_iff.1 hs
    obtain ⟨q3, hk2, hs⟩ := hs
    have hcal2 := P.baizelaw47_told g q3 hk2
    refine WP.callC hcal2 (by kernel_rfl) ?_
    rintro _ g3 st3 rfl
    replace hR2 := hR2.mono st3 (fun x => x)
    replace hB1 := hB1.mono st3 (fun x => x)
    replace hR1 := hR1.mono st3 (fun x => x)
    replace tot := tot.trans st3.pure
    refine WP.still 1 (by kernel_rfl) ?_
    refine WP.done (by kernel_rfl) ?_
    refine NX.then_n ?_
    refine CP.ret ?_
    refine NX.then_r ?_
    replace hs := Option.some.inj hs
    obtain rfl := hs
    exact NX.fin (v := .bool q3) (Res.still (by kernel_rfl)) tot htL rfl
  replace hs := of_if_f hs h2
  refine CP.skip ?_
  refine NX.then_n ?_
  refine CP.seqR ?_
  refine WP.loadB (v := AG [encA .u8 d1, [.int .i64 x1], encA .i64 d2, [.slice a1 n1 c1]]) hB1 (by kernel_rfl) (by kernel_rfl) ?_
  replace hs := Option.bind_eq_some_iff.1 hs
  obtain ⟨⟨d3, x2, d4, l3⟩, hk3, hs⟩ := hs
  dsimp only at hs
  have hcal3 := P.baizelaw47_Own g (t + 2) d1 x1 d2 l1 a1 n1 c1 hR1 d3 x2 d4 l3 hk3
  refine WP.callC hcal3 (by kernel_rfl) ?_
  rintro _ g4 st4 ⟨a3, n3, c3, rfl, hR3⟩
  replace hR2 := hR2.mono st4 (fun x => x)
  replace hB1 := hB1.mono st4 (fun x => x)
  replace hR1 := hR1.mono st4 (fun x => x)
  replace tot := tot.trans st4.pure
  refine WP.alloc (T := 32) (t + 3) [encA .u8 (zA 8), [.int .i64 0], encA .i64 (zA 2), [.slice none 0 0]] [8, 1, 2, 1] (by kernel_rfl) (by simp [len_encA]) ?_
  intro g5 b2 st5 hB2
  replace hR2 := hR2.mono st5 (fun x => x)
  replace hB1 := hB1.mono st5 (fun x => x)
  replace hR1 := hR1.mono st5 (fun x => x)
  replace hR3 := hR3.mono st5 (fun x => x) (fun x => x)
  replace tot := tot.trans st5.pure
  refine WP.storeB (ty := 32) (off := 0) (v := AG [encA .u8 d3, [.int .i64 x2], encA .i64 d4, [.slice a3 n3 c3]]) hB2 [encA .u8 d3, [.int .i64 x2], encA .i64 d4, [.slice a3 n3 c3]] [8, 1, 2, 1] (by kernel_rfl) (by kernel_rfl) (by simp [len_encA]) (by kernel_rfl) [encA .u8 d3, [.int .i64 x2], encA .i64 d4, [.slice a3 n3 c3]] (by kernel_rfl) (.arr (.one rfl (.arr (.one rfl .nil)))) ?_
  intro g6 st6 hB3
  replace hR2 := hR2.mono st6 (WL.no1 (by omega))
  replace hB1 := hB1.mono st6 (WL.no1 (by omega))
  replace hR1 := hR1.mono st6 (WL.no1 (by omega))
  replace hR3 := hR3.mono st6 (WL.no1 (by omega)) (WL.no1 (by omega))
  replace tot := tot.trans (st6.up1 (.inr (by omega)))
  clear hB2
  have hB2 := hB3
  clear hB3
  refine WP.done (by kernel_rfl) ?_
  refine NX.then_n ?_
  refine CP.cut (fun tm g => Fr 73 [(1, .slice a2 n2 c2)] tm ∧ Step (fun l => NoM l ∨ t ≤ l) g0 g ∧ RdS (Kd.int .u8) g 5 a2 n2 c2 l2 ∧ (F.baizelaw47_PurseThere.c2 l2) = some o1) ?_ ?_
  · refine CP.seqR ?_
    refine WP.loadB (v := AG [encA .u8 d3, [.int .i64 x2], encA .i64 d4, [.slice a3 n3 c3]]) hB2 (by kernel_rfl) (by kernel_rfl) ?_
    replace hs := Option.bind_eq_some_iff.1 hs
    obtain ⟨⟨l10, x12⟩, hk14, hs⟩ := hs
    dsimp only at hs
    obtain ⟨g29, hw4, st29, hnew⟩ := hR3.freeze (by omega)
    refine WP.regw hw4 ?_
    replace hR2 := hR2.mono st29 (WL.no1 (by omega))
    replace hB2 := hB2.mono st29 (WL.no1 (by omega))
    replace tot := tot.trans (st29.up1 (.inr (by omega)))
    clear hR3
    have hR3 := hnew
    clear hnew
    have hcal14 := P.purse_Purse_Encode g29 d3 x2 d4 l3 a3 n3 c3 hR3 l10 x12 hk14
    refine WP.callC hcal14 (by kernel_rfl) ?_
    rintro _ g28 st28 ⟨a10, n10, c10, rfl, hR10⟩
    replace hR2 := hR2.mono st28 (fun x => x)
    replace hB2 := hB2.mono st28 (fun x => x)
    replace hR3 := hR3.mono st28 (fun x => x)
    replace tot := tot.trans st28.pure
    refine WP.still 5 (by kernel_rfl) ?_
    refine WP.done (by kernel_rfl) ?_
    refine NX.then_n ?_
    refine CP.seqR ?_
    refine WP.still 2 (by kernel_rfl) ?_
    refine WP.done (by kernel_rfl) ?_
    refine NX.then_n ?_
    refine CP.refr 73 [(1, .slice a2 n2 c2), (5, .pointer (some ⟨b2, 0, none⟩)), (6, .slice a10 n10 c10), (30, .bool (x12 == 0))] (by kernel_rfl) (by kernel_rfl) ?_
    clear ds
    intro ds
    refine CP.cond (b := (x12 == 0)) (by kernel_rfl) (fun h14 => ?_) (fun h14 => ?_)
    · replace hs := of_if_t hs h14
      refine CP.seqR ?_
      refine WP.still 1 (by kernel_rfl) ?_
      replace hs := Option.bind_eq_some_iff.1 hs
      obtain ⟨⟨d13, x13, d14, l11, x14⟩, hk15, hs⟩ := hs
      dsimp only at hs
      have hcal15 := P.purse_Decode g28 (t + 10) l10 a10 n10 c10 hR10 d13 x13 d14 l11 x14 hk15
      refine WP.callC hcal15 (by kernel_rfl) ?_
      rintro _ g30 st30 ⟨a11, n11, c11, rfl, hR11⟩
      replace hR2 := hR2.mono st30 (fun x => x)
      replace hB2 := hB2.mono st30 (fun x => x)
      replace hR3 := hR3.mono st30 (fun x => x)
      replace hR10 := hR10.mono st30 (fun x => x)
      replace tot := tot.trans st30.pure
      refine WP.still 3 (by kernel_rfl) ?_
      refine WP.alloc (T := 32) (t + 11) [encA .u8 (zA 8), [.int .i64 0], encA .i64 (zA 2), [.slice none 0 0]] [8, 1, 2, 1] (by kernel_rfl) (by simp [len_encA]) ?_
      intro g31 b6 st31 hB10
      replace hR2 := hR2.mono st31 (fun x => x)
      replace hB2 := hB2.mono st31 (fun x => x)
      replace hR3 := hR3.mono st31 (fun x => x)
      replace hR10 := hR10.mono st31 (fun x => x)
      replace hR11 := hR11.mono st31 (fun x => x) (fun x => x)
      replace tot := tot.trans st31.pure
      refine WP.storeB (ty := 32) (off := 0) (v := AG [encA .u8 d13, [.int .i64 x13], encA .i64 d14, [.slice a11 n11 c11]]) hB10 [encA .u8 d13, [.int .i64 x13], encA .i64 d14, [.slice a11 n11 c11]] [8, 1, 2, 1] (by kernel_rfl) (by kernel_rfl) (by simp [len_encA]) (by kernel_rfl) [encA .u8 d13, [.int .i64 x13], encA .i64 d14, [.slice a11 n11 c11]] (by kernel_rfl) (.arr (.one rfl (.arr (.one rfl .nil)))) ?_
      intro g32 st32 hB11
      replace hR2 := hR2.mono st32 (WL.no1 (by omega))
      replace hB2 := hB2.mono st32 (WL.no1 (by omega))
      replace hR3 := hR3.mono st32 (WL.no1 (by omega))
      replace hR10 := hR10.mono st32 (WL.no1 (by omega))
      replace hR11 := hR11.mono st32 (WL.no1 (by omega)) (WL.no1 (by omega))
      replace tot := tot.trans (st32.up1 (.inr (by omega)))
      clear hB10
      have hB10 := hB11
      clear hB11
      refine WP.still 1 (by kernel_rfl) ?_
      refine WP.done (by kernel_rfl) ?_
      refine NX.then_n ?_
      refine CP.cut (fun tm g => ∃ (q10 : Bool), Fr 73 [(1, .slice a2 n2 c2), (50, .bool q10)] tm ∧ Step (fun l => NoM l ∨ t ≤ l) g0 g ∧ RdS (Kd.int .u8) g 5 a2 n2 c2 l2 ∧ (F.baizelaw47_PurseThere.c5 l2 q10) = some o1) ?_ ?_
      · refine bool_split (b := (x14 != 0)) (fun h18 => ?_) (fun h18 => ?_)
        · replace hs := of_if_t hs h18
          refine CP.drawL (by kernel_rfl) [2] N.baizelaw47_PurseThere_0 [⟨some 0, [], [0], fun l g => l.getD 0 undef = .bool true⟩] [[]] [] [0, 1] [3, 4, 5, 6, 7, 8, 9, 10, 11, 12, 13, 14] (by kernel_rfl) (by simp) (by simp) ⟨fun _ _ _ _ st h0 hl hj e0 => e0, trivial⟩ ⟨trivial, trivial⟩ (by kernel_rfl) (fun vs => by kernel_rfl) ?_ ?_ ?_
          · intro j hj
            have hq : j = 0 ∨ j = 1 ∨ j = 2 ∨ j = 3 ∨ j = 4 ∨ j = 5 ∨ j = 6 ∨ j = 7 ∨ j = 8 ∨ j = 9 ∨ j = 10 ∨ j = 11 := by have h : j < 12 := hj; omega
            rcases hq with rfl | rfl | rfl | rfl | rfl | rfl | rfl | rfl | rfl | rfl | rfl | rfl
            · intro vs gq stq hl hf
              obtain ⟨v0, rfl⟩ := len_k1 hl
              have e0 := (show v0 = .bool true from hf _ (List.mem_of_getElem? (i := 0) rfl) (by kernel_rfl))
              subst e0
              show Option.isSome _ = true
              kernel_rfl
            · intro vs gq stq hl hf
              obtain ⟨v0, rfl⟩ := len_k1 hl
              have e0 := (show v0 = .bool true from hf _ (List.mem_of_getElem? (i := 0) rfl) (by kernel_rfl))
              subst e0
              show Option.isSome _ = true
              kernel_rfl
            · intro vs gq stq hl hf
              obtain ⟨v0, rfl⟩ := len_k1 hl
              have e0 := (show v0 = .bool true from hf _ (List.mem_of_getElem? (i := 0) rfl) (by kernel_rfl))
              subst e0
              show Option.isSome _ = true
              kernel_rfl
            · intro vs gq stq hl hf
              obtain ⟨v0, rfl⟩ := len_k1 hl
              have e0 := (show v0 = .bool true from hf _ (List.mem_of_getElem? (i := 0) rfl) (by kernel_rfl))
              subst e0
              show Option.isSome _ = true
              kernel_rfl
            · intro vs gq stq hl hf
              obtain ⟨v0, rfl⟩ := len_k1 hl
              have e0 := (show v0 = .bool true from hf _ (List.mem_of_getElem? (i := 0) rfl) (by kernel_rfl))
              subst e0
              show Option.isSome _ = true
              kernel_rfl
            · intro vs gq stq hl hf
              obtain ⟨v0, rfl⟩ := len_k1 hl
              have e0 := (show v0 = .bool true from hf _ (List.mem_of_getElem? (i := 0) rfl) (by kernel_rfl))
              subst e0
              show Option.isSome _ = true
              kernel_rfl
            · intro vs gq stq hl hf
              obtain ⟨v0, rfl⟩ := len_k1 hl
              have e0 := (show v0 = .bool true from hf _ (List.mem_of_getElem? (i := 0) rfl) (by kernel_rfl))
              subst e0
              show Option.isSome _ = true
              kernel_rfl
            · intro vs gq stq hl hf
              obtain ⟨v0, rfl⟩ := len_k1 hl
              have e0 := (show v0 = .bool true from hf _ (List.mem_of_getElem? (i := 0) rfl) (by kernel_rfl))
              subst e0
              show Option.isSome _ = true
              kernel_rfl
            · intro vs gq stq hl hf
              obtain ⟨v0, rfl⟩ := len_k1 hl
              have e0 := (show v0 = .bool true from hf _ (List.mem_of_getElem? (i := 0) rfl) (by kernel_rfl))
              subst e0
              show Option.isSome _ = true
              kernel_rfl
            · intro vs gq stq hl hf
              obtain ⟨v0, rfl⟩ := len_k1 hl
              have e0 := (show v0 = .bool true from hf _ (List.mem_of_getElem? (i := 0) rfl) (by kernel_rfl))
              subst e0
              show Option.isSome _ = true
              kernel_rfl
            · intro vs gq stq hl hf
              obtain ⟨v0, rfl⟩ := len_k1 hl
              have e0 := (show v0 = .bool true from hf _ (List.mem_of_getElem? (i := 0) rfl) (by kernel_rfl))
              subst e0
              show Option.isSome _ = true
              kernel_rfl
            · intro vs gq stq hl hf
              obtain ⟨v0, rfl⟩ := len_k1 hl
              have e0 := (show v0 = .bool true from hf _ (List.mem_of_getElem? (i := 0) rfl) (by kernel_rfl))
              subst e0
              show Option.isSome _ = true
              kernel_rfl
          · intro j hj
            have hq : j = 0 := by have h : j < 1 := hj; omega
            rcases hq with rfl
            · intro vs gq stq hl hf
              obtain ⟨v0, rfl⟩ := len_k1 hl
              refine WP.still 1 (by kernel_rfl) ?_
              refine WP.done (by kernel_rfl) (Shown.ok (v := .bool (x14 != 0)) (by kernel_rfl) (Step.refl _ _) ?_)
              exact ⟨congrArg Value.bool h18, trivial⟩
          intro vs g38 st38 hl hf
          obtain ⟨v0, rfl⟩ := len_k1 hl
          have e0 := (show v0 = .bool true from hf _ (List.mem_of_getElem? (i := 0) rfl) (by kernel_rfl))
          subst e0
          replace hR2 := hR2.mono st38.toNo (fun x => x)
          replace tot := tot.trans st38.toNo.pure
          refine NX.post ?_
          exact ⟨true, ⟨by kernel_rfl, by kernel_rfl⟩, tot, hR2, hs⟩
        replace hs := of_if_f hs h18
        replace hs := Option.bind_eq_some_iff.1 hs
        obtain ⟨q11, hk19, hs⟩ := hs
        refine bool_split (b := (!q11)) (fun h19 => ?_) (fun h19 => ?_)
        · replace hs := of_if_t hs h19
          refine CP.drawL (by kernel_rfl) [2, 3, 4, 5, 8] N.baizelaw47_PurseThere_0 [⟨none, [], [], fun l g => Box g (t + 3) b2 32 [encA .u8 d3, [.int .i64 x2], encA .i64 d4, [.slice a3 n3 c3]] [8, 1, 2, 1]⟩, ⟨none, [], [], fun l g => RdS k_S_purse_Held g 56 a3 n3 c3 l3⟩, ⟨none, [], [], fun l g => Box g (t + 11) b6 32 [encA .u8 d13, [.int .i64 x13], encA .i64 d14, [.slice a11 n11 c11]] [8, 1, 2, 1]⟩, ⟨none, [0], [], fun l g => OwnS k_S_purse_Held g (t + 10) 56 a11 n11 c11 l11⟩, ⟨some 0, [], [0], fun l g => l.getD 0 undef = .bool false⟩, ⟨some 1, [], [1], fun l g => l.getD 0 undef = AG [encA .u8 d3, [.int .i64 x2], encA .i64 d4, [.slice a3 n3 c3]]⟩, ⟨some 2, [], [2], fun l g => l.getD 0 undef = AG [encA .u8 d13, [.int .i64 x13], encA .i64 d14, [.slice a11 n11 c11]]⟩, ⟨some 3, [], [3], fun l g => l.getD 0 undef = .bool q11⟩, ⟨some 3, [0], [], fun l g => OwnS k_S_purse_Held g (t + 10) 56 a11 n11 c11 l11⟩, ⟨some 4, [], [4], fun l g => l.getD 0 undef = .bool true⟩] [[], [], [], [0], []] [(t + 10)] [0, 1] [6, 7, 9, 10, 11, 12, 13, 14] (by kernel_rfl) (by simp <;> omega) (by simp) ⟨fun _ _ _ _ st h0 hl hj hB2 => (hB2.mono st (fun h => absurd (hl _ h) (by simp <;> omega))), fun _ _ _ _ st h0 hl hj hR3 => (RdS.mono (e := 56) hR3 st h0), fun _ _ _ _ st h0 hl hj hB10 => (hB10.mono st (fun h => absurd (hl _ h) (by simp <;> omega))), fun _ _ _ _ st h0 hl hj hR11 => (hR11.mono st h0 (hj 0 (by simp) _ rfl)), fun _ _ _ _ st h0 hl hj e0 => e0, fun _ _ _ _ st h0 hl hj e1 => e1, fun _ _ _ _ st h0 hl hj e2 => e2, fun _ _ _ _ st h0 hl hj e3 => e3, fun _ _ _ _ st h0 hl hj hR11 => (hR11.mono st h0 (hj 0 (by simp) _ rfl)), fun _ _ _ _ st h0 hl hj e4 => e4, trivial⟩ ⟨hB2, hR3, hB10, hR11, trivial, trivial, trivial, trivial, trivial, trivial, trivial⟩ (by kernel_rfl) (fun vs => by kernel_rfl) ?_ ?_ ?_
          · intro j hj
            have hq : j = 0 ∨ j = 1 ∨ j = 2 ∨ j = 3 ∨ j = 4 ∨ j = 5 ∨ j = 6 ∨ j = 7 := by have h : j < 8 := hj; omega
            rcases hq with rfl | rfl | rfl | rfl | rfl | rfl | rfl | rfl
            · intro vs gq stq hl hf
              obtain ⟨v0, v1, v2, v3, v4, rfl⟩ := len_k5 hl
              have e0 := (show v0 = .bool false from hf _ (List.mem_of_getElem? (i := 4) rfl) (by kernel_rfl))
              subst e0
              have e3 := (show v3 = .bool q11 from hf _ (List.mem_of_getElem? (i := 7) rfl) (by kernel_rfl))
              subst e3
              show Option.isSome _ = true
              kernel_rfl
            · intro vs gq stq hl hf
              obtain ⟨v0, v1, v2, v3, v4, rfl⟩ := len_k5 hl
              have e0 := (show v0 = .bool false from hf _ (List.mem_of_getElem? (i := 4) rfl) (by kernel_rfl))
              subst e0
              have e3 := (show v3 = .bool q11 from hf _ (List.mem_of_getElem? (i := 7) rfl) (by kernel_rfl))
              subst e3
              show Option.isSome _ = true
              kernel_rfl
            · intro vs gq stq hl hf
              obtain ⟨v0, v1, v2, v3, v4, rfl⟩ := len_k5 hl
              have e4 := (show v4 = .bool true from hf _ (List.mem_of_getElem? (i := 9) rfl) (by kernel_rfl))
              subst e4
              show Option.isSome _ = true
              kernel_rfl
            · intro vs gq stq hl hf
              obtain ⟨v0, v1, v2, v3, v4, rfl⟩ := len_k5 hl
              have e4 := (show v4 = .bool true from hf _ (List.mem_of_getElem? (i := 9) rfl) (by kernel_rfl))
              subst e4
              show Option.isSome _ = true
              kernel_rfl
            · intro vs gq stq hl hf
              obtain ⟨v0, v1, v2, v3, v4, rfl⟩ := len_k5 hl
              have e4 := (show v4 = .bool true from hf _ (List.mem_of_getElem? (i := 9) rfl) (by kernel_rfl))
              subst e4
              show Option.isSome _ = true
              kernel_rfl
            · intro vs gq stq hl hf
              obtain ⟨v0, v1, v2, v3, v4, rfl⟩ := len_k5 hl
              have e4 := (show v4 = .bool true from hf _ (List.mem_of_getElem? (i := 9) rfl) (by kernel_rfl))
              subst e4
              show Option.isSome _ = true
              kernel_rfl
            · intro vs gq stq hl hf
              obtain ⟨v0, v1, v2, v3, v4, rfl⟩ := len_k5 hl
              have e4 := (show v4 = .bool true from hf _ (List.mem_of_getElem? (i := 9) rfl) (by kernel_rfl))
              subst e4
              show Option.isSome _ = true
              kernel_rfl
            · intro vs gq stq hl hf
              obtain ⟨v0, v1, v2, v3, v4, rfl⟩ := len_k5 hl
              have e4 := (show v4 = .bool true from hf _ (List.mem_of_getElem? (i := 9) rfl) (by kernel_rfl))
              subst e4
              show Option.isSome _ = true
              kernel_rfl
          · intro j hj
            have hq : j = 0 ∨ j = 1 ∨ j = 2 ∨ j = 3 ∨ j = 4 := by have h : j < 5 := hj; omega
            rcases hq with rfl | rfl | rfl | rfl | rfl
            · intro vs gq stq hl hf
              obtain ⟨v0, v1, v2, v3, v4, rfl⟩ := len_k5 hl
              refine WP.still 1 (by kernel_rfl) ?_
              refine WP.done (by kernel_rfl) (Shown.ok (v := .bool (x14 != 0)) (by kernel_rfl) (Step.refl _ _) ?_)
              exact ⟨trivial, trivial, trivial, trivial, congrArg Value.bool h18, trivial, trivial, trivial, trivial, trivial, trivial⟩
            · intro vs gq stq hl hf
              obtain ⟨v0, v1, v2, v3, v4, rfl⟩ := len_k5 hl
              have hB2 := (show Box gq (t + 3) b2 32 [encA .u8 d3, [.int .i64 x2], encA .i64 d4, [.slice a3 n3 c3]] [8, 1, 2, 1] from hf _ (List.mem_of_getElem? (i := 0) rfl) (by kernel_rfl))
              have e0 := (show v0 = .bool false from hf _ (List.mem_of_getElem? (i := 4) rfl) (by kernel_rfl))
              subst e0
              refine WP.loadB (v := AG [encA .u8 d3, [.int .i64 x2], encA .i64 d4, [.slice a3 n3 c3]]) hB2 (by kernel_rfl) (by kernel_rfl) ?_
              refine WP.done (by kernel_rfl) (Shown.ok (v := AG [encA .u8 d3, [.int .i64 x2], encA .i64 d4, [.slice a3 n3 c3]]) (by kernel_rfl) (Step.refl _ _) ?_)
              exact ⟨trivial, trivial, trivial, trivial, trivial, rfl, trivial, trivial, trivial, trivial, trivial⟩
            · intro vs gq stq hl hf
              obtain ⟨v0, v1, v2, v3, v4, rfl⟩ := len_k5 hl
              have hB10 := (show Box gq (t + 11) b6 32 [encA .u8 d13, [.int .i64 x13], encA .i64 d14, [.slice a11 n11 c11]] [8, 1, 2, 1] from hf _ (List.mem_of_getElem? (i := 2) rfl) (by kernel_rfl))
              have e0 := (show v0 = .bool false from hf _ (List.mem_of_getElem? (i := 4) rfl) (by kernel_rfl))
              subst e0
              refine WP.loadB (v := AG [encA .u8 d13, [.int .i64 x13], encA .i64 d14, [.slice a11 n11 c11]]) hB10 (by kernel_rfl) (by kernel_rfl) ?_
              refine WP.done (by kernel_rfl) (Shown.ok (v := AG [encA .u8 d13, [.int .i64 x13], encA .i64 d14, [.slice a11 n11 c11]]) (by kernel_rfl) (Step.refl _ _) ?_)
              exact ⟨trivial, trivial, trivial, trivial, trivial, trivial, rfl, trivial, trivial, trivial, trivial⟩
            · intro vs gq stq hl hf
              obtain ⟨v0, v1, v2, v3, v4, rfl⟩ := len_k5 hl
              have hR3 := (show RdS k_S_purse_Held gq 56 a3 n3 c3 l3 from hf _ (List.mem_of_getElem? (i := 1) rfl) (by kernel_rfl))
              have hR11 := (show OwnS k_S_purse_Held gq (t + 10) 56 a11 n11 c11 l11 from hf _ (List.mem_of_getElem? (i := 3) rfl) (by kernel_rfl))
              have e0 := (show v0 = .bool false from hf _ (List.mem_of_getElem? (i := 4) rfl) (by kernel_rfl))
              subst e0
              have e1 := (show v1 = AG [encA .u8 d3, [.int .i64 x2], encA .i64 d4, [.slice a3 n3 c3]] from hf _ (List.mem_of_getElem? (i := 5) rfl) (by kernel_rfl))
              subst e1
              have e2 := (show v2 = AG [encA .u8 d13, [.int .i64 x13], encA .i64 d14, [.slice a11 n11 c11]] from hf _ (List.mem_of_getElem? (i := 6) rfl) (by kernel_rfl))
              subst e2
              have hS5 : 0 ∉ ([(t + 10)] : List Nat) := by simp <;> omega
              have stl5 := GW.lend_step gq [(t + 10)]
              have hRl5 := hR11.lendTo hS5 (by simp)
              refine WP.regw (g' := GW.lend gq [(t + 10)]) rfl ?_
              have hcal19 := P.purse_Same (GW.lend gq [(t + 10)]) d3 x2 d4 l3 d13 x13 d14 l11 a3 n3 c3 a11 n11 c11 (hR3.mono stl5 (WL.no (by simp <;> omega))) hRl5 q11 hk19
              refine WP.callC hcal19 (by kernel_rfl) ?_
              rintro _ g39 st39 rfl
              have st40 := (GW.back_step st39).lentS
              have hO5 := hR11.backTo hS5 (by simp) st39 (fun x => x)
              refine WP.regw (g' := GW.back gq g39 [(t + 10)]) rfl ?_
              generalize GW.back gq g39 [(t + 10)] = g40 at *
              refine WP.done (by kernel_rfl) (Shown.ok (v := .bool q11) (by kernel_rfl) st40 ?_)
              exact ⟨trivial, trivial, trivial, trivial, trivial, trivial, trivial, rfl, hO5, trivial, trivial⟩
            · intro vs gq stq hl hf
              obtain ⟨v0, v1, v2, v3, v4, rfl⟩ := len_k5 hl
              have e0 := (show v0 = .bool false from hf _ (List.mem_of_getElem? (i := 4) rfl) (by kernel_rfl))
              subst e0
              have e3 := (show v3 = .bool q11 from hf _ (List.mem_of_getElem? (i := 7) rfl) (by kernel_rfl))
              subst e3
              refine WP.still 1 (by kernel_rfl) ?_
              refine WP.done (by kernel_rfl) (Shown.ok (v := .bool (!q11)) (by kernel_rfl) (Step.refl _ _) ?_)
              exact ⟨trivial, trivial, trivial, trivial, trivial, trivial, trivial, trivial, trivial, congrArg Value.bool h19, trivial⟩
          intro vs g41 st41 hl hf
          obtain ⟨v0, v1, v2, v3, v4, rfl⟩ := len_k5 hl
          have e4 := (show v4 = .bool true from hf _ (List.mem_of_getElem? (i := 9) rfl) (by kernel_rfl))
          subst e4
          replace hR2 := hR2.mono st41 (WL.no1 (by omega))
          replace tot := tot.trans (st41.up1 (.inr (by omega)))
          refine NX.post ?_
          exact ⟨true, ⟨by kernel_rfl, by kernel_rfl⟩, tot, hR2, hs⟩
        replace hs := of_if_f hs h19
        replace hs := Option.bind_eq_some_iff.1 hs
        obtain ⟨d17, hk20, hs⟩ := hs
        replace hs := Option.bind_eq_some_iff.1 hs
        obtain ⟨d18, hk21, hs⟩ := hs
        refine CP.drawL (by kernel_rfl) [2, 3, 4, 5, 8, 9, 10, 11, 12, 13] N.baizelaw47_PurseThere_0 [⟨none, [], [], fun l g => Box g (t + 3) b2 32 [encA .u8 d3, [.int .i64 x2], encA .i64 d4, [.slice a3 n3 c3]] [8, 1, 2, 1]⟩, ⟨none, [], [], fun l g => RdS k_S_purse_Held g 56 a3 n3 c3 l3⟩, ⟨none, [], [], fun l g => Box g (t + 11) b6 32 [encA .u8 d13, [.int .i64 x13], encA .i64 d14, [.slice a11 n11 c11]] [8, 1, 2, 1]⟩, ⟨none, [0], [], fun l g => OwnS k_S_purse_Held g (t + 10) 56 a11 n11 c11 l11⟩, ⟨some 0, [], [0], fun l g => l.getD 0 undef = .bool false⟩, ⟨some 1, [], [1], fun l g => l.getD 0 undef = AG [encA .u8 d3, [.int .i64 x2], encA .i64 d4, [.slice a3 n3 c3]]⟩, ⟨some 2, [], [2], fun l g => l.getD 0 undef = AG [encA .u8 d13, [.int .i64 x13], encA .i64 d14, [.slice a11 n11 c11]]⟩, ⟨some 3, [], [3], fun l g => l.getD 0 undef = .bool q11⟩, ⟨some 3, [0], [], fun l g => OwnS k_S_purse_Held g (t + 10) 56 a11 n11 c11 l11⟩, ⟨some 4, [], [4], fun l g => l.getD 0 undef = .bool false⟩, ⟨some 5, [], [5], fun l g => l.getD 0 undef = AG [encA .u8 d13, [.int .i64 x13], encA .i64 d14, [.slice a11 n11 c11]]⟩, ⟨some 6, [], [6], fun l g => l.getD 0 undef = AG [encA .u8 d17]⟩, ⟨some 6, [0], [], fun l g => OwnS k_S_purse_Held g (t + 10) 56 a11 n11 c11 l11⟩, ⟨some 7, [], [7], fun l g => l.getD 0 undef = AG [encA .u8 d3, [.int .i64 x2], encA .i64 d4, [.slice a3 n3 c3]]⟩, ⟨some 8, [], [8], fun l g => l.getD 0 undef = AG [encA .u8 d18]⟩, ⟨some 9, [], [9], fun l g => l.getD 0 undef = .bool (!(d17.1 == d18.1))⟩] [[], [], [], [0], [], [], [0], [], [], []] [(t + 10)] [0, 1] [6, 7, 14] (by kernel_rfl) (by simp <;> omega) (by simp) ⟨fun _ _ _ _ st h0 hl hj hB2 => (hB2.mono st (fun h => absurd (hl _ h) (by simp <;> omega))), fun _ _ _ _ st h0 hl hj hR3 => (RdS.mono (e := 56) hR3 st h0), fun _ _ _ _ st h0 hl hj hB10 => (hB10.mono st (fun h => absurd (hl _ h) (by simp <;> omega))), fun _ _ _ _ st h0 hl hj hR11 => (hR11.mono st h0 (hj 0 (by simp) _ rfl)), fun _ _ _ _ st h0 hl hj e0 => e0, fun _ _ _ _ st h0 hl hj e1 => e1, fun _ _ _ _ st h0 hl hj e2 => e2, fun _ _ _ _ st h0 hl hj e3 => e3, fun _ _ _ _ st h0 hl hj hR11 => (hR11.mono st h0 (hj 0 (by simp) _ rfl)), fun _ _ _ _ st h0 hl hj e4 => e4, fun _ _ _ _ st h0 hl hj e5 => e5, fun _ _ _ _ st h0 hl hj e6 => e6, fun _ _ _ _ st h0 hl hj hR11 => (hR11.mono st h0 (hj 0 (by simp) _ rfl)), fun _ _ _ _ st h0 hl hj e7 => e7, fun _ _ _ _ st h0 hl hj e8 => e8, fun _ _ _ _ st h0 hl hj e9 => e9, trivial⟩ ⟨hB2, hR3, hB10, hR11, trivial, trivial, trivial, trivial, trivial, trivial, trivial, trivial, trivial, trivial, trivial, trivial, trivial⟩ (by kernel_rfl) (fun vs => by kernel_rfl) ?_ ?_ ?_
        · intro j hj
          have hq : j = 0 ∨ j = 1 ∨ j = 2 := by have h : j < 3 := hj; omega
          rcases hq with rfl | rfl | rfl
          · intro vs gq stq hl hf
            obtain ⟨v0, v1, v2, v3, v4, v5, v6, v7, v8, v9, rfl⟩ := len_k10 hl
            have e0 := (show v0 = .bool false from hf _ (List.mem_of_getElem? (i := 4) rfl) (by kernel_rfl))
            subst e0
            have e3 := (show v3 = .bool q11 from hf _ (List.mem_of_getElem? (i := 7) rfl) (by kernel_rfl))
            subst e3
            show Option.isSome _ = true
            kernel_rfl
          · intro vs gq stq hl hf
            obtain ⟨v0, v1, v2, v3, v4, v5, v6, v7, v8, v9, rfl⟩ := len_k10 hl
            have e0 := (show v0 = .bool false from hf _ (List.mem_of_getElem? (i := 4) rfl) (by kernel_rfl))
            subst e0
            have e3 := (show v3 = .bool q11 from hf _ (List.mem_of_getElem? (i := 7) rfl) (by kernel_rfl))
            subst e3
            show Option.isSome _ = true
            kernel_rfl
          · intro vs gq stq hl hf
            obtain ⟨v0, v1, v2, v3, v4, v5, v6, v7, v8, v9, rfl⟩ := len_k10 hl
            have e4 := (show v4 = .bool false from hf _ (List.mem_of_getElem? (i := 9) rfl) (by kernel_rfl))
            subst e4
            have e9 := (show v9 = .bool (!(d17.1 == d18.1)) from hf _ (List.mem_of_getElem? (i := 15) rfl) (by kernel_rfl))
            subst e9
            show Option.isSome _ = true
            kernel_rfl
        · intro j hj
          have hq : j = 0 ∨ j = 1 ∨ j = 2 ∨ j = 3 ∨ j = 4 ∨ j = 5 ∨ j = 6 ∨ j = 7 ∨ j = 8 ∨ j = 9 := by have h : j < 10 := hj; omega
          rcases hq with rfl | rfl | rfl | rfl | rfl | rfl | rfl | rfl | rfl | rfl
          · intro vs gq stq hl hf
            obtain ⟨v0, v1, v2, v3, v4, v5, v6, v7, v8, v9, rfl⟩ := len_k10 hl
            refine WP.still 1 (by kernel_rfl) ?_
            refine WP.done (by kernel_rfl) (Shown.ok (v := .bool (x14 != 0)) (by kernel_rfl) (Step.refl _ _) ?_)
            exact ⟨trivial, trivial, trivial, trivial, congrArg Value.bool h18, trivial, trivial, trivial, trivial, trivial, trivial, trivial, trivial, trivial, trivial, trivial, trivial⟩
          · intro vs gq stq hl hf
            obtain ⟨v0, v1, v2, v3, v4, v5, v6, v7, v8, v9, rfl⟩ := len_k10 hl
            have hB2 := (show Box gq (t + 3) b2 32 [encA .u8 d3, [.int .i64 x2], encA .i64 d4, [.slice a3 n3 c3]] [8, 1, 2, 1] from hf _ (List.mem_of_getElem? (i := 0) rfl) (by kernel_rfl))
            have e0 := (show v0 = .bool false from hf _ (List.mem_of_getElem? (i := 4) rfl) (by kernel_rfl))
            subst e0
            refine WP.loadB (v := AG [encA .u8 d3, [.int .i64 x2], encA .i64 d4, [.slice a3 n3 c3]]) hB2 (by kernel_rfl) (by kernel_rfl) ?_
            refine WP.done (by kernel_rfl) (Shown.ok (v := AG [encA .u8 d3, [.int .i64 x2], encA .i64 d4, [.slice a3 n3 c3]]) (by kernel_rfl) (Step.refl _ _) ?_)
            exact ⟨trivial, trivial, trivial, trivial, trivial, rfl, trivial, trivial, trivial, trivial, trivial, trivial, trivial, trivial, trivial, trivial, trivial⟩
          · intro vs gq stq hl hf
            obtain ⟨v0, v1, v2, v3, v4, v5, v6, v7, v8, v9, rfl⟩ := len_k10 hl
            have hB10 := (show Box gq (t + 11) b6 32 [encA .u8 d13, [.int .i64 x13], encA .i64 d14, [.slice a11 n11 c11]] [8, 1, 2, 1] from hf _ (List.mem_of_getElem? (i := 2) rfl) (by kernel_rfl))
            have e0 := (show v0 = .bool false from hf _ (List.mem_of_getElem? (i := 4) rfl) (by kernel_rfl))
            subst e0
            refine WP.loadB (v := AG [encA .u8 d13, [.int .i64 x13], encA .i64 d14, [.slice a11 n11 c11]]) hB10 (by kernel_rfl) (by kernel_rfl) ?_
            refine WP.done (by kernel_rfl) (Shown.ok (v := AG [encA .u8 d13, [.int .i64 x13], encA .i64 d14, [.slice a11 n11 c11]]) (by kernel_rfl) (Step.refl _ _) ?_)
            exact ⟨trivial, trivial, trivial, trivial, trivial, trivial, rfl, trivial, trivial, trivial, trivial, trivial, trivial, trivial, trivial, trivial, trivial⟩
          · intro vs gq stq hl hf
            obtain ⟨v0, v1, v2, v3, v4, v5, v6, v7, v8, v9, rfl⟩ := len_k10 hl
            have hR3 := (show RdS k_S_purse_Held gq 56 a3 n3 c3 l3 from hf _ (List.mem_of_getElem? (i := 1) rfl) (by kernel_rfl))
            have hR11 := (show OwnS k_S_purse_Held gq (t + 10) 56 a11 n11 c11 l11 from hf _ (List.mem_of_getElem? (i := 3) rfl) (by kernel_rfl))
            have e0 := (show v0 = .bool false from hf _ (List.mem_of_getElem? (i := 4) rfl) (by kernel_rfl))
            subst e0
            have e1 := (show v1 = AG [encA .u8 d3, [.int .i64 x2], encA .i64 d4, [.slice a3 n3 c3]] from hf _ (List.mem_of_getElem? (i := 5) rfl) (by kernel_rfl))
            subst e1
            have e2 := (show v2 = AG [encA .u8 d13, [.int .i64 x13], encA .i64 d14, [.slice a11 n11 c11]] from hf _ (List.mem_of_getElem? (i := 6) rfl) (by kernel_rfl))
            subst e2
            have hS5 : 0 ∉ ([(t + 10)] : List Nat) := by simp <;> omega
            have stl5 := GW.lend_step gq [(t + 10)]
            have hRl5 := hR11.lendTo hS5 (by simp)
            refine WP.regw (g' := GW.lend gq [(t + 10)]) rfl ?_
            have hcal19 := P.purse_Same (GW.lend gq [(t + 10)]) d3 x2 d4 l3 d13 x13 d14 l11 a3 n3 c3 a11 n11 c11 (hR3.mono stl5 (WL.no (by simp <;> omega))) hRl5 q11 hk19
            refine WP.callC hcal19 (by kernel_rfl) ?_
            rintro _ g39 st39 rfl
            have st40 := (GW.back_step st39).lentS
            have hO5 := hR11.backTo hS5 (by simp) st39 (fun x => x)
            refine WP.regw (g' := GW.back gq g39 [(t + 10)]) rfl ?_
            generalize GW.back gq g39 [(t + 10)] = g40 at *
            refine WP.done (by kernel_rfl) (Shown.ok (v := .bool q11) (by kernel_rfl) st40 ?_)
            exact ⟨trivial, trivial, trivial, trivial, trivial, trivial, trivial, rfl, hO5, trivial, trivial, trivial, trivial, trivial, trivial, trivial, trivial⟩
          · intro vs gq stq hl hf
            obtain ⟨v0, v1, v2, v3, v4, v5, v6, v7, v8, v9, rfl⟩ := len_k10 hl
            have e0 := (show v0 = .bool false from hf _ (List.mem_of_getElem? (i := 4) rfl) (by kernel_rfl))
            subst e0
            have e3 := (show v3 = .bool q11 from hf _ (List.mem_of_getElem? (i := 7) rfl) (by kernel_rfl))
            subst e3
            refine WP.still 1 (by kernel_rfl) ?_
            refine WP.done (by kernel_rfl) (Shown.ok (v := .bool (!q11)) (by kernel_rfl) (Step.refl _ _) ?_)
            exact ⟨trivial, trivial, trivial, trivial, trivial, trivial, trivial, trivial, trivial, congrArg Value.bool h19, trivial, trivial, trivial, trivial, trivial, trivial, trivial⟩
          · intro vs gq stq hl hf
            obtain ⟨v0, v1, v2, v3, v4, v5, v6, v7, v8, v9, rfl⟩ := len_k10 hl
            have hB10 := (show Box gq (t + 11) b6 32 [encA .u8 d13, [.int .i64 x13], encA .i64 d14, [.slice a11 n11 c11]] [8, 1, 2, 1] from hf _ (List.mem_of_getElem? (i := 2) rfl) (by kernel_rfl))
            have e4 := (show v4 = .bool false from hf _ (List.mem_of_getElem? (i := 9) rfl) (by kernel_rfl))
            subst e4
            refine WP.loadB (v := AG [encA .u8 d13, [.int .i64 x13], encA .i64 d14, [.slice a11 n11 c11]]) hB10 (by kernel_rfl) (by kernel_rfl) ?_
            refine WP.done (by kernel_rfl) (Shown.ok (v := AG [encA .u8 d13, [.int .i64 x13], encA .i64 d14, [.slice a11 n11 c11]]) (by kernel_rfl) (Step.refl _ _) ?_)
            exact ⟨trivial, trivial, trivial, trivial, trivial, trivial, trivial, trivial, trivial, trivial, rfl, trivial, trivial, trivial, trivial, trivial, trivial⟩
          · intro vs gq stq hl hf
            obtain ⟨v0, v1, v2, v3, v4, v5, v6, v7, v8, v9, rfl⟩ := len_k10 hl
            have hR11 := (show OwnS k_S_purse_Held gq (t + 10) 56 a11 n11 c11 l11 from hf _ (List.mem_of_getElem? (i := 8) rfl) (by kernel_rfl))
            have e4 := (show v4 = .bool false from hf _ (List.mem_of_getElem? (i := 9) rfl) (by kernel_rfl))
            subst e4
            have e5 := (show v5 = AG [encA .u8 d13, [.int .i64 x13], encA .i64 d14, [.slice a11 n11 c11]] from hf _ (List.mem_of_getElem? (i := 10) rfl) (by kernel_rfl))
            subst e5
            have hS6 : 0 ∉ ([(t + 10)] : List Nat) := by simp <;> omega
            have stl6 := GW.lend_step gq [(t + 10)]
            have hRl6 := hR11.lendTo hS6 (by simp)
            refine WP.regw (g' := GW.lend gq [(t + 10)]) rfl ?_
            have hcal20 := P.purse_Purse_Digest (GW.lend gq [(t + 10)]) d13 x13 d14 l11 a11 n11 c11 hRl6 d17 hk20
            refine WP.callC hcal20 (by kernel_rfl) ?_
            rintro _ g42 st42 rfl
            have st43 := (GW.back_step st42).lentS
            have hO6 := hR11.backTo hS6 (by simp) st42 (fun x => x)
            refine WP.regw (g' := GW.back gq g42 [(t + 10)]) rfl ?_
            generalize GW.back gq g42 [(t + 10)] = g43 at *
            refine WP.done (by kernel_rfl) (Shown.ok (v := AG [encA .u8 d17]) (by kernel_rfl) st43 ?_)
            exact ⟨trivial, trivial, trivial, trivial, trivial, trivial, trivial, trivial, trivial, trivial, trivial, rfl, hO6, trivial, trivial, trivial, trivial⟩
          · intro vs gq stq hl hf
            obtain ⟨v0, v1, v2, v3, v4, v5, v6, v7, v8, v9, rfl⟩ := len_k10 hl
            have hB2 := (show Box gq (t + 3) b2 32 [encA .u8 d3, [.int .i64 x2], encA .i64 d4, [.slice a3 n3 c3]] [8, 1, 2, 1] from hf _ (List.mem_of_getElem? (i := 0) rfl) (by kernel_rfl))
            have e4 := (show v4 = .bool false from hf _ (List.mem_of_getElem? (i := 9) rfl) (by kernel_rfl))
            subst e4
            refine WP.loadB (v := AG [encA .u8 d3, [.int .i64 x2], encA .i64 d4, [.slice a3 n3 c3]]) hB2 (by kernel_rfl) (by kernel_rfl) ?_
            refine WP.done (by kernel_rfl) (Shown.ok (v := AG [encA .u8 d3, [.int .i64 x2], encA .i64 d4, [.slice a3 n3 c3]]) (by kernel_rfl) (Step.refl _ _) ?_)
            exact ⟨trivial, trivial, trivial, trivial, trivial, trivial, trivial, trivial, trivial, trivial, trivial, trivial, trivial, rfl, trivial, trivial, trivial⟩
          · intro vs gq stq hl hf
            obtain ⟨v0, v1, v2, v3, v4, v5, v6, v7, v8, v9, rfl⟩ := len_k10 hl
            have hR3 := (show RdS k_S_purse_Held gq 56 a3 n3 c3 l3 from hf _ (List.mem_of_getElem? (i := 1) rfl) (by kernel_rfl))
            have e4 := (show v4 = .bool false from hf _ (List.mem_of_getElem? (i := 9) rfl) (by kernel_rfl))
            subst e4
            have e7 := (show v7 = AG [encA .u8 d3, [.int .i64 x2], encA .i64 d4, [.slice a3 n3 c3]] from hf _ (List.mem_of_getElem? (i := 13) rfl) (by kernel_rfl))
            subst e7
            have hcal21 := P.purse_Purse_Digest gq d3 x2 d4 l3 a3 n3 c3 hR3 d18 hk21
            refine WP.callC hcal21 (by kernel_rfl) ?_
            rintro _ g44 st44 rfl
            refine WP.done (by kernel_rfl) (Shown.ok (v := AG [encA .u8 d18]) (by kernel_rfl) st44.pure ?_)
            exact ⟨trivial, trivial, trivial, trivial, trivial, trivial, trivial, trivial, trivial, trivial, trivial, trivial, trivial, trivial, rfl, trivial, trivial⟩
          · intro vs gq stq hl hf
            obtain ⟨v0, v1, v2, v3, v4, v5, v6, v7, v8, v9, rfl⟩ := len_k10 hl
            have e4 := (show v4 = .bool false from hf _ (List.mem_of_getElem? (i := 9) rfl) (by kernel_rfl))
            subst e4
            have e6 := (show v6 = AG [encA .u8 d17] from hf _ (List.mem_of_getElem? (i := 11) rfl) (by kernel_rfl))
            subst e6
            have e8 := (show v8 = AG [encA .u8 d18] from hf _ (List.mem_of_getElem? (i := 14) rfl) (by kernel_rfl))
            subst e8
            refine WP.neV (by kernel_rfl) (by kernel_rfl) (EqV.arr (d := 9998) (t := 29) (e := 5) (m := 8) (k := .u8) (x := d17) (y := d18) (by kernel_rfl) (by kernel_rfl)) ?_
            refine WP.done (by kernel_rfl) (Shown.ok (v := .bool (!(d17.1 == d18.1))) (by kernel_rfl) (Step.refl _ _) ?_)
            exact ⟨trivial, trivial, trivial, trivial, trivial, trivial, trivial, trivial, trivial, trivial, trivial, trivial, trivial, trivial, trivial, rfl, trivial⟩
        intro vs g45 st45 hl hf
        obtain ⟨v0, v1, v2, v3, v4, v5, v6, v7, v8, v9, rfl⟩ := len_k10 hl
        have e4 := (show v4 = .bool false from hf _ (List.mem_of_getElem? (i := 9) rfl) (by kernel_rfl))
        subst e4
        have e9 := (show v9 = .bool (!(d17.1 == d18.1)) from hf _ (List.mem_of_getElem? (i := 15) rfl) (by kernel_rfl))
        subst e9
        replace hR2 := hR2.mono st45 (WL.no1 (by omega))
        replace tot := tot.trans (st45.up1 (.inr (by omega)))
        refine NX.post ?_
        exact ⟨(!(d17.1 == d18.1)), ⟨by kernel_rfl, by kernel_rfl⟩, tot, hR2, hs⟩
      clear tot hs hR2 hB2 hR3 hB10 hR11
      rintro tm g ⟨q10, hF, tot, hR2, hs⟩
      clear ds
      obtain ⟨ds, rfl⟩ := hF.open
      clear hF
      unfold F.baizelaw47_PurseThere.c5 at hs
      refine CP.cond (b := q10) (by kernel_rfl) (fun h17 => ?_) (fun h17 => ?_)
      · replace hs := of_if_t hs h17
        refine CP.seqR ?_
        refine WP.still 1 (by kernel_rfl) ?_
        refine WP.done (by kernel_rfl) ?_
        refine NX.then_n ?_
        refine CP.ret ?_
        refine NX.then_r ?_
        replace hs := Option.some.inj hs
        obtain rfl := hs
        exact NX.fin (v := .bool false) (Res.still (by kernel_rfl)) tot htL rfl
      replace hs := of_if_f hs h17
      refine CP.skip ?_
      refine NX.post ?_
      exact ⟨⟨by kernel_rfl, by kernel_rfl⟩, tot, hR2, hs⟩
    replace hs := of_if_f hs h14
    refine CP.skip ?_
    refine NX.post ?_
    exact ⟨⟨by kernel_rfl, by kernel_rfl⟩, tot, hR2, hs⟩
  clear tot hs hR2 hB2 hR3
  rintro tm g ⟨hF, tot, hR2, hs⟩
  clear ds
  obtain ⟨ds, rfl⟩ := hF.open
  clear hF
  unfold F.baizelaw47_PurseThere.c2 at hs
  refine CP.cut (fun tm g => Fr 73 [] tm ∧ Step (fun l => NoM l ∨ t ≤ l) g0 g ∧ (F.baizelaw47_PurseThere.c3) = some o1) ?_ ?_
  · refine CP.seqR ?_
    refine WP.still 1 (by kernel_rfl) ?_
    replace hs := Option.bind_eq_some_iff.1 hs
    obtain ⟨⟨d11, x9, d12, l8, x10⟩, hk12, hs⟩ := hs
    dsimp only at hs
    have hcal12 := P.purse_Decode g (t + 8) l2 a2 n2 c2 hR2 d11 x9 d12 l8 x10 hk12
    refine WP.callC hcal12 (by kernel_rfl) ?_
    rintro _ g23 st23 ⟨a8, n8, c8, rfl, hR8⟩
    replace hR2 := hR2.mono st23 (fun x => x)
    replace tot := tot.trans st23.pure
    refine WP.still 3 (by kernel_rfl) ?_
    refine WP.alloc (T := 32) (t + 9) [encA .u8 (zA 8), [.int .i64 0], encA .i64 (zA 2), [.slice none 0 0]] [8, 1, 2, 1] (by kernel_rfl) (by simp [len_encA]) ?_
    intro g24 b5 st24 hB8
    replace hR2 := hR2.mono st24 (fun x => x)
    replace hR8 := hR8.mono st24 (fun x => x) (fun x => x)
    replace tot := tot.trans st24.pure
    refine WP.storeB (ty := 32) (off := 0) (v := AG [encA .u8 d11, [.int .i64 x9], encA .i64 d12, [.slice a8 n8 c8]]) hB8 [encA .u8 d11, [.int .i64 x9], encA .i64 d12, [.slice a8 n8 c8]] [8, 1, 2, 1] (by kernel_rfl) (by kernel_rfl) (by simp [len_encA]) (by kernel_rfl) [encA .u8 d11, [.int .i64 x9], encA .i64 d12, [.slice a8 n8 c8]] (by kernel_rfl) (.arr (.one rfl (.arr (.one rfl .nil)))) ?_
    intro g25 st25 hB9
    replace hR2 := hR2.mono st25 (WL.no1 (by omega))
    replace hR8 := hR8.mono st25 (WL.no1 (by omega)) (WL.no1 (by omega))
    replace tot := tot.trans (st25.up1 (.inr (by omega)))
    clear hB8
    have hB8 := hB9
    clear hB9
    refine WP.still 1 (by kernel_rfl) ?_
    refine WP.done (by kernel_rfl) ?_
    refine NX.then_n ?_
    refine CP.seqR ?_
    refine WP.still 2 (by kernel_rfl) ?_
    refine WP.done (by kernel_rfl) ?_
    refine NX.then_n ?_
    refine CP.cond (b := (x10 == 0)) (by kernel_rfl) (fun h10 => ?_) (fun h10 => ?_)
    · replace hs := of_if_t hs h10
      refine CP.seqR ?_
      refine WP.loadB (v := AG [encA .u8 d11, [.int .i64 x9], encA .i64 d12, [.slice a8 n8 c8]]) hB8 (by kernel_rfl) (by kernel_rfl) ?_
      replace hs := Option.bind_eq_some_iff.1 hs
      obtain ⟨⟨l9, x11⟩, hk13, hs⟩ := hs
      dsimp only at hs
      obtain ⟨g27, hw3, st27, hnew⟩ := hR8.freeze (by omega)
      refine WP.regw hw3 ?_
      replace hR2 := hR2.mono st27 (WL.no1 (by omega))
      replace hB8 := hB8.mono st27 (WL.no1 (by omega))
      replace tot := tot.trans (st27.up1 (.inr (by omega)))
      clear hR8
      have hR8 := hnew
      clear hnew
      have hcal13 := P.purse_Purse_Encode g27 d11 x9 d12 l8 a8 n8 c8 hR8 l9 x11 hk13
      refine WP.callC hcal13 (by kernel_rfl) ?_
      rintro _ g26 st26 ⟨a9, n9, c9, rfl, hR9⟩
      replace hR2 := hR2.mono st26 (fun x => x)
      replace hB8 := hB8.mono st26 (fun x => x)
      replace hR8 := hR8.mono st26 (fun x => x)
      replace tot := tot.trans st26.pure
      refine WP.still 5 (by kernel_rfl) ?_
      refine WP.done (by kernel_rfl) ?_
      refine NX.then_n ?_
      refine CP.refr 73 [(1, .slice a2 n2 c2), (12, .slice a9 n9 c9), (13, .int .i64 x11)] (by kernel_rfl) (by kernel_rfl) ?_
      clear ds
      intro ds
      refine CP.cut (fun tm g => ∃ (q8 : Bool), Fr 73 [(71, .bool q8)] tm ∧ Step (fun l => NoM l ∨ t ≤ l) g0 g ∧ (F.baizelaw47_PurseThere.c4 q8) = some o1) ?_ ?_
      · refine CP.region ?_
        refine WP.still 3 (by kernel_rfl) ?_
        refine WP.guard 65 (b := (x11 != 0)) (by kernel_rfl) (fun h13 => ?_) (fun h13 => ?_)
        · replace hs := of_if_t hs h13
          refine WP.still 6 (by kernel_rfl) ?_
          refine WP.done (by kernel_rfl) ?_
          refine NX.post ?_
          exact ⟨true, ⟨by kernel_rfl, by kernel_rfl⟩, tot, hs⟩
        replace hs := of_if_f hs h13
        refine WP.still 1 (by kernel_rfl) ?_
        refine WP.toStr (a := a9) (cp := c9) hR9.src hR9.len (by kernel_rfl) ?_
        refine WP.still 1 (by kernel_rfl) ?_
        refine WP.toStr (a := a2) (cp := c2) hR2.src hR2.len (by kernel_rfl) ?_
        refine WP.still 2 (by kernel_rfl) ?_
        refine WP.done (by kernel_rfl) ?_
        refine NX.post ?_
        exact ⟨(!((bytesStr l9).toList == (bytesStr l2).toList)), ⟨by kernel_rfl, by kernel_rfl⟩, tot, hs⟩
      clear tot hs hR2 hR9
      rintro tm g ⟨q8, hF, tot, hs⟩
      clear ds
      obtain ⟨ds, rfl⟩ := hF.open
      clear hF
      unfold F.baizelaw47_PurseThere.c4 at hs
      refine CP.cond (b := q8) (by kernel_rfl) (fun h12 => ?_) (fun h12 => ?_)
      · replace hs := of_if_t hs h12
        refine CP.seqR ?_
        refine WP.still 1 (by kernel_rfl) ?_
        refine WP.done (by kernel_rfl) ?_
        refine NX.then_n ?_
        refine CP.ret ?_
        refine NX.then_r ?_
        replace hs := Option.some.inj hs
        obtain rfl := hs
        exact NX.fin (v := .bool false) (Res.still (by kernel_rfl)) tot htL rfl
      replace hs := of_if_f hs h12
      refine CP.skip ?_
      refine NX.post ?_
      exact ⟨⟨by kernel_rfl, by kernel_rfl⟩, tot, hs⟩
    replace hs := of_if_f hs h10
    refine CP.skip ?_
    refine NX.post ?_
    exact ⟨⟨by kernel_rfl, by kernel_rfl⟩, tot, hs⟩
  clear tot hs hR2
  rintro tm g ⟨hF, tot, hs⟩
  clear ds
  obtain ⟨ds, rfl⟩ := hF.open
  clear hF
  unfold F.baizelaw47_PurseThere.c3 at hs
  refine CP.seqR ?_
  replace hs := Option.bind_eq_some_iff.1 hs
  obtain ⟨q7, hk11, hs⟩ := hs
  have hcal11 := P.baizelaw47_told g q7 hk11
  refine WP.callC hcal11 (by kernel_rfl) ?_
  rintro _ g22 st22 rfl
  replace tot := tot.trans st22.pure
  refine WP.still 1 (by kernel_rfl) ?_
  refine WP.done (by kernel_rfl) ?_
  refine NX.then_n ?_
  refine CP.ret ?_
  replace hs := Option.some.inj hs
  obtain rfl := hs
  exact NX.fin (v := .bool q7) (Res.still (by kernel_rfl)) tot htL rfl
end Go.Proofs.Yticlfbpmfejdoaa
