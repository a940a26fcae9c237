/-
  Walks, written by program: each Go function computes the plain function of its name, in whatever world its arguments' facts hold.
-/
import Derived.Test.YtmdkjjdfbjgaoaaRows
import Derived.Test.YtmdkjjdfbjgaoaaLabO
namespace Go.Proofs.Ytmdkjjdfbjgaoaa
open Go.RowKit Go.Lab
attribute [local irreducible] WP CP NX wpList Code.wp Calls
set_option maxRecDepth 100000
set_option maxHeartbeats 4000000
set_option linter.unusedVariables false
def str_0 : ByteArray := ⟨#[0, 0]⟩
def str_1 : ByteArray := ⟨#[1, 0]⟩
def str_2 : ByteArray := ⟨#[]⟩
structure S_baizelaw07_Entry where
  f1 : Int
  f2 : Int
  deriving Inhabited
def k_S_baizelaw07_Entry : Kd S_baizelaw07_Entry := Kd.pull (Kd.pair (Kd.int .u8) (Kd.int .u8)) (fun x => (x.f1, x.f2))
theorem k_S_baizelaw07_Entry.opn {g : GW} {cs : List Value} {x : S_baizelaw07_Entry} (h : k_S_baizelaw07_Entry.R g cs x) : cs = [[.int .u8 x.f1], [.int .u8 x.f2]].flatten := by
  obtain ⟨q0, d0, rfl, h0, h1⟩ := h
  replace h0 : q0 = [.int .u8 x.f1] := h0
  subst h0
  replace h1 : d0 = [.int .u8 x.f2] := h1
  subst h1
  exact by simp
theorem k_S_baizelaw07_Entry.mk {g : GW} {s0 s1 : List Value} {f0 : Int} {f1 : Int} (h0 : ((Kd.int .u8)).R g s0 f0) (h1 : ((Kd.int .u8)).R g s1 f1) : k_S_baizelaw07_Entry.R g [s0, s1].flatten ⟨f0, f1⟩ := by
  refine ⟨_, _, rfl, h0, (by simpa using h1)⟩
structure S_notary_entry where
  f1 : (Arr Int 8)
  f2 : (Arr Int 8)
  deriving Inhabited
def k_S_notary_entry : Kd S_notary_entry := Kd.pull (Kd.pair (Kd.arrI 8 .u8) (Kd.arrI 8 .u8)) (fun x => (x.f1, x.f2))
theorem k_S_notary_entry.opn {g : GW} {cs : List Value} {x : S_notary_entry} (h : k_S_notary_entry.R g cs x) : cs = [encA .u8 x.f1, encA .u8 x.f2].flatten := by
  obtain ⟨q0, d0, rfl, h0, h1⟩ := h
  replace h0 : q0 = encA .u8 x.f1 := h0
  subst h0
  replace h1 : d0 = encA .u8 x.f2 := h1
  subst h1
  exact by simp
theorem k_S_notary_entry.mk {g : GW} {s0 s1 : List Value} {f0 : (Arr Int 8)} {f1 : (Arr Int 8)} (h0 : ((Kd.arrI 8 .u8)).R g s0 f0) (h1 : ((Kd.arrI 8 .u8)).R g s1 f1) : k_S_notary_entry.R g [s0, s1].flatten ⟨f0, f1⟩ := by
  refine ⟨_, _, rfl, h0, (by simpa using h1)⟩
structure S_baizeref07_Entry where
  f1 : Int
  f2 : Int
  deriving Inhabited
def k_S_baizeref07_Entry : Kd S_baizeref07_Entry := Kd.pull (Kd.pair (Kd.int .u64) (Kd.int .u64)) (fun x => (x.f1, x.f2))
theorem k_S_baizeref07_Entry.opn {g : GW} {cs : List Value} {x : S_baizeref07_Entry} (h : k_S_baizeref07_Entry.R g cs x) : cs = [[.int .u64 x.f1], [.int .u64 x.f2]].flatten := by
  obtain ⟨q0, d0, rfl, h0, h1⟩ := h
  replace h0 : q0 = [.int .u64 x.f1] := h0
  subst h0
  replace h1 : d0 = [.int .u64 x.f2] := h1
  subst h1
  exact by simp
theorem k_S_baizeref07_Entry.mk {g : GW} {s0 s1 : List Value} {f0 : Int} {f1 : Int} (h0 : ((Kd.int .u64)).R g s0 f0) (h1 : ((Kd.int .u64)).R g s1 f1) : k_S_baizeref07_Entry.R g [s0, s1].flatten ⟨f0, f1⟩ := by
  refine ⟨_, _, rfl, h0, (by simpa using h1)⟩
def kv_S_notary_entry (x : S_notary_entry) : Value := AG [encA .u8 x.f1, encA .u8 x.f2]
def eqk_S_notary_entry (x y : S_notary_entry) : Bool := ((x.f1.1 == y.f1.1) && (x.f2.1 == y.f2.1))
theorem keyOk_S_notary_entry : KeyOk Try.prog 86 kv_S_notary_entry eqk_S_notary_entry where
  eqv := fun x y => (EqV.struct (d := 9999) (t := 86) (xs := [encA .u8 x.f1, encA .u8 x.f2]) (ys := [encA .u8 y.f1, encA .u8 y.f2]) (by kernel_rfl) (by kernel_rfl) (EqFi.cons (ns := [8, 8]) (ms := [8, 8]) (t' := 32) (x := AG [encA .u8 x.f1]) (y := AG [encA .u8 y.f1]) (by simp [len_encA]) (by simp [len_encA]) (by kernel_rfl) (by kernel_rfl) (EqV.arr (d := 9997) (t := 32) (e := 5) (m := 8) (k := .u8) (x := x.f1) (y := y.f1) (by kernel_rfl) (by kernel_rfl)) (EqFi.one (ns := [8, 8]) (ms := [8, 8]) (t' := 32) (x := AG [encA .u8 x.f2]) (y := AG [encA .u8 y.f2]) (by simp [len_encA]) (by simp [len_encA]) (by kernel_rfl) (by kernel_rfl) (EqV.arr (d := 9997) (t := 32) (e := 5) (m := 8) (k := .u8) (x := x.f2) (y := y.f2) (by kernel_rfl) (by kernel_rfl)) (Nat.le_of_ble_eq_true rfl))))
  chk := fun w b x => by
    obtain ⟨a0_0, a0_1, a0_2, a0_3, a0_4, a0_5, a0_6, a0_7, h0⟩ := Arr.ex8 x.f1
    obtain ⟨a1_0, a1_1, a1_2, a1_3, a1_4, a1_5, a1_6, a1_7, h1⟩ := Arr.ex8 x.f2
    obtain ⟨x0, x1⟩ := x
    simp only [] at h0 h1
    subst h0; subst h1
    exact evalS_run (a := ()) (by kernel_rfl) w
  inj := fun x y h => by
    obtain ⟨x0, x1⟩ := x
    obtain ⟨y0, y1⟩ := y
    simp only [eqk_S_notary_entry, Bool.and_eq_true, beq_iff_eq] at h
    simp only [kv_S_notary_entry, encA, h]
  bits := fun x => sameBits_ints 9999 _ (by intro c hc; simp only [List.flatten_cons, List.flatten_nil, encA, List.mem_append, List.mem_map, List.not_mem_nil, or_false] at hc; rcases hc with ⟨_, _, rfl⟩ | ⟨_, _, rfl⟩ <;> exact ⟨_, _, rfl⟩)
  now := ⟨.struct (Try.prog.fieldsOf 86), by kernel_rfl, fun _ _ => rfl⟩
def wf_S_baizelaw07_Entry (x : S_baizelaw07_Entry) : Prop := (Lit.int .u8 x.f1).wf = true ∧ (Lit.int .u8 x.f2).wf = true
def F.notary_NewBook : Option ((List (S_notary_entry × Int))) := (some ([] : (List (S_notary_entry × Int))))
theorem P.notary_NewBook (g0 : GW) (r0 : Nat) (r1 : Nat) (o1 : (List (S_notary_entry × Int))) (hs : F.notary_NewBook = some o1) :
  Calls Try.prog 15 #[] g0.w (Ret NoM g0 fun v g => ∃ (b_1 : Nat) (b_2 : Nat), v = .pointer (some ⟨b_1, 0, none⟩) ∧ Box g r0 b_1 84 [[.slice none 0 0], [.map (some b_2)]] [1, 1] ∧ MapB g r1 b_2 kv_S_notary_entry (Value.int .i64) o1) := by
 refine calls_of (args := []) Try.func15 rfl (r0 + r1 + 0) ?_
 intro t ht htL
 refine ⟨_, rfl, ?_⟩
 refine CP.refr 4 [] (by kernel_rfl) (by kernel_rfl) ?_
 intro ds
 have tot : Step (fun l => NoM l ∨ t ≤ l) g0 g0 := Step.refl _ _
 unfold F.notary_NewBook at hs
 refine CP.seqR ?_
 refine WP.stl 1 ?_
 refine WP.dn ?_
 refine NX.then_n ?_
 refine CP.seqR ?_
 refine WP.mkMap (t + 1) kv_S_notary_entry (Value.int .i64) (by kernel_rfl) ?_
 intro g1 b1 st1 hB1
 replace tot := tot.trans st1.pure
 refine WP.stl 1 ?_
 refine WP.alloc (T := 84) (t + 2) [[.slice none 0 0], [.map (some b1)]] [1, 1] (by kernel_rfl) rfl ?_
 intro g2 b2 st2 hB2
 replace hB1 := hB1.mono st2 (fun x => x)
 replace tot := tot.trans st2.pure
 refine WP.stl 1 ?_
 refine WP.dn ?_
 refine NX.then_n ?_
 refine CP.ret ?_
 obtain ⟨g3, hw1, st3, hnew⟩ := hB2.relab r0
 refine NX.regw hw1 ?_
 replace hB1 := hB1.mono st3 (WL.no1 (by omega))
 replace tot := tot.trans (st3.up1 (.inr (by omega)))
 clear hB2
 have hB2 := hnew
 clear hnew
 obtain ⟨g4, hw2, st4, hnew⟩ := hB1.relab r1
 refine NX.regw hw2 ?_
 replace hB2 := hB2.mono st4 (WL.no1 (by omega))
 replace tot := tot.trans (st4.up1 (.inr (by omega)))
 clear hB1
 have hB1 := hnew
 clear hnew
 replace hs := Option.some.inj hs
 obtain rfl := hs
 exact NX.fin (v := .pointer (some ⟨b2, 0, none⟩)) (Res.still (by kernel_rfl)) tot htL ⟨b2, b1, rfl, hB2, hB1⟩
def F.baizelaw07_Digest.l1 (x1 : Int) : Nat → (Arr Int 8) → Int → Option ((Arr Int 8))
 | 0, _, _ => none
 | k + 1, d1, x2 => (if decide (x2 < 8) = true then (if (0 : Int) ≤ (IntKind.i64.wrap (8 * x2)) then (if (0 : Int) ≤ x2 ∧ x2 < (8 : Int) then (F.baizelaw07_Digest.l1 x1 k (aset d1 x2 (IntKind.u8.wrap (shV false .u64 x1 (IntKind.i64.wrap (8 * x2))))) (IntKind.i64.wrap (x2 + 1))) else none) else none) else (some d1))
def F.baizelaw07_Digest (x1 : Int) : Option ((Arr Int 8)) := (F.baizelaw07_Digest.l1 x1 fuel (zA 8) 0)
theorem P.baizelaw07_Digest (g0 : GW) (x1 : Int) (o1 : Arr Int 8) (hs : F.baizelaw07_Digest x1 = some o1) :
  Calls Try.prog 13 #[.int .u64 x1] g0.w (Ret NoM g0 fun v g => v = AG [encA .u8 o1]) := by
 refine calls_of (args := [.int .u64 x1]) Try.func13 rfl (0) ?_
 intro t ht htL
 refine ⟨_, rfl, ?_⟩
 refine CP.refr 17 [(0, .int .u64 x1)] (by kernel_rfl) (by kernel_rfl) ?_
 intro ds
 have tot : Step (fun l => NoM l ∨ t ≤ l) g0 g0 := Step.refl _ _
 unfold F.baizelaw07_Digest at hs
 refine CP.seqR ?_
 refine WP.alloc (T := 32) (t + 1) [encA .u8 (zA 8)] [8] (by kernel_rfl) (by simp [len_encA]) ?_
 intro g1 b1 st1 hB1
 replace tot := tot.trans st1.pure
 refine WP.dn ?_
 refine NX.then_n ?_
 refine CP.seqR ?_
 refine WP.alloc (T := 32) (t + 2) [encA .u8 (zA 8)] [8] (by kernel_rfl) (by simp [len_encA]) ?_
 intro g2 b2 st2 hB2
 replace hB1 := hB1.mono st2 (fun x => x)
 replace tot := tot.trans st2.pure
 refine WP.dn ?_
 refine NX.then_n ?_
 refine CP.seq ?_
 refine CP.seqR ?_
 refine WP.stl 1 ?_
 refine WP.dn ?_
 refine NX.then_n ?_
 refine CP.block ?_
 generalize fuel = k1 at hs
 refine CP.loop (fun k1 tm g => ∃ (d1 : Arr Int 8) (x2 : Int), Fr 17 [(0, .int .u64 x1), (2, .pointer (some ⟨b1, 0, none⟩)), (3, .pointer (some ⟨b2, 0, none⟩)), (4, .int .i64 x2)] tm ∧ Step (fun l => NoM l ∨ t ≤ l) g0 g ∧ Box g (t + 1) b1 32 [encA .u8 (zA 8)] [8] ∧ Box g (t + 2) b2 32 [encA .u8 d1] [8] ∧ F.baizelaw07_Digest.l1 x1 k1 d1 x2 = some o1) k1 ?_ ?_ ?_
 ·exact ⟨(zA 8), 0, ⟨by kernel_rfl, by kernel_rfl⟩, tot, hB1, hB2, hs⟩
 ·rintro tm g ⟨d1, x2, hF, tot, hB1, hB2, hs⟩
  exact absurd hs (by simp [F.baizelaw07_Digest.l1])
 clear tot hs hB1 hB2
 rintro k1 tm g ⟨d1, x2, hF, tot, hB1, hB2, hs⟩
 clear ds
 obtain ⟨ds, rfl⟩ := hF.open
 clear hF
 unfold F.baizelaw07_Digest.l1 at hs
 refine CP.seq ?_
 refine CP.seqR ?_
 refine WP.stl 2 ?_
 refine WP.dn ?_
 refine NX.then_n ?_
 refine CP.cond (b := decide (x2 < 8)) (by kernel_rfl) (fun h3 => ?_) (fun h3 => ?_)
 ·replace hs := of_if_t hs h3
  refine CP.skip ?_
  refine NX.then_n ?_
  refine CP.seq ?_
  refine CP.block ?_
  refine CP.region ?_
  refine WP.stl 4 ?_
  by_cases hc4 : (0 : Int) ≤ (IntKind.i64.wrap (8 * x2))
  case neg => rw [if_neg hc4] at hs; cases hs
  replace hs := of_if_p hs hc4
  refine WP.shift (left := false) (k := .u64) (yk := .i64) (x := x1) (y := (IntKind.i64.wrap (8 * x2))) (by kernel_rfl) hc4 ?_
  refine WP.stl 1 ?_
  by_cases hc5 : (0 : Int) ≤ x2 ∧ x2 < (8 : Int)
  case neg => rw [if_neg hc5] at hs; cases hs
  replace hs := of_if_p hs hc5
  refine WP.ixBox (t := 32) (e := 5) (m := 8) (size := 1) (b := b2) (off := 0) (k := .i64) (i := x2) (by kernel_rfl) (by kernel_rfl) hc5 ?_
  refine WP.storeE (ty := 5) (o := 0) (m := 8) (k := .u8) (d := d1) (i := x2) (x := (IntKind.u8.wrap (shV false .u64 x1 (IntKind.i64.wrap (8 * x2))))) hB2 (by kernel_rfl) hc5 (by kernel_rfl) (by kernel_rfl) [encA .u8 (aset d1 x2 (IntKind.u8.wrap (shV false .u64 x1 (IntKind.i64.wrap (8 * x2)))))] (by kernel_rfl) ?_
  intro g7 st7 hB7
  replace hB1 := hB1.mono st7 (WL.no1 (by omega))
  replace tot := tot.trans (st7.up1 (.inr (by omega)))
  clear hB2
  have hB2 := hB7
  clear hB7
  refine WP.dn ?_
  refine NX.block_n ?_
  refine NX.then_n ?_
  refine CP.region ?_
  refine WP.stl 3 ?_
  refine WP.dn ?_
  refine NX.post ?_
  exact ⟨(aset d1 x2 (IntKind.u8.wrap (shV false .u64 x1 (IntKind.i64.wrap (8 * x2))))), (IntKind.i64.wrap (x2 + 1)), ⟨by kernel_rfl, by kernel_rfl⟩, tot, hB1, hB2, hs⟩
 replace hs := of_if_f hs h3
 refine CP.exit ?_
 refine NX.then_e ?_
 refine NX.then_e ?_
 refine NX.block_s ?_
 refine NX.then_n ?_
 refine CP.seqR ?_
 refine WP.loadB (v := AG [encA .u8 d1]) hB2 (by kernel_rfl) (by kernel_rfl) ?_
 refine WP.storeB (ty := 32) (off := 0) (v := AG [encA .u8 d1]) hB1 [encA .u8 d1] [8] (by kernel_rfl) (by kernel_rfl) (by simp [len_encA]) (by kernel_rfl) [encA .u8 d1] (by kernel_rfl) (.arr .nil) ?_
 intro g8 st8 hB8
 replace hB2 := hB2.mono st8 (WL.no1 (by omega))
 replace tot := tot.trans (st8.up1 (.inr (by omega)))
 clear hB1
 have hB1 := hB8
 clear hB8
 refine WP.dn ?_
 refine NX.then_n ?_
 refine CP.ret ?_
 replace hs := Option.some.inj hs
 obtain rfl := hs
 exact NX.fin (v := AG [encA .u8 d1]) (Res.one rfl (RV.box (agg := true) (size := 8) (rs := [encA .u8 d1]) hB1 (by kernel_rfl) (by kernel_rfl) (by kernel_rfl) (by kernel_rfl))) tot htL rfl
def F.notary_Book_Signer (l1 : List S_notary_entry) (w1 : (List (S_notary_entry × Int))) (d1 : Arr Int 8) : Option ((Arr Int 8)) := (some d1)
theorem P.notary_Book_Signer (g0 : GW) (m0 : Nat) (m1 : Nat) (l1 : List S_notary_entry) (w1 : (List (S_notary_entry × Int))) (d1 : Arr Int 8) (a1 : Option Addr) (n1 : Nat) (c1 : Nat) (b1 : Nat) (b2 : Nat) (hR1 : RdS k_S_notary_entry g0 86 a1 n1 c1 l1) (hB1 : MapB g0 m1 b2 kv_S_notary_entry (Value.int .i64) w1) (hB2 : Box g0 m0 b1 84 [[.slice a1 n1 c1], [.map (some b2)]] [1, 1]) (hm1_0 : m1 ≠ m0) (hm0 : m0 ≠ 0) (hm1 : m1 ≠ 0) (o1 : Arr Int 8) (hs : F.notary_Book_Signer l1 w1 d1 = some o1) :
  Calls Try.prog 12 #[.pointer (some ⟨b1, 0, none⟩), AG [encA .u8 d1]] g0.w (Ret NoM g0 fun v g => v = .iface 79 (AG [[.pointer (some ⟨b1, 0, none⟩)], encA .u8 o1])) := by
 refine calls_of (args := [.pointer (some ⟨b1, 0, none⟩), AG [encA .u8 d1]]) Try.func12 rfl (m0 + m1 + 0) ?_
 intro t ht htL
 refine ⟨_, rfl, ?_⟩
 refine CP.refr 9 [(0, .pointer (some ⟨b1, 0, none⟩)), (1, AG [encA .u8 d1])] (by kernel_rfl) (by kernel_rfl) ?_
 intro ds
 have tot : Step (fun l => NoM l ∨ t ≤ l) g0 g0 := Step.refl _ _
 unfold F.notary_Book_Signer at hs
 refine CP.seqR ?_
 refine WP.alloc (T := 32) (t + 1) [encA .u8 d1] [8] (by kernel_rfl) (by simp [len_encA]) ?_
 intro g1 b3 st1 hB3
 replace hB2 := hB2.mono st1 (fun x => x)
 replace hR1 := hR1.mono st1 (fun x => x)
 replace hB1 := hB1.mono st1 (fun x => x)
 replace tot := tot.trans st1.pure
 refine WP.stl 1 ?_
 refine WP.dn ?_
 refine NX.then_n ?_
 refine CP.seqR ?_
 refine WP.stl 1 ?_
 refine WP.loadB (v := AG [encA .u8 d1]) hB3 (by kernel_rfl) (by kernel_rfl) ?_
 refine WP.buildS (places := #[(0, 1), (1, 8)]) (t := 79) [[.pointer none], encA .u8 (zA 8)] [1, 8] (by kernel_rfl) (by kernel_rfl) (by simp [len_encA]) (by kernel_rfl) ((.cons (i := 0) (off := 0) (v := .pointer (some ⟨b1, 0, none⟩)) (mid := [[.pointer (some ⟨b1, 0, none⟩)], encA .u8 (zA 8)]) [[.pointer (some ⟨b1, 0, none⟩)]] [1] (by kernel_rfl) (by kernel_rfl) rfl (by kernel_rfl) (.cons (i := 1) (off := 1) (v := AG [encA .u8 d1]) (mid := [[.pointer (some ⟨b1, 0, none⟩)], encA .u8 d1]) [encA .u8 d1] [8] (by kernel_rfl) (by kernel_rfl) (by simp [len_encA]) (by kernel_rfl) .nil))) ?_
 refine WP.stl 2 ?_
 refine WP.dn ?_
 refine NX.then_n ?_
 refine CP.ret ?_
 replace hs := Option.some.inj hs
 obtain rfl := hs
 exact NX.fin (v := .iface 79 (AG [[.pointer (some ⟨b1, 0, none⟩)], encA .u8 d1])) (Res.still (by kernel_rfl)) tot htL rfl
def N.notary_bookSigner_Sign_0 : List (List Nat) := [[], [0], [0, 1], [0, 1, 2], [], [0, 1, 2, 3, 4], [0, 1, 2, 3, 4, 5], [0, 1, 2, 3, 4, 5, 6], [0, 1, 2, 3, 4, 5, 6], [0, 1, 2, 3, 4, 5, 6, 7], [0, 1, 2, 3, 4, 5, 6, 7, 8, 9]]
def F.notary_bookSigner_Sign.c1 (l2 : List S_notary_entry) (w2 : (List (S_notary_entry × Int))) (x1 : Int) : Option ((List Int) × Int × (List (S_notary_entry × Int)) × (List S_notary_entry)) := (some ([(IntKind.u8.wrap x1), (IntKind.u8.wrap (shV false .i64 x1 8))], 0, w2, l2))
def N.notary_bookSigner_Sign_1 : List (List Nat) := [[], [], [1], [1, 2], [1, 2, 3], [], [5], [1, 2, 3, 4, 5, 6], [0, 1, 2, 3, 4, 5, 6, 7], [0, 1, 2, 3, 4, 5, 6, 7, 8], [0, 1, 2, 3, 4, 5, 6, 7, 8, 9]]
def F.notary_bookSigner_Sign (l1 : List S_notary_entry) (w1 : (List (S_notary_entry × Int))) (d1 : Arr Int 8) (d2 : Arr Int 8) : Option ((List Int) × Int × (List (S_notary_entry × Int)) × (List S_notary_entry)) := (if (!((mapGet eqk_S_notary_entry 0 w1 (⟨d1, d2⟩ : S_notary_entry)).2)) = true then (if ((l1.length : Int) == 65536) = true then (some ([], 17, w1, l1)) else (if l1.length + ([(⟨d1, d2⟩ : S_notary_entry)]).length ≤ 8796093022208 then (F.notary_bookSigner_Sign.c1 (l1 ++ [(⟨d1, d2⟩ : S_notary_entry)]) (mapSet eqk_S_notary_entry w1 (⟨d1, d2⟩ : S_notary_entry) (l1.length : Int)) (l1.length : Int)) else none)) else (F.notary_bookSigner_Sign.c1 l1 w1 ((mapGet eqk_S_notary_entry 0 w1 (⟨d1, d2⟩ : S_notary_entry)).1)))
theorem P.notary_bookSigner_Sign (g0 : GW) (m0 : Nat) (m1 : Nat) (m2 : Nat) (r0 : Nat) (l1 : List S_notary_entry) (w1 : (List (S_notary_entry × Int))) (d1 : Arr Int 8) (d2 : Arr Int 8) (a1 : Option Addr) (n1 : Nat) (c1 : Nat) (b1 : Nat) (b2 : Nat) (hR1 : OwnS k_S_notary_entry g0 m1 86 a1 n1 c1 l1) (hB1 : MapB g0 m2 b2 kv_S_notary_entry (Value.int .i64) w1) (hB2 : Box g0 m0 b1 84 [[.slice a1 n1 c1], [.map (some b2)]] [1, 1]) (hm1_0 : m1 ≠ m0) (hm2_0 : m2 ≠ m0) (hm2_1 : m2 ≠ m1) (hm0 : m0 ≠ 0) (hm1 : m1 ≠ 0) (hm2 : m2 ≠ 0) (o1 : List Int) (o2 : Int) (o3 : (List (S_notary_entry × Int))) (o4 : (List S_notary_entry)) (hs : F.notary_bookSigner_Sign l1 w1 d1 d2 = some (o1, o2, o3, o4)) :
  Calls Try.prog 52 #[AG [[.pointer (some ⟨b1, 0, none⟩)], encA .u8 d1], AG [encA .u8 d2]] g0.w (Ret (WL [m2, m0, m1]) g0 fun v g => ∃ (a_1 : Option Addr) (n_1 : Nat) (c_1 : Nat) (a_4 : Option Addr) (n_4 : Nat) (c_4 : Nat), v = .tuple #[.slice a_1 n_1 c_1, .int .i64 o2] ∧ OwnS (Kd.int .u8) g r0 5 a_1 n_1 c_1 o1 ∧ MapB g m2 b2 kv_S_notary_entry (Value.int .i64) o3 ∧ OwnS k_S_notary_entry g m1 86 a_4 n_4 c_4 o4 ∧ Box g m0 b1 84 [[.slice a_4 n_4 c_4], [.map (some b2)]] [1, 1]) := by
 refine calls_of (args := [AG [[.pointer (some ⟨b1, 0, none⟩)], encA .u8 d1], AG [encA .u8 d2]]) Try.func52 rfl (m0 + m1 + m2 + r0 + 0) ?_
 intro t ht htL
 refine ⟨_, rfl, ?_⟩
 refine CP.refr 62 [(0, AG [[.pointer (some ⟨b1, 0, none⟩)], encA .u8 d1]), (1, AG [encA .u8 d2])] (by kernel_rfl) (by kernel_rfl) ?_
 intro ds
 have tot : Step (fun l => (WL [m2, m0, m1]) l ∨ t ≤ l) g0 g0 := Step.refl _ _
 unfold F.notary_bookSigner_Sign at hs
 refine CP.seqR ?_
 refine WP.alloc (T := 79) (t + 1) [[.pointer (some ⟨b1, 0, none⟩)], encA .u8 d1] [1, 8] (by kernel_rfl) (by simp [len_encA]) ?_
 intro g1 b3 st1 hB3
 replace hB2 := hB2.mono st1 (fun x => x)
 replace hR1 := hR1.mono st1 (fun x => x) (fun x => x)
 replace hB1 := hB1.mono st1 (fun x => x)
 replace tot := tot.trans st1.pure
 refine WP.alloc (T := 32) (t + 2) [encA .u8 d2] [8] (by kernel_rfl) (by simp [len_encA]) ?_
 intro g2 b4 st2 hB4
 replace hB2 := hB2.mono st2 (fun x => x)
 replace hR1 := hR1.mono st2 (fun x => x) (fun x => x)
 replace hB1 := hB1.mono st2 (fun x => x)
 replace hB3 := hB3.mono st2 (fun x => x)
 replace tot := tot.trans st2.pure
 refine WP.stl 2 ?_
 refine WP.dn ?_
 refine NX.then_n ?_
 refine CP.seqR ?_
 refine WP.stl 1 ?_
 refine WP.loadB (v := .pointer (some ⟨b1, 0, none⟩)) hB3 (by kernel_rfl) (by kernel_rfl) ?_
 refine WP.stl 1 ?_
 refine WP.dn ?_
 refine NX.then_n ?_
 refine CP.seq ?_
 refine CP.seqR ?_
 refine WP.stl 2 ?_
 refine WP.dn ?_
 refine NX.then_n ?_
 refine CP.cond_f (by kernel_rfl) ?_
 refine CP.skip ?_
 refine NX.then_n ?_
 refine CP.seqR ?_
 refine WP.stl 1 ?_
 refine WP.loadB (v := AG [encA .u8 d1]) hB3 (by kernel_rfl) (by kernel_rfl) ?_
 refine WP.loadB (v := AG [encA .u8 d2]) hB4 (by kernel_rfl) (by kernel_rfl) ?_
 refine WP.buildS (places := #[(0, 8), (8, 8)]) (t := 86) [encA .u8 (zA 8), encA .u8 (zA 8)] [8, 8] (by kernel_rfl) (by kernel_rfl) (by simp [len_encA]) (by kernel_rfl) ((.cons (i := 0) (off := 0) (v := AG [encA .u8 d1]) (mid := [encA .u8 d1, encA .u8 (zA 8)]) [encA .u8 d1] [8] (by kernel_rfl) (by kernel_rfl) (by simp [len_encA]) (by kernel_rfl) (.cons (i := 1) (off := 8) (v := AG [encA .u8 d2]) (mid := [encA .u8 d1, encA .u8 d2]) [encA .u8 d2] [8] (by kernel_rfl) (by kernel_rfl) (by simp [len_encA]) (by kernel_rfl) .nil))) ?_
 refine WP.alloc (T := 86) (t + 3) [encA .u8 (zA 8), encA .u8 (zA 8)] [8, 8] (by kernel_rfl) (by simp [len_encA]) ?_
 intro g3 b5 st3 hB5
 replace hB1 := hB1.mono st3 (fun x => x)
 replace hB2 := hB2.mono st3 (fun x => x)
 replace hR1 := hR1.mono st3 (fun x => x) (fun x => x)
 replace hB3 := hB3.mono st3 (fun x => x)
 replace hB4 := hB4.mono st3 (fun x => x)
 replace tot := tot.trans st3.pure
 refine WP.storeB (ty := 86) (off := 0) (v := AG [encA .u8 d1, encA .u8 d2]) hB5 [encA .u8 d1, encA .u8 d2] [8, 8] (by kernel_rfl) (by kernel_rfl) (by simp [len_encA]) (by kernel_rfl) [encA .u8 d1, encA .u8 d2] (by kernel_rfl) (.arr (.arr .nil)) ?_
 intro g4 st4 hB6
 replace hB1 := hB1.mono st4 (WL.no1 (by omega))
 replace hB2 := hB2.mono st4 (WL.no1 (by omega))
 replace hR1 := hR1.mono st4 (WL.no1 (by omega)) (WL.no1 (by omega))
 replace hB3 := hB3.mono st4 (WL.no1 (by omega))
 replace hB4 := hB4.mono st4 (WL.no1 (by omega))
 replace tot := tot.trans (st4.up1 (.inr (by omega)))
 clear hB5
 have hB5 := hB6
 clear hB6
 refine WP.dn ?_
 refine NX.then_n ?_
 refine CP.refr 62 [(6, .pointer (some ⟨b1, 0, none⟩)), (7, .pointer (some ⟨b5, 0, none⟩))] (by kernel_rfl) (by kernel_rfl) ?_
 clear ds
 intro ds
 refine CP.seq ?_
 refine CP.drawL (by kernel_rfl) [3, 4, 5] N.notary_bookSigner_Sign_0 [⟨none, [], [], fun l g => MapB g m2 b2 kv_S_notary_entry (Value.int .i64) w1⟩, ⟨none, [], [], fun l g => Box g m0 b1 84 [[.slice a1 n1 c1], [.map (some b2)]] [1, 1]⟩, ⟨none, [], [], fun l g => Box g (t + 3) b5 86 [encA .u8 d1, encA .u8 d2] [8, 8]⟩, ⟨some 0, [], [0], fun l g => l.getD 0 undef = .map (some b2)⟩, ⟨some 1, [], [1], fun l g => l.getD 0 undef = AG [encA .u8 d1, encA .u8 d2]⟩, ⟨some 2, [], [2], fun l g => l.getD 0 undef = .tuple #[.int .i64 ((mapGet eqk_S_notary_entry 0 w1 (⟨d1, d2⟩ : S_notary_entry)).1), .bool ((mapGet eqk_S_notary_entry 0 w1 (⟨d1, d2⟩ : S_notary_entry)).2)]⟩] [[], [], []] [] [0, 1, 2] [6, 7, 8, 9, 10] (by kernel_rfl) (by simp) (by simp) ⟨fun _ _ _ _ st h0 hl hj hB1 => (hB1.mono st (fun h => absurd (hl _ h) (by simp))), fun _ _ _ _ st h0 hl hj hB2 => (hB2.mono st (fun h => absurd (hl _ h) (by simp))), fun _ _ _ _ st h0 hl hj hB5 => (hB5.mono st (fun h => absurd (hl _ h) (by simp))), fun _ _ _ _ st h0 hl hj e0 => e0, fun _ _ _ _ st h0 hl hj e1 => e1, fun _ _ _ _ st h0 hl hj e2 => e2, tv⟩ ⟨hB1, hB2, hB5, tv, tv, tv, tv⟩ (by kernel_rfl) (fun vs => by kernel_rfl) ?_ ?_ ?_
 ·intro j hj
  have hq : j = 0 ∨ j = 1 ∨ j = 2 ∨ j = 3 ∨ j = 4 := by have h : j < 5 := hj; omega
  rcases hq with rfl | rfl | rfl | rfl | rfl
  ·intro vs gq stq hl hf
   obtain ⟨v0, v1, v2, rfl⟩ := len_k3 hl
   have e2 := (show v2 = .tuple #[.int .i64 ((mapGet eqk_S_notary_entry 0 w1 (⟨d1, d2⟩ : S_notary_entry)).1), .bool ((mapGet eqk_S_notary_entry 0 w1 (⟨d1, d2⟩ : S_notary_entry)).2)] from hf _ (memI 5 rfl) (by kernel_rfl))
   subst e2
   show Option.isSome _ = true
   kernel_rfl
  ·intro vs gq stq hl hf
   obtain ⟨v0, v1, v2, rfl⟩ := len_k3 hl
   have e2 := (show v2 = .tuple #[.int .i64 ((mapGet eqk_S_notary_entry 0 w1 (⟨d1, d2⟩ : S_notary_entry)).1), .bool ((mapGet eqk_S_notary_entry 0 w1 (⟨d1, d2⟩ : S_notary_entry)).2)] from hf _ (memI 5 rfl) (by kernel_rfl))
   subst e2
   show Option.isSome _ = true
   kernel_rfl
  ·intro vs gq stq hl hf
   obtain ⟨v0, v1, v2, rfl⟩ := len_k3 hl
   have e2 := (show v2 = .tuple #[.int .i64 ((mapGet eqk_S_notary_entry 0 w1 (⟨d1, d2⟩ : S_notary_entry)).1), .bool ((mapGet eqk_S_notary_entry 0 w1 (⟨d1, d2⟩ : S_notary_entry)).2)] from hf _ (memI 5 rfl) (by kernel_rfl))
   subst e2
   show Option.isSome _ = true
   kernel_rfl
  ·intro vs gq stq hl hf
   obtain ⟨v0, v1, v2, rfl⟩ := len_k3 hl
   have e2 := (show v2 = .tuple #[.int .i64 ((mapGet eqk_S_notary_entry 0 w1 (⟨d1, d2⟩ : S_notary_entry)).1), .bool ((mapGet eqk_S_notary_entry 0 w1 (⟨d1, d2⟩ : S_notary_entry)).2)] from hf _ (memI 5 rfl) (by kernel_rfl))
   subst e2
   show Option.isSome _ = true
   kernel_rfl
  ·intro vs gq stq hl hf
   obtain ⟨v0, v1, v2, rfl⟩ := len_k3 hl
   have e2 := (show v2 = .tuple #[.int .i64 ((mapGet eqk_S_notary_entry 0 w1 (⟨d1, d2⟩ : S_notary_entry)).1), .bool ((mapGet eqk_S_notary_entry 0 w1 (⟨d1, d2⟩ : S_notary_entry)).2)] from hf _ (memI 5 rfl) (by kernel_rfl))
   subst e2
   show Option.isSome _ = true
   kernel_rfl
 ·intro j hj
  have hq : j = 0 ∨ j = 1 ∨ j = 2 := by have h : j < 3 := hj; omega
  rcases hq with rfl | rfl | rfl
  ·intro vs gq stq hl hf
   obtain ⟨v0, v1, v2, rfl⟩ := len_k3 hl
   have hB2 := (show Box gq m0 b1 84 [[.slice a1 n1 c1], [.map (some b2)]] [1, 1] from hf _ (memI 1 rfl) (by kernel_rfl))
   refine WP.loadB (v := .map (some b2)) hB2 (by kernel_rfl) (by kernel_rfl) ?_
   refine WP.dn (Shown.ok (v := .map (some b2)) (by kernel_rfl) (Step.refl _ _) ?_)
   exact ⟨tv, tv, tv, rfl, tv, tv, tv⟩
  ·intro vs gq stq hl hf
   obtain ⟨v0, v1, v2, rfl⟩ := len_k3 hl
   have hB5 := (show Box gq (t + 3) b5 86 [encA .u8 d1, encA .u8 d2] [8, 8] from hf _ (memI 2 rfl) (by kernel_rfl))
   refine WP.loadB (v := AG [encA .u8 d1, encA .u8 d2]) hB5 (by kernel_rfl) (by kernel_rfl) ?_
   refine WP.dn (Shown.ok (v := AG [encA .u8 d1, encA .u8 d2]) (by kernel_rfl) (Step.refl _ _) ?_)
   exact ⟨tv, tv, tv, tv, rfl, tv, tv⟩
  ·intro vs gq stq hl hf
   obtain ⟨v0, v1, v2, rfl⟩ := len_k3 hl
   have hB1 := (show MapB gq m2 b2 kv_S_notary_entry (Value.int .i64) w1 from hf _ (memI 0 rfl) (by kernel_rfl))
   have e0 := (show v0 = .map (some b2) from hf _ (memI 3 rfl) (by kernel_rfl))
   subst e0
   have e1 := (show v1 = AG [encA .u8 d1, encA .u8 d2] from hf _ (memI 4 rfl) (by kernel_rfl))
   subst e1
   refine WP.mapGet (et := 3) (z := 0) (k := (⟨d1, d2⟩ : S_notary_entry)) hB1 keyOk_S_notary_entry (by kernel_rfl) (by kernel_rfl) ?_
   refine WP.dn (Shown.ok (v := .tuple #[.int .i64 ((mapGet eqk_S_notary_entry 0 w1 (⟨d1, d2⟩ : S_notary_entry)).1), .bool ((mapGet eqk_S_notary_entry 0 w1 (⟨d1, d2⟩ : S_notary_entry)).2)]) (by kernel_rfl) (Step.refl _ _) ?_)
   exact ⟨tv, tv, tv, tv, tv, rfl, tv⟩
 intro vs g5 st5 hl hf
 obtain ⟨v0, v1, v2, rfl⟩ := len_k3 hl
 have e2 := (show v2 = .tuple #[.int .i64 ((mapGet eqk_S_notary_entry 0 w1 (⟨d1, d2⟩ : S_notary_entry)).1), .bool ((mapGet eqk_S_notary_entry 0 w1 (⟨d1, d2⟩ : S_notary_entry)).2)] from hf _ (memI 5 rfl) (by kernel_rfl))
 subst e2
 replace hB1 := hB1.mono st5.toNo (fun x => x)
 replace hB2 := hB2.mono st5.toNo (fun x => x)
 replace hR1 := hR1.mono st5.toNo (fun x => x) (fun x => x)
 replace hB5 := hB5.mono st5.toNo (fun x => x)
 replace tot := tot.trans st5.toNo.pure
 refine NX.then_n ?_
 refine CP.refr 62 [(6, .pointer (some ⟨b1, 0, none⟩)), (7, .pointer (some ⟨b5, 0, none⟩)), (8, .int .i64 ((mapGet eqk_S_notary_entry 0 w1 (⟨d1, d2⟩ : S_notary_entry)).1)), (9, .bool ((mapGet eqk_S_notary_entry 0 w1 (⟨d1, d2⟩ : S_notary_entry)).2))] (by kernel_rfl) (by kernel_rfl) ?_
 clear ds
 intro ds
 refine CP.cut (fun tm g => ∃ (l2 : List S_notary_entry) (a4 : Option Addr) (n2 : Nat) (c3 : Nat) (w2 : (List (S_notary_entry × Int))) (x1 : Int), Fr 62 [(8, .int .i64 x1)] tm ∧ Step (fun l => (WL [m2, m0, m1]) l ∨ t ≤ l) g0 g ∧ Box g m0 b1 84 [[.slice a4 n2 c3], [.map (some b2)]] [1, 1] ∧ OwnS k_S_notary_entry g m1 86 a4 n2 c3 l2 ∧ MapB g m2 b2 kv_S_notary_entry (Value.int .i64) w2 ∧ (F.notary_bookSigner_Sign.c1 l2 w2 x1) = some (o1, o2, o3, o4)) ?_ ?_
 ·refine CP.seqR ?_
  refine WP.stl 2 ?_
  refine WP.dn ?_
  refine NX.then_n ?_
  refine CP.cond (b := (!((mapGet eqk_S_notary_entry 0 w1 (⟨d1, d2⟩ : S_notary_entry)).2))) (by kernel_rfl) (fun h3 => ?_) (fun h3 => ?_)
  ·replace hs := of_if_t hs h3
   refine CP.seq ?_
   refine CP.seqR ?_
   refine WP.stl 3 ?_
   refine WP.loadB (v := .slice a1 n1 c1) hB2 (by kernel_rfl) (by kernel_rfl) ?_
   refine WP.len (a := a1) (cp := c1) hR1.len (by kernel_rfl) ?_
   refine WP.stl 1 ?_
   refine WP.dn ?_
   refine NX.then_n ?_
   refine CP.cond (b := ((l1.length : Int) == 65536)) (by kernel_rfl) (fun h4 => ?_) (fun h4 => ?_)
   ·replace hs := of_if_t hs h4
    refine CP.seqR ?_
    refine WP.stl 2 ?_
    refine WP.dn ?_
    refine NX.then_n ?_
    refine CP.ret ?_
    refine NX.then_r ?_
    refine NX.then_r ?_
    replace hs := Option.some.inj hs
    simp only [Prod.mk.injEq] at hs
    obtain ⟨rfl, rfl, rfl, rfl⟩ := hs
    exact NX.fin (v := .tuple #[.slice none 0 0, .int .i64 17]) (Res.still (by kernel_rfl)) tot htL ⟨none, 0, 0, a1, n1, c1, rfl, (OwnS.nil _ _ _ _), hB1, hR1, hB2⟩
   replace hs := of_if_f hs h4
   refine CP.skip ?_
   refine NX.then_n ?_
   refine CP.seqR ?_
   refine WP.stl 3 ?_
   refine WP.loadB (v := .slice a1 n1 c1) hB2 (by kernel_rfl) (by kernel_rfl) ?_
   refine WP.len (a := a1) (cp := c1) hR1.len (by kernel_rfl) ?_
   refine WP.stl 1 ?_
   refine WP.dn ?_
   refine NX.then_n ?_
   refine CP.refr 62 [(6, .pointer (some ⟨b1, 0, none⟩)), (7, .pointer (some ⟨b5, 0, none⟩)), (8, .int .i64 (l1.length : Int))] (by kernel_rfl) (by kernel_rfl) ?_
   clear ds
   intro ds
   refine CP.seq ?_
   by_cases hc2 : l1.length + ([(⟨d1, d2⟩ : S_notary_entry)]).length ≤ 8796093022208
   case neg => rw [if_neg hc2] at hs; cases hs
   replace hs := of_if_p hs hc2
   refine CP.drawL (by kernel_rfl) [4, 5, 6, 7, 10] N.notary_bookSigner_Sign_1 [⟨none, [1], [], fun l g => Box g m0 b1 84 [[.slice a1 n1 c1], [.map (some b2)]] [1, 1]⟩, ⟨none, [0], [], fun l g => OwnS k_S_notary_entry g m1 86 a1 n1 c1 l1⟩, ⟨none, [], [], fun l g => Box g (t + 3) b5 86 [encA .u8 d1, encA .u8 d2] [8, 8]⟩, ⟨some 0, [], [0], fun l g => l.getD 0 undef = .slice a1 n1 c1⟩, ⟨some 1, [], [1], fun l g => l.getD 0 undef = AG [encA .u8 d1, encA .u8 d2]⟩, ⟨some 2, [], [2], fun l g => ∃ (a6 : Option Addr), l.getD 0 undef = .slice a6 1 1 ∧ OwnS k_S_notary_entry g (t + 6) 86 a6 1 1 ([(⟨d1, d2⟩ : S_notary_entry)])⟩, ⟨some 3, [0], [3], fun l g => ∃ (a7 : Option Addr) (c4 : Nat), l.getD 0 undef = .slice a7 (n1 + 1) c4 ∧ OwnS k_S_notary_entry g m1 86 a7 (n1 + 1) c4 (l1 ++ [(⟨d1, d2⟩ : S_notary_entry)])⟩, ⟨some 4, [0, 1], [3], fun l g => ∃ (a7 : Option Addr) (c4 : Nat), l.getD 0 undef = .slice a7 (n1 + 1) c4 ∧ OwnS k_S_notary_entry g m1 86 a7 (n1 + 1) c4 (l1 ++ [(⟨d1, d2⟩ : S_notary_entry)]) ∧ Box g m0 b1 84 [[.slice a7 (n1 + 1) c4], [.map (some b2)]] [1, 1]⟩] [[], [], [], [0], [1]] [m1, m0] [0, 1, 2, 3, 8, 9] [] (by kernel_rfl) (by simp <;> omega) (by simp <;> omega) ⟨fun _ _ _ _ st h0 hl hj hB2 => (hB2.mono st (hj 1 (by simp) _ rfl)), fun _ _ _ _ st h0 hl hj hR1 => (hR1.mono st h0 (hj 0 (by simp) _ rfl)), fun _ _ _ _ st h0 hl hj hB5 => (hB5.mono st (fun h => absurd (hl _ h) (by simp <;> omega))), fun _ _ _ _ st h0 hl hj e0 => e0, fun _ _ _ _ st h0 hl hj e1 => e1, fun _ _ _ _ st h0 hl hj ⟨a6, e2, hR6⟩ => ⟨a6, e2, (hR6.mono st h0 (fun h => absurd (hl _ h) (by simp <;> omega)))⟩, fun _ _ _ _ st h0 hl hj ⟨a7, c4, e3, hR7⟩ => ⟨a7, c4, e3, (hR7.mono st h0 (hj 0 (by simp) _ rfl))⟩, fun _ _ _ _ st h0 hl hj ⟨a7, c4, e3, hR7, hB2⟩ => ⟨a7, c4, e3, (hR7.mono st h0 (hj 0 (by simp) _ rfl)), (hB2.mono st (hj 1 (by simp) _ rfl))⟩, tv⟩ ⟨hB2, hR1, hB5, tv, tv, tv, tv, tv, tv⟩ (by kernel_rfl) (fun vs => by kernel_rfl) ?_ ?_ ?_
   ·intro j hj; exact absurd hj (by simp)
   ·intro j hj
    have hq : j = 0 ∨ j = 1 ∨ j = 2 ∨ j = 3 ∨ j = 4 := by have h : j < 5 := hj; omega
    rcases hq with rfl | rfl | rfl | rfl | rfl
    ·intro vs gq stq hl hf
     obtain ⟨v0, v1, v2, v3, v4, rfl⟩ := len_k5 hl
     have hB2 := (show Box gq m0 b1 84 [[.slice a1 n1 c1], [.map (some b2)]] [1, 1] from hf _ (memI 0 rfl) (by kernel_rfl))
     refine WP.loadB (v := .slice a1 n1 c1) hB2 (by kernel_rfl) (by kernel_rfl) ?_
     refine WP.dn (Shown.ok (v := .slice a1 n1 c1) (by kernel_rfl) (Step.refl _ _) ?_)
     exact ⟨tv, tv, tv, rfl, tv, tv, tv, tv, tv⟩
    ·intro vs gq stq hl hf
     obtain ⟨v0, v1, v2, v3, v4, rfl⟩ := len_k5 hl
     have hB5 := (show Box gq (t + 3) b5 86 [encA .u8 d1, encA .u8 d2] [8, 8] from hf _ (memI 2 rfl) (by kernel_rfl))
     refine WP.loadB (v := AG [encA .u8 d1, encA .u8 d2]) hB5 (by kernel_rfl) (by kernel_rfl) ?_
     refine WP.dn (Shown.ok (v := AG [encA .u8 d1, encA .u8 d2]) (by kernel_rfl) (Step.refl _ _) ?_)
     exact ⟨tv, tv, tv, tv, rfl, tv, tv, tv, tv⟩
    ·intro vs gq stq hl hf
     obtain ⟨v0, v1, v2, v3, v4, rfl⟩ := len_k5 hl
     have e1 := (show v1 = AG [encA .u8 d1, encA .u8 d2] from hf _ (memI 4 rfl) (by kernel_rfl))
     subst e1
     refine WP.mkSl (kd := k_S_notary_entry) (t := 81) (e := 86) (bytes := 16) (t + 6) [AG [encA .u8 d1, encA .u8 d2]] [(⟨d1, d2⟩ : S_notary_entry)] (by kernel_rfl) (by kernel_rfl) (Nat.le_of_ble_eq_true rfl) (Nat.le_of_ble_eq_true rfl) (all_cons (Kd.len k_S_notary_entry (g := gq) (x := (⟨d1, d2⟩ : S_notary_entry)) (k_S_notary_entry.mk rfl rfl)) all_nil) (⟨_, _, rfl, (k_S_notary_entry.mk rfl rfl), rfl⟩) rfl ?_
     intro g12 a6 st12 hR6
     refine WP.dn (Shown.o (v := .slice a6 1 1) st12.pure ?_)
     exact ⟨tv, tv, tv, tv, tv, ⟨a6, rfl, hR6⟩, tv, tv, tv⟩
    ·intro vs gq stq hl hf
     obtain ⟨v0, v1, v2, v3, v4, rfl⟩ := len_k5 hl
     have hR1 := (show OwnS k_S_notary_entry gq m1 86 a1 n1 c1 l1 from hf _ (memI 1 rfl) (by kernel_rfl))
     have e0 := (show v0 = .slice a1 n1 c1 from hf _ (memI 3 rfl) (by kernel_rfl))
     subst e0
     obtain ⟨a6, e2, hR6⟩ := (show ∃ (a6 : Option Addr), v2 = .slice a6 1 1 ∧ OwnS k_S_notary_entry gq (t + 6) 86 a6 1 1 ([(⟨d1, d2⟩ : S_notary_entry)]) from hf _ (memI 5 rfl) (by kernel_rfl))
     subst e2
     refine WP.append (kd := k_S_notary_entry) (t := 81) (e := 86) (bytes := 16) (a2 := a6) (c2 := 1) hR1 hR6.src hR6.len (by kernel_rfl) (by kernel_rfl) (by omega) (by simp only [maxLen]; omega) (by omega) ?_
     intro g13 a7 c4 st13 hR7
     refine WP.dn (Shown.o (v := .slice a7 (n1 + 1) c4) st13 ?_)
     exact ⟨tv, tv, tv, tv, tv, tv, ⟨a7, c4, rfl, hR7⟩, tv, tv⟩
    ·intro vs gq stq hl hf
     obtain ⟨v0, v1, v2, v3, v4, rfl⟩ := len_k5 hl
     have hB2 := (show Box gq m0 b1 84 [[.slice a1 n1 c1], [.map (some b2)]] [1, 1] from hf _ (memI 0 rfl) (by kernel_rfl))
     obtain ⟨a7, c4, e3, hR7⟩ := (show ∃ (a7 : Option Addr) (c4 : Nat), v3 = .slice a7 (n1 + 1) c4 ∧ OwnS k_S_notary_entry gq m1 86 a7 (n1 + 1) c4 (l1 ++ [(⟨d1, d2⟩ : S_notary_entry)]) from hf _ (memI 6 rfl) (by kernel_rfl))
     subst e3
     refine WP.storeB (ty := 81) (off := 0) (v := .slice a7 (n1 + 1) c4) hB2 [[.slice a7 (n1 + 1) c4]] [1] (by kernel_rfl) (by kernel_rfl) rfl (by kernel_rfl) [[.slice a7 (n1 + 1) c4], [.map (some b2)]] (by kernel_rfl) (.one rfl .nil) ?_
     intro g14 st14 hB9
     refine WP.dn (Shown.o (v := undef) st14 ?_)
     exact ⟨tv, tv, tv, tv, tv, tv, tv, ⟨a7, c4, rfl, (hR7.mono st14 (WL.no (by simp <;> omega)) (WL.no (by simp <;> omega))), hB9⟩, tv⟩
   intro vs g15 st15 hl hf
   obtain ⟨v0, v1, v2, v3, v4, rfl⟩ := len_k5 hl
   obtain ⟨a7, c4, e3, hR7, hB2⟩ := (show ∃ (a7 : Option Addr) (c4 : Nat), v3 = .slice a7 (n1 + 1) c4 ∧ OwnS k_S_notary_entry g15 m1 86 a7 (n1 + 1) c4 (l1 ++ [(⟨d1, d2⟩ : S_notary_entry)]) ∧ Box g15 m0 b1 84 [[.slice a7 (n1 + 1) c4], [.map (some b2)]] [1, 1] from hf _ (memI 7 rfl) (by kernel_rfl))
   subst e3
   replace hB1 := hB1.mono st15 (WL.no2 (by omega) (by omega))
   replace hB5 := hB5.mono st15 (WL.no2 (by omega) (by omega))
   replace tot := tot.trans (st15.up2 (.inl (by simp [WL])) (.inl (by simp [WL])))
   refine NX.then_n ?_
   refine CP.refr 62 [(6, .pointer (some ⟨b1, 0, none⟩)), (7, .pointer (some ⟨b5, 0, none⟩)), (8, .int .i64 (l1.length : Int))] (by kernel_rfl) (by kernel_rfl) ?_
   clear ds
   intro ds
   refine CP.drawL (by kernel_rfl) [3, 4, 6] [[], [0], [0, 1], [0, 1, 2], [], [], [0, 1, 2, 3, 4, 5]] [⟨none, [0], [], fun l g => MapB g m2 b2 kv_S_notary_entry (Value.int .i64) w1⟩, ⟨none, [], [], fun l g => Box g m0 b1 84 [[.slice a7 (n1 + 1) c4], [.map (some b2)]] [1, 1]⟩, ⟨none, [], [], fun l g => Box g (t + 3) b5 86 [encA .u8 d1, encA .u8 d2] [8, 8]⟩, ⟨some 0, [], [0], fun l g => l.getD 0 undef = .map (some b2)⟩, ⟨some 1, [], [1], fun l g => l.getD 0 undef = AG [encA .u8 d1, encA .u8 d2]⟩, ⟨some 2, [0], [], fun l g => MapB g m2 b2 kv_S_notary_entry (Value.int .i64) (mapSet eqk_S_notary_entry w1 (⟨d1, d2⟩ : S_notary_entry) (l1.length : Int))⟩] [[], [], [0]] [m2] [0, 1, 2, 5] [] (by kernel_rfl) (by simp <;> omega) (by simp) ⟨fun _ _ _ _ st h0 hl hj hB1 => (hB1.mono st (hj 0 (by simp) _ rfl)), fun _ _ _ _ st h0 hl hj hB2 => (hB2.mono st (fun h => absurd (hl _ h) (by simp <;> omega))), fun _ _ _ _ st h0 hl hj hB5 => (hB5.mono st (fun h => absurd (hl _ h) (by simp <;> omega))), fun _ _ _ _ st h0 hl hj e0 => e0, fun _ _ _ _ st h0 hl hj e1 => e1, fun _ _ _ _ st h0 hl hj hB1 => (hB1.mono st (hj 0 (by simp) _ rfl)), tv⟩ ⟨hB1, hB2, hB5, tv, tv, tv, tv⟩ (by kernel_rfl) (fun vs => by kernel_rfl) ?_ ?_ ?_
   ·intro j hj; exact absurd hj (by simp)
   ·intro j hj
    have hq : j = 0 ∨ j = 1 ∨ j = 2 := by have h : j < 3 := hj; omega
    rcases hq with rfl | rfl | rfl
    ·intro vs gq stq hl hf
     obtain ⟨v0, v1, v2, rfl⟩ := len_k3 hl
     have hB2 := (show Box gq m0 b1 84 [[.slice a7 (n1 + 1) c4], [.map (some b2)]] [1, 1] from hf _ (memI 1 rfl) (by kernel_rfl))
     refine WP.loadB (v := .map (some b2)) hB2 (by kernel_rfl) (by kernel_rfl) ?_
     refine WP.dn (Shown.ok (v := .map (some b2)) (by kernel_rfl) (Step.refl _ _) ?_)
     exact ⟨tv, tv, tv, rfl, tv, tv, tv⟩
    ·intro vs gq stq hl hf
     obtain ⟨v0, v1, v2, rfl⟩ := len_k3 hl
     have hB5 := (show Box gq (t + 3) b5 86 [encA .u8 d1, encA .u8 d2] [8, 8] from hf _ (memI 2 rfl) (by kernel_rfl))
     refine WP.loadB (v := AG [encA .u8 d1, encA .u8 d2]) hB5 (by kernel_rfl) (by kernel_rfl) ?_
     refine WP.dn (Shown.ok (v := AG [encA .u8 d1, encA .u8 d2]) (by kernel_rfl) (Step.refl _ _) ?_)
     exact ⟨tv, tv, tv, tv, rfl, tv, tv⟩
    ·intro vs gq stq hl hf
     obtain ⟨v0, v1, v2, rfl⟩ := len_k3 hl
     have hB1 := (show MapB gq m2 b2 kv_S_notary_entry (Value.int .i64) w1 from hf _ (memI 0 rfl) (by kernel_rfl))
     have e0 := (show v0 = .map (some b2) from hf _ (memI 3 rfl) (by kernel_rfl))
     subst e0
     have e1 := (show v1 = AG [encA .u8 d1, encA .u8 d2] from hf _ (memI 4 rfl) (by kernel_rfl))
     subst e1
     refine WP.mapSet (k := (⟨d1, d2⟩ : S_notary_entry)) (v := (l1.length : Int)) hB1 keyOk_S_notary_entry (by kernel_rfl) ?_
     intro g16 st16 hB10
     refine WP.dn (Shown.o (v := undef) st16 ?_)
     exact ⟨tv, tv, tv, tv, tv, hB10, tv⟩
   intro vs g17 st17 hl hf
   obtain ⟨v0, v1, v2, rfl⟩ := len_k3 hl
   have hB1 := (show MapB g17 m2 b2 kv_S_notary_entry (Value.int .i64) (mapSet eqk_S_notary_entry w1 (⟨d1, d2⟩ : S_notary_entry) (l1.length : Int)) from hf _ (memI 5 rfl) (by kernel_rfl))
   replace hB2 := hB2.mono st17 (WL.no1 (by omega))
   replace hR7 := hR7.mono st17 (WL.no1 (by omega)) (WL.no1 (by omega))
   replace tot := tot.trans (st17.up1 (.inl (by simp [WL])))
   refine NX.post ?_
   exact ⟨(l1 ++ [(⟨d1, d2⟩ : S_notary_entry)]), a7, (n1 + 1), c4, (mapSet eqk_S_notary_entry w1 (⟨d1, d2⟩ : S_notary_entry) (l1.length : Int)), (l1.length : Int), ⟨by kernel_rfl, by kernel_rfl⟩, tot, hB2, hR7, hB1, hs⟩
  replace hs := of_if_f hs h3
  refine CP.skip ?_
  refine NX.post ?_
  exact ⟨l1, a1, n1, c1, w1, (mapGet eqk_S_notary_entry 0 w1 (⟨d1, d2⟩ : S_notary_entry)).1, ⟨by kernel_rfl, by kernel_rfl⟩, tot, hB2, hR1, hB1, hs⟩
 clear tot hs hB1 hB2 hR1 hB5
 rintro tm g ⟨l2, a4, n2, c3, w2, x1, hF, tot, hB2, hR4, hB1, hs⟩
 clear ds
 obtain ⟨ds, rfl⟩ := hF.open
 clear hF
 unfold F.notary_bookSigner_Sign.c1 at hs
 refine CP.seqR ?_
 refine WP.stl 5 ?_
 refine WP.mkSl (kd := (Kd.int .u8)) (t := 37) (e := 5) (bytes := 1) (t + 5) [.int .u8 (IntKind.u8.wrap x1), .int .u8 (IntKind.u8.wrap (shV false .i64 x1 8))] [(IntKind.u8.wrap x1), (IntKind.u8.wrap (shV false .i64 x1 8))] (by kernel_rfl) (by kernel_rfl) (Nat.le_of_ble_eq_true rfl) (Nat.le_of_ble_eq_true rfl) (all_cons rfl (all_cons rfl all_nil)) (⟨_, _, rfl, (by exact rfl), ⟨_, _, rfl, (by exact rfl), rfl⟩⟩) rfl ?_
 intro g10 a5 st10 hR5
 replace hB2 := hB2.mono st10 (fun x => x)
 replace hR4 := hR4.mono st10 (fun x => x) (fun x => x)
 replace hB1 := hB1.mono st10 (fun x => x)
 replace tot := tot.trans st10.pure
 refine WP.stl 2 ?_
 refine WP.dn ?_
 refine NX.then_n ?_
 refine CP.ret ?_
 obtain ⟨g11, hw1, st11, hnew⟩ := hR5.relab (by omega) r0
 refine NX.regw hw1 ?_
 replace hB2 := hB2.mono st11 (WL.no1 (by omega))
 replace hR4 := hR4.mono st11 (WL.no1 (by omega)) (WL.no1 (by omega))
 replace hB1 := hB1.mono st11 (WL.no1 (by omega))
 replace tot := tot.trans (st11.up1 (.inr (by omega)))
 clear hR5
 have hR5 := hnew
 clear hnew
 replace hs := Option.some.inj hs
 simp only [Prod.mk.injEq] at hs
 obtain ⟨rfl, rfl, rfl, rfl⟩ := hs
 exact NX.fin (v := .tuple #[.slice a5 2 2, .int .i64 0]) (Res.still (by kernel_rfl)) tot htL ⟨a5, 2, 2, a4, n2, c3, rfl, hR5, hB1, hR4, hB2⟩
def F.notary_bookSigner_Key (l1 : List S_notary_entry) (w1 : (List (S_notary_entry × Int))) (d1 : Arr Int 8) : Option ((Arr Int 8)) := (some d1)
theorem P.notary_bookSigner_Key (g0 : GW) (m0 : Nat) (m1 : Nat) (l1 : List S_notary_entry) (w1 : (List (S_notary_entry × Int))) (d1 : Arr Int 8) (a1 : Option Addr) (n1 : Nat) (c1 : Nat) (b1 : Nat) (b2 : Nat) (hR1 : RdS k_S_notary_entry g0 86 a1 n1 c1 l1) (hB1 : MapB g0 m1 b2 kv_S_notary_entry (Value.int .i64) w1) (hB2 : Box g0 m0 b1 84 [[.slice a1 n1 c1], [.map (some b2)]] [1, 1]) (hm1_0 : m1 ≠ m0) (hm0 : m0 ≠ 0) (hm1 : m1 ≠ 0) (o1 : Arr Int 8) (hs : F.notary_bookSigner_Key l1 w1 d1 = some o1) :
  Calls Try.prog 51 #[AG [[.pointer (some ⟨b1, 0, none⟩)], encA .u8 d1]] g0.w (Ret NoM g0 fun v g => v = AG [encA .u8 o1]) := by
 refine calls_of (args := [AG [[.pointer (some ⟨b1, 0, none⟩)], encA .u8 d1]]) Try.func51 rfl (m0 + m1 + 0) ?_
 intro t ht htL
 refine ⟨_, rfl, ?_⟩
 refine CP.refr 5 [(0, AG [[.pointer (some ⟨b1, 0, none⟩)], encA .u8 d1])] (by kernel_rfl) (by kernel_rfl) ?_
 intro ds
 have tot : Step (fun l => NoM l ∨ t ≤ l) g0 g0 := Step.refl _ _
 unfold F.notary_bookSigner_Key at hs
 refine CP.seqR ?_
 refine WP.alloc (T := 79) (t + 1) [[.pointer (some ⟨b1, 0, none⟩)], encA .u8 d1] [1, 8] (by kernel_rfl) (by simp [len_encA]) ?_
 intro g1 b3 st1 hB3
 replace hB2 := hB2.mono st1 (fun x => x)
 replace hR1 := hR1.mono st1 (fun x => x)
 replace hB1 := hB1.mono st1 (fun x => x)
 replace tot := tot.trans st1.pure
 refine WP.alloc (T := 32) (t + 2) [encA .u8 (zA 8)] [8] (by kernel_rfl) (by simp [len_encA]) ?_
 intro g2 b4 st2 hB4
 replace hB2 := hB2.mono st2 (fun x => x)
 replace hR1 := hR1.mono st2 (fun x => x)
 replace hB1 := hB1.mono st2 (fun x => x)
 replace hB3 := hB3.mono st2 (fun x => x)
 replace tot := tot.trans st2.pure
 refine WP.dn ?_
 refine NX.then_n ?_
 refine CP.seqR ?_
 refine WP.stl 1 ?_
 refine WP.loadB (v := AG [encA .u8 d1]) hB3 (by kernel_rfl) (by kernel_rfl) ?_
 refine WP.storeB (ty := 32) (off := 0) (v := AG [encA .u8 d1]) hB4 [encA .u8 d1] [8] (by kernel_rfl) (by kernel_rfl) (by simp [len_encA]) (by kernel_rfl) [encA .u8 d1] (by kernel_rfl) (.arr .nil) ?_
 intro g3 st3 hB5
 replace hB3 := hB3.mono st3 (WL.no1 (by omega))
 replace hB2 := hB2.mono st3 (WL.no1 (by omega))
 replace hR1 := hR1.mono st3 (WL.no1 (by omega))
 replace hB1 := hB1.mono st3 (WL.no1 (by omega))
 replace tot := tot.trans (st3.up1 (.inr (by omega)))
 clear hB4
 have hB4 := hB5
 clear hB5
 refine WP.dn ?_
 refine NX.then_n ?_
 refine CP.ret ?_
 replace hs := Option.some.inj hs
 obtain rfl := hs
 exact NX.fin (v := AG [encA .u8 d1]) (Res.one rfl (RV.box (agg := true) (size := 8) (rs := [encA .u8 d1]) hB4 (by kernel_rfl) (by kernel_rfl) (by kernel_rfl) (by kernel_rfl))) tot htL rfl
def N.baizelaw07_told_0 : List (List Nat) := [[], [], [0], [0, 2], [0, 2, 3], [0, 1, 2, 3, 4], [0, 1, 2, 3, 4, 5], [0, 1, 2, 3, 4, 5, 6], [0, 1, 2, 3, 4, 5, 6], [0, 1, 2, 3, 4, 5, 6, 7], [0, 1, 2, 3, 4, 5, 6, 7, 8, 9]]
def F.baizelaw07_told.c1 (q1 : Bool) : Option (Bool) := (some q1)
def F.baizelaw07_told : Option (Bool) := ((F.notary_NewBook).bind fun d1 => ((F.baizelaw07_Digest 5).bind fun d2 => ((F.notary_Book_Signer ([]) d1 d2).bind fun d3 => ((F.baizelaw07_Digest 7).bind fun d4 => ((F.notary_Book_Signer ([]) d1 d4).bind fun d5 => ((F.baizelaw07_Digest 1).bind fun d6 => ((F.notary_bookSigner_Sign ([]) d1 d3 d6).bind fun (l1, x1, d7, d8) => ((F.baizelaw07_Digest 1).bind fun d9 => ((F.notary_bookSigner_Sign d8 d7 d5 d9).bind fun (l2, x2, d10, d11) => ((F.baizelaw07_Digest 1).bind fun d12 => ((F.notary_bookSigner_Sign d11 d10 d3 d12).bind fun (l3, x3, d13, d14) => (if (x1 == 0) = true then (if (x2 == 0) = true then (if (x3 == 0) = true then (if ((bytesStr l1).toList == str_0.toList) = true then (if ((bytesStr l2).toList == str_1.toList) = true then (if ((bytesStr l3).toList == (bytesStr l1).toList) = true then ((F.notary_bookSigner_Key d14 d13 d3).bind fun d17 => ((F.baizelaw07_Digest 5).bind fun d18 => (F.baizelaw07_told.c1 (d17.1 == d18.1)))) else (F.baizelaw07_told.c1 false)) else (F.baizelaw07_told.c1 false)) else (F.baizelaw07_told.c1 false)) else (F.baizelaw07_told.c1 false)) else (F.baizelaw07_told.c1 false)) else (F.baizelaw07_told.c1 false)))))))))))))
theorem P.baizelaw07_told (g0 : GW) (o1 : Bool) (hs : F.baizelaw07_told = some o1) :
  Calls Try.prog 10 #[] g0.w (Ret NoM g0 fun v g => v = .bool o1) := by
 refine calls_of (args := []) Try.func10 rfl (0) ?_
 intro t ht htL
 refine ⟨_, rfl, ?_⟩
 refine CP.refr 85 [] (by kernel_rfl) (by kernel_rfl) ?_
 intro ds
 have tot : Step (fun l => NoM l ∨ t ≤ l) g0 g0 := Step.refl _ _
 unfold F.baizelaw07_told at hs
 refine CP.seqR ?_
 refine WP.stl 1 ?_
 refine WP.dn ?_
 refine NX.then_n ?_
 refine CP.seqR ?_
 replace hs := Option.bind_eq_some_iff.1 hs
 obtain ⟨d1, hk1, hs⟩ := hs
 have hcal1 := P.notary_NewBook g0 (t + 1) (t + 2) d1 hk1
 refine WP.callC hcal1 (by kernel_rfl) ?_
 rintro _ g1 st1 ⟨b1, b2, rfl, hB1, hB2⟩
 replace tot := tot.trans st1.pure
 refine WP.stl 1 ?_
 refine WP.dn ?_
 refine NX.then_n ?_
 refine CP.seq ?_
 refine CP.seqR ?_
 refine WP.stl 2 ?_
 refine WP.dn ?_
 refine NX.then_n ?_
 refine CP.cond_f (by kernel_rfl) ?_
 refine CP.skip ?_
 refine NX.then_n ?_
 refine CP.seqR ?_
 refine WP.stl 1 ?_
 replace hs := Option.bind_eq_some_iff.1 hs
 obtain ⟨d2, hk2, hs⟩ := hs
 have hcal2 := P.baizelaw07_Digest g1 5 d2 hk2
 refine WP.callC hcal2 (by kernel_rfl) ?_
 rintro _ g2 st2 rfl
 replace hB1 := hB1.mono st2 (fun x => x)
 replace hB2 := hB2.mono st2 (fun x => x)
 replace tot := tot.trans st2.pure
 replace hs := Option.bind_eq_some_iff.1 hs
 obtain ⟨d3, hk3, hs⟩ := hs
 have hcal3 := P.notary_Book_Signer g2 (t + 1) (t + 2) ([]) d1 d2 none 0 0 b1 b2 (RdS.nil _ _ _) hB2 hB1 (by omega) (by omega) (by omega) d3 hk3
 refine WP.callC hcal3 (by kernel_rfl) ?_
 rintro _ g3 st3 rfl
 replace hB1 := hB1.mono st3 (fun x => x)
 replace hB2 := hB2.mono st3 (fun x => x)
 replace tot := tot.trans st3.pure
 refine WP.stl 1 ?_
 replace hs := Option.bind_eq_some_iff.1 hs
 obtain ⟨d4, hk4, hs⟩ := hs
 have hcal4 := P.baizelaw07_Digest g3 7 d4 hk4
 refine WP.callC hcal4 (by kernel_rfl) ?_
 rintro _ g4 st4 rfl
 replace hB1 := hB1.mono st4 (fun x => x)
 replace hB2 := hB2.mono st4 (fun x => x)
 replace tot := tot.trans st4.pure
 replace hs := Option.bind_eq_some_iff.1 hs
 obtain ⟨d5, hk5, hs⟩ := hs
 have hcal5 := P.notary_Book_Signer g4 (t + 1) (t + 2) ([]) d1 d4 none 0 0 b1 b2 (RdS.nil _ _ _) hB2 hB1 (by omega) (by omega) (by omega) d5 hk5
 refine WP.callC hcal5 (by kernel_rfl) ?_
 rintro _ g5 st5 rfl
 replace hB1 := hB1.mono st5 (fun x => x)
 replace hB2 := hB2.mono st5 (fun x => x)
 replace tot := tot.trans st5.pure
 refine WP.stl 2 ?_
 refine WP.dn ?_
 refine NX.then_n ?_
 refine CP.refr 85 [(2, .iface 79 (AG [[.pointer (some ⟨b1, 0, none⟩)], encA .u8 d3])), (3, .iface 79 (AG [[.pointer (some ⟨b1, 0, none⟩)], encA .u8 d5]))] (by kernel_rfl) (by kernel_rfl) ?_
 clear ds
 intro ds
 refine CP.seq ?_
 refine CP.seq ?_
 refine CP.region ?_
 refine WP.stl 6 ?_
 refine WP.dn ?_
 refine NX.then_n ?_
 refine CP.cond_f (by kernel_rfl) ?_
 refine CP.skip ?_
 refine NX.then_n ?_
 refine CP.seq ?_
 replace hs := Option.bind_eq_some_iff.1 hs
 obtain ⟨d6, hk6, hs⟩ := hs
 replace hs := Option.bind_eq_some_iff.1 hs
 obtain ⟨⟨l1, x1, d7, d8⟩, hk7, hs⟩ := hs
 dsimp only at hs
 refine CP.drawL (by kernel_rfl) [1, 5] N.baizelaw07_told_0 [⟨none, [1], [], fun l g => Box g (t + 1) b1 84 [[.slice none 0 0], [.map (some b2)]] [1, 1]⟩, ⟨none, [0], [], fun l g => MapB g (t + 2) b2 kv_S_notary_entry (Value.int .i64) d1⟩, ⟨some 0, [], [0], fun l g => l.getD 0 undef = AG [encA .u8 d6]⟩, ⟨some 1, [0], [], fun l g => MapB g (t + 2) b2 kv_S_notary_entry (Value.int .i64) d7⟩, ⟨some 1, [1, 2], [1], fun l g => ∃ (a1 : Option Addr) (c1 : Nat) (a2 : Option Addr) (c2 : Nat), l.getD 0 undef = .tuple #[.slice a1 l1.length c1, .int .i64 x1] ∧ OwnS (Kd.int .u8) g (t + 4) 5 a1 l1.length c1 l1 ∧ OwnS k_S_notary_entry g (t + 3) 86 a2 d8.length c2 d8 ∧ Box g (t + 1) b1 84 [[.slice a2 d8.length c2], [.map (some b2)]] [1, 1]⟩] [[], [0, 1, 2]] [(t + 2), (t + 1), (t + 3)] [0, 2, 3, 4] [6, 7, 8, 9, 10] (by kernel_rfl) (by simp <;> omega) (by simp <;> omega) ⟨fun _ _ _ _ st h0 hl hj hB1 => (hB1.mono st (hj 1 (by simp) _ rfl)), fun _ _ _ _ st h0 hl hj hB2 => (hB2.mono st (hj 0 (by simp) _ rfl)), fun _ _ _ _ st h0 hl hj e0 => e0, fun _ _ _ _ st h0 hl hj hB2 => (hB2.mono st (hj 0 (by simp) _ rfl)), fun _ _ _ _ st h0 hl hj ⟨a1, c1, a2, c2, e1, hR1, hR2, hB1⟩ => ⟨a1, c1, a2, c2, e1, (hR1.mono st h0 (fun h => absurd (hl _ h) (by simp <;> omega))), (hR2.mono st h0 (hj 2 (by simp) _ rfl)), (hB1.mono st (hj 1 (by simp) _ rfl))⟩, tv⟩ ⟨hB1, hB2, tv, tv, tv, tv⟩ (by kernel_rfl) (fun vs => by kernel_rfl) ?_ ?_ ?_
 ·intro j hj
  have hq : j = 0 ∨ j = 1 ∨ j = 2 ∨ j = 3 ∨ j = 4 := by have h : j < 5 := hj; omega
  rcases hq with rfl | rfl | rfl | rfl | rfl
  ·intro vs gq stq hl hf
   obtain ⟨v0, v1, rfl⟩ := len_k2 hl
   obtain ⟨a1, c1, a2, c2, e1, hR1, hR2, hB1⟩ := (show ∃ (a1 : Option Addr) (c1 : Nat) (a2 : Option Addr) (c2 : Nat), v1 = .tuple #[.slice a1 l1.length c1, .int .i64 x1] ∧ OwnS (Kd.int .u8) gq (t + 4) 5 a1 l1.length c1 l1 ∧ OwnS k_S_notary_entry gq (t + 3) 86 a2 d8.length c2 d8 ∧ Box gq (t + 1) b1 84 [[.slice a2 d8.length c2], [.map (some b2)]] [1, 1] from hf _ (memI 4 rfl) (by kernel_rfl))
   subst e1
   show Option.isSome _ = true
   kernel_rfl
  ·intro vs gq stq hl hf
   obtain ⟨v0, v1, rfl⟩ := len_k2 hl
   obtain ⟨a1, c1, a2, c2, e1, hR1, hR2, hB1⟩ := (show ∃ (a1 : Option Addr) (c1 : Nat) (a2 : Option Addr) (c2 : Nat), v1 = .tuple #[.slice a1 l1.length c1, .int .i64 x1] ∧ OwnS (Kd.int .u8) gq (t + 4) 5 a1 l1.length c1 l1 ∧ OwnS k_S_notary_entry gq (t + 3) 86 a2 d8.length c2 d8 ∧ Box gq (t + 1) b1 84 [[.slice a2 d8.length c2], [.map (some b2)]] [1, 1] from hf _ (memI 4 rfl) (by kernel_rfl))
   subst e1
   show Option.isSome _ = true
   kernel_rfl
  ·intro vs gq stq hl hf
   obtain ⟨v0, v1, rfl⟩ := len_k2 hl
   obtain ⟨a1, c1, a2, c2, e1, hR1, hR2, hB1⟩ := (show ∃ (a1 : Option Addr) (c1 : Nat) (a2 : Option Addr) (c2 : Nat), v1 = .tuple #[.slice a1 l1.length c1, .int .i64 x1] ∧ OwnS (Kd.int .u8) gq (t + 4) 5 a1 l1.length c1 l1 ∧ OwnS k_S_notary_entry gq (t + 3) 86 a2 d8.length c2 d8 ∧ Box gq (t + 1) b1 84 [[.slice a2 d8.length c2], [.map (some b2)]] [1, 1] from hf _ (memI 4 rfl) (by kernel_rfl))
   subst e1
   show Option.isSome _ = true
   kernel_rfl
  ·intro vs gq stq hl hf
   obtain ⟨v0, v1, rfl⟩ := len_k2 hl
   obtain ⟨a1, c1, a2, c2, e1, hR1, hR2, hB1⟩ := (show ∃ (a1 : Option Addr) (c1 : Nat) (a2 : Option Addr) (c2 : Nat), v1 = .tuple #[.slice a1 l1.length c1, .int .i64 x1] ∧ OwnS (Kd.int .u8) gq (t + 4) 5 a1 l1.length c1 l1 ∧ OwnS k_S_notary_entry gq (t + 3) 86 a2 d8.length c2 d8 ∧ Box gq (t + 1) b1 84 [[.slice a2 d8.length c2], [.map (some b2)]] [1, 1] from hf _ (memI 4 rfl) (by kernel_rfl))
   subst e1
   show Option.isSome _ = true
   kernel_rfl
  ·intro vs gq stq hl hf
   obtain ⟨v0, v1, rfl⟩ := len_k2 hl
   obtain ⟨a1, c1, a2, c2, e1, hR1, hR2, hB1⟩ := (show ∃ (a1 : Option Addr) (c1 : Nat) (a2 : Option Addr) (c2 : Nat), v1 = .tuple #[.slice a1 l1.length c1, .int .i64 x1] ∧ OwnS (Kd.int .u8) gq (t + 4) 5 a1 l1.length c1 l1 ∧ OwnS k_S_notary_entry gq (t + 3) 86 a2 d8.length c2 d8 ∧ Box gq (t + 1) b1 84 [[.slice a2 d8.length c2], [.map (some b2)]] [1, 1] from hf _ (memI 4 rfl) (by kernel_rfl))
   subst e1
   show Option.isSome _ = true
   kernel_rfl
 ·intro j hj
  have hq : j = 0 ∨ j = 1 := by have h : j < 2 := hj; omega
  rcases hq with rfl | rfl
  ·intro vs gq stq hl hf
   obtain ⟨v0, v1, rfl⟩ := len_k2 hl
   have hcal6 := P.baizelaw07_Digest gq 1 d6 hk6
   refine WP.callC hcal6 (by kernel_rfl) ?_
   rintro _ g6 st6 rfl
   refine WP.dn (Shown.o (v := AG [encA .u8 d6]) st6.pure ?_)
   exact ⟨tv, tv, rfl, tv, tv, tv⟩
  ·intro vs gq stq hl hf
   obtain ⟨v0, v1, rfl⟩ := len_k2 hl
   have hB1 := (show Box gq (t + 1) b1 84 [[.slice none 0 0], [.map (some b2)]] [1, 1] from hf _ (memI 0 rfl) (by kernel_rfl))
   have hB2 := (show MapB gq (t + 2) b2 kv_S_notary_entry (Value.int .i64) d1 from hf _ (memI 1 rfl) (by kernel_rfl))
   have e0 := (show v0 = AG [encA .u8 d6] from hf _ (memI 2 rfl) (by kernel_rfl))
   subst e0
   have hcal7 := P.notary_bookSigner_Sign gq (t + 1) (t + 3) (t + 2) (t + 4) ([]) d1 d3 d6 none 0 0 b1 b2 (OwnS.nil _ _ _ _) hB2 hB1 (by omega) (by omega) (by omega) (by omega) (by omega) (by omega) l1 x1 d7 d8 hk7
   refine WP.callC hcal7 (by kernel_rfl) ?_
   rintro _ g7 st7 ⟨a1, n1, c1, a2, n2, c2, rfl, hR1, hB3, hR2, hB4⟩
   obtain rfl := hR1.len
   obtain rfl := hR2.len
   refine WP.dn (Shown.o (v := .tuple #[.slice a1 l1.length c1, .int .i64 x1]) st7 ?_)
   exact ⟨tv, tv, tv, hB3, ⟨a1, c1, a2, c2, rfl, hR1, hR2, hB4⟩, tv⟩
 intro vs g8 st8 hl hf
 obtain ⟨v0, v1, rfl⟩ := len_k2 hl
 have hB2 := (show MapB g8 (t + 2) b2 kv_S_notary_entry (Value.int .i64) d7 from hf _ (memI 3 rfl) (by kernel_rfl))
 obtain ⟨a1, c1, a2, c2, e1, hR1, hR2, hB1⟩ := (show ∃ (a1 : Option Addr) (c1 : Nat) (a2 : Option Addr) (c2 : Nat), v1 = .tuple #[.slice a1 l1.length c1, .int .i64 x1] ∧ OwnS (Kd.int .u8) g8 (t + 4) 5 a1 l1.length c1 l1 ∧ OwnS k_S_notary_entry g8 (t + 3) 86 a2 d8.length c2 d8 ∧ Box g8 (t + 1) b1 84 [[.slice a2 d8.length c2], [.map (some b2)]] [1, 1] from hf _ (memI 4 rfl) (by kernel_rfl))
 subst e1
 replace tot := tot.trans (st8.up3 (.inr (by omega)) (.inr (by omega)) (.inr (by omega)))
 refine NX.then_n ?_
 refine CP.refr 85 [(2, .iface 79 (AG [[.pointer (some ⟨b1, 0, none⟩)], encA .u8 d3])), (3, .iface 79 (AG [[.pointer (some ⟨b1, 0, none⟩)], encA .u8 d5])), (4, .slice a1 l1.length c1), (5, .int .i64 x1)] (by kernel_rfl) (by kernel_rfl) ?_
 clear ds
 intro ds
 refine CP.seq ?_
 replace hs := Option.bind_eq_some_iff.1 hs
 obtain ⟨d9, hk8, hs⟩ := hs
 replace hs := Option.bind_eq_some_iff.1 hs
 obtain ⟨⟨l2, x2, d10, d11⟩, hk9, hs⟩ := hs
 dsimp only at hs
 refine CP.drawL (by kernel_rfl) [1, 5] N.baizelaw07_told_0 [⟨none, [1], [], fun l g => Box g (t + 1) b1 84 [[.slice a2 d8.length c2], [.map (some b2)]] [1, 1]⟩, ⟨none, [2], [], fun l g => OwnS k_S_notary_entry g (t + 3) 86 a2 d8.length c2 d8⟩, ⟨none, [0], [], fun l g => MapB g (t + 2) b2 kv_S_notary_entry (Value.int .i64) d7⟩, ⟨some 0, [], [0], fun l g => l.getD 0 undef = AG [encA .u8 d9]⟩, ⟨some 1, [0], [], fun l g => MapB g (t + 2) b2 kv_S_notary_entry (Value.int .i64) d10⟩, ⟨some 1, [1, 2], [1], fun l g => ∃ (a3 : Option Addr) (c3 : Nat) (a4 : Option Addr) (c4 : Nat), l.getD 0 undef = .tuple #[.slice a3 l2.length c3, .int .i64 x2] ∧ OwnS (Kd.int .u8) g (t + 5) 5 a3 l2.length c3 l2 ∧ OwnS k_S_notary_entry g (t + 3) 86 a4 d11.length c4 d11 ∧ Box g (t + 1) b1 84 [[.slice a4 d11.length c4], [.map (some b2)]] [1, 1]⟩] [[], [0, 1, 2]] [(t + 2), (t + 1), (t + 3)] [0, 2, 3, 4] [6, 7, 8, 9, 10] (by kernel_rfl) (by simp <;> omega) (by simp <;> omega) ⟨fun _ _ _ _ st h0 hl hj hB1 => (hB1.mono st (hj 1 (by simp) _ rfl)), fun _ _ _ _ st h0 hl hj hR2 => (hR2.mono st h0 (hj 2 (by simp) _ rfl)), fun _ _ _ _ st h0 hl hj hB2 => (hB2.mono st (hj 0 (by simp) _ rfl)), fun _ _ _ _ st h0 hl hj e0 => e0, fun _ _ _ _ st h0 hl hj hB2 => (hB2.mono st (hj 0 (by simp) _ rfl)), fun _ _ _ _ st h0 hl hj ⟨a3, c3, a4, c4, e1, hR3, hR4, hB1⟩ => ⟨a3, c3, a4, c4, e1, (hR3.mono st h0 (fun h => absurd (hl _ h) (by simp <;> omega))), (hR4.mono st h0 (hj 2 (by simp) _ rfl)), (hB1.mono st (hj 1 (by simp) _ rfl))⟩, tv⟩ ⟨hB1, hR2, hB2, tv, tv, tv, tv⟩ (by kernel_rfl) (fun vs => by kernel_rfl) ?_ ?_ ?_
 ·intro j hj
  have hq : j = 0 ∨ j = 1 ∨ j = 2 ∨ j = 3 ∨ j = 4 := by have h : j < 5 := hj; omega
  rcases hq with rfl | rfl | rfl | rfl | rfl
  ·intro vs gq stq hl hf
   obtain ⟨v0, v1, rfl⟩ := len_k2 hl
   obtain ⟨a3, c3, a4, c4, e1, hR3, hR4, hB1⟩ := (show ∃ (a3 : Option Addr) (c3 : Nat) (a4 : Option Addr) (c4 : Nat), v1 = .tuple #[.slice a3 l2.length c3, .int .i64 x2] ∧ OwnS (Kd.int .u8) gq (t + 5) 5 a3 l2.length c3 l2 ∧ OwnS k_S_notary_entry gq (t + 3) 86 a4 d11.length c4 d11 ∧ Box gq (t + 1) b1 84 [[.slice a4 d11.length c4], [.map (some b2)]] [1, 1] from hf _ (memI 5 rfl) (by kernel_rfl))
   subst e1
   show Option.isSome _ = true
   kernel_rfl
  ·intro vs gq stq hl hf
   obtain ⟨v0, v1, rfl⟩ := len_k2 hl
   obtain ⟨a3, c3, a4, c4, e1, hR3, hR4, hB1⟩ := (show ∃ (a3 : Option Addr) (c3 : Nat) (a4 : Option Addr) (c4 : Nat), v1 = .tuple #[.slice a3 l2.length c3, .int .i64 x2] ∧ OwnS (Kd.int .u8) gq (t + 5) 5 a3 l2.length c3 l2 ∧ OwnS k_S_notary_entry gq (t + 3) 86 a4 d11.length c4 d11 ∧ Box gq (t + 1) b1 84 [[.slice a4 d11.length c4], [.map (some b2)]] [1, 1] from hf _ (memI 5 rfl) (by kernel_rfl))
   subst e1
   show Option.isSome _ = true
   kernel_rfl
  ·intro vs gq stq hl hf
   obtain ⟨v0, v1, rfl⟩ := len_k2 hl
   obtain ⟨a3, c3, a4, c4, e1, hR3, hR4, hB1⟩ := (show ∃ (a3 : Option Addr) (c3 : Nat) (a4 : Option Addr) (c4 : Nat), v1 = .tuple #[.slice a3 l2.length c3, .int .i64 x2] ∧ OwnS (Kd.int .u8) gq (t + 5) 5 a3 l2.length c3 l2 ∧ OwnS k_S_notary_entry gq (t + 3) 86 a4 d11.length c4 d11 ∧ Box gq (t + 1) b1 84 [[.slice a4 d11.length c4], [.map (some b2)]] [1, 1] from hf _ (memI 5 rfl) (by kernel_rfl))
   subst e1
   show Option.isSome _ = true
   kernel_rfl
  ·intro vs gq stq hl hf
   obtain ⟨v0, v1, rfl⟩ := len_k2 hl
   obtain ⟨a3, c3, a4, c4, e1, hR3, hR4, hB1⟩ := (show ∃ (a3 : Option Addr) (c3 : Nat) (a4 : Option Addr) (c4 : Nat), v1 = .tuple #[.slice a3 l2.length c3, .int .i64 x2] ∧ OwnS (Kd.int .u8) gq (t + 5) 5 a3 l2.length c3 l2 ∧ OwnS k_S_notary_entry gq (t + 3) 86 a4 d11.length c4 d11 ∧ Box gq (t + 1) b1 84 [[.slice a4 d11.length c4], [.map (some b2)]] [1, 1] from hf _ (memI 5 rfl) (by kernel_rfl))
   subst e1
   show Option.isSome _ = true
   kernel_rfl
  ·intro vs gq stq hl hf
   obtain ⟨v0, v1, rfl⟩ := len_k2 hl
   obtain ⟨a3, c3, a4, c4, e1, hR3, hR4, hB1⟩ := (show ∃ (a3 : Option Addr) (c3 : Nat) (a4 : Option Addr) (c4 : Nat), v1 = .tuple #[.slice a3 l2.length c3, .int .i64 x2] ∧ OwnS (Kd.int .u8) gq (t + 5) 5 a3 l2.length c3 l2 ∧ OwnS k_S_notary_entry gq (t + 3) 86 a4 d11.length c4 d11 ∧ Box gq (t + 1) b1 84 [[.slice a4 d11.length c4], [.map (some b2)]] [1, 1] from hf _ (memI 5 rfl) (by kernel_rfl))
   subst e1
   show Option.isSome _ = true
   kernel_rfl
 ·intro j hj
  have hq : j = 0 ∨ j = 1 := by have h : j < 2 := hj; omega
  rcases hq with rfl | rfl
  ·intro vs gq stq hl hf
   obtain ⟨v0, v1, rfl⟩ := len_k2 hl
   have hcal8 := P.baizelaw07_Digest gq 1 d9 hk8
   refine WP.callC hcal8 (by kernel_rfl) ?_
   rintro _ g9 st9 rfl
   refine WP.dn (Shown.o (v := AG [encA .u8 d9]) st9.pure ?_)
   exact ⟨tv, tv, tv, rfl, tv, tv, tv⟩
  ·intro vs gq stq hl hf
   obtain ⟨v0, v1, rfl⟩ := len_k2 hl
   have hB1 := (show Box gq (t + 1) b1 84 [[.slice a2 d8.length c2], [.map (some b2)]] [1, 1] from hf _ (memI 0 rfl) (by kernel_rfl))
   have hR2 := (show OwnS k_S_notary_entry gq (t + 3) 86 a2 d8.length c2 d8 from hf _ (memI 1 rfl) (by kernel_rfl))
   have hB2 := (show MapB gq (t + 2) b2 kv_S_notary_entry (Value.int .i64) d7 from hf _ (memI 2 rfl) (by kernel_rfl))
   have e0 := (show v0 = AG [encA .u8 d9] from hf _ (memI 3 rfl) (by kernel_rfl))
   subst e0
   have hcal9 := P.notary_bookSigner_Sign gq (t + 1) (t + 3) (t + 2) (t + 5) d8 d7 d5 d9 a2 d8.length c2 b1 b2 hR2 hB2 hB1 (by omega) (by omega) (by omega) (by omega) (by omega) (by omega) l2 x2 d10 d11 hk9
   refine WP.callC hcal9 (by kernel_rfl) ?_
   rintro _ g10 st10 ⟨a3, n3, c3, a4, n4, c4, rfl, hR3, hB5, hR4, hB6⟩
   obtain rfl := hR3.len
   obtain rfl := hR4.len
   refine WP.dn (Shown.o (v := .tuple #[.slice a3 l2.length c3, .int .i64 x2]) st10 ?_)
   exact ⟨tv, tv, tv, tv, hB5, ⟨a3, c3, a4, c4, rfl, hR3, hR4, hB6⟩, tv⟩
 intro vs g11 st11 hl hf
 obtain ⟨v0, v1, rfl⟩ := len_k2 hl
 have hB2 := (show MapB g11 (t + 2) b2 kv_S_notary_entry (Value.int .i64) d10 from hf _ (memI 4 rfl) (by kernel_rfl))
 obtain ⟨a3, c3, a4, c4, e1, hR3, hR4, hB1⟩ := (show ∃ (a3 : Option Addr) (c3 : Nat) (a4 : Option Addr) (c4 : Nat), v1 = .tuple #[.slice a3 l2.length c3, .int .i64 x2] ∧ OwnS (Kd.int .u8) g11 (t + 5) 5 a3 l2.length c3 l2 ∧ OwnS k_S_notary_entry g11 (t + 3) 86 a4 d11.length c4 d11 ∧ Box g11 (t + 1) b1 84 [[.slice a4 d11.length c4], [.map (some b2)]] [1, 1] from hf _ (memI 5 rfl) (by kernel_rfl))
 subst e1
 replace hR1 := hR1.mono st11 (WL.no3 (by omega) (by omega) (by omega)) (WL.no3 (by omega) (by omega) (by omega))
 replace tot := tot.trans (st11.up3 (.inr (by omega)) (.inr (by omega)) (.inr (by omega)))
 refine NX.then_n ?_
 refine CP.refr 85 [(2, .iface 79 (AG [[.pointer (some ⟨b1, 0, none⟩)], encA .u8 d3])), (4, .slice a1 l1.length c1), (5, .int .i64 x1), (6, .slice a3 l2.length c3), (7, .int .i64 x2)] (by kernel_rfl) (by kernel_rfl) ?_
 clear ds
 intro ds
 refine CP.seq ?_
 replace hs := Option.bind_eq_some_iff.1 hs
 obtain ⟨d12, hk10, hs⟩ := hs
 replace hs := Option.bind_eq_some_iff.1 hs
 obtain ⟨⟨l3, x3, d13, d14⟩, hk11, hs⟩ := hs
 dsimp only at hs
 refine CP.drawL (by kernel_rfl) [1, 5] N.baizelaw07_told_0 [⟨none, [1], [], fun l g => Box g (t + 1) b1 84 [[.slice a4 d11.length c4], [.map (some b2)]] [1, 1]⟩, ⟨none, [2], [], fun l g => OwnS k_S_notary_entry g (t + 3) 86 a4 d11.length c4 d11⟩, ⟨none, [0], [], fun l g => MapB g (t + 2) b2 kv_S_notary_entry (Value.int .i64) d10⟩, ⟨some 0, [], [0], fun l g => l.getD 0 undef = AG [encA .u8 d12]⟩, ⟨some 1, [0], [], fun l g => MapB g (t + 2) b2 kv_S_notary_entry (Value.int .i64) d13⟩, ⟨some 1, [1, 2], [1], fun l g => ∃ (a5 : Option Addr) (c5 : Nat) (a6 : Option Addr) (c6 : Nat), l.getD 0 undef = .tuple #[.slice a5 l3.length c5, .int .i64 x3] ∧ OwnS (Kd.int .u8) g (t + 6) 5 a5 l3.length c5 l3 ∧ OwnS k_S_notary_entry g (t + 3) 86 a6 d14.length c6 d14 ∧ Box g (t + 1) b1 84 [[.slice a6 d14.length c6], [.map (some b2)]] [1, 1]⟩] [[], [0, 1, 2]] [(t + 2), (t + 1), (t + 3)] [0, 2, 3, 4] [6, 7, 8, 9, 10] (by kernel_rfl) (by simp <;> omega) (by simp <;> omega) ⟨fun _ _ _ _ st h0 hl hj hB1 => (hB1.mono st (hj 1 (by simp) _ rfl)), fun _ _ _ _ st h0 hl hj hR4 => (hR4.mono st h0 (hj 2 (by simp) _ rfl)), fun _ _ _ _ st h0 hl hj hB2 => (hB2.mono st (hj 0 (by simp) _ rfl)), fun _ _ _ _ st h0 hl hj e0 => e0, fun _ _ _ _ st h0 hl hj hB2 => (hB2.mono st (hj 0 (by simp) _ rfl)), fun _ _ _ _ st h0 hl hj ⟨a5, c5, a6, c6, e1, hR5, hR6, hB1⟩ => ⟨a5, c5, a6, c6, e1, (hR5.mono st h0 (fun h => absurd (hl _ h) (by simp <;> omega))), (hR6.mono st h0 (hj 2 (by simp) _ rfl)), (hB1.mono st (hj 1 (by simp) _ rfl))⟩, tv⟩ ⟨hB1, hR4, hB2, tv, tv, tv, tv⟩ (by kernel_rfl) (fun vs => by kernel_rfl) ?_ ?_ ?_
 ·intro j hj
  have hq : j = 0 ∨ j = 1 ∨ j = 2 ∨ j = 3 ∨ j = 4 := by have h : j < 5 := hj; omega
  rcases hq with rfl | rfl | rfl | rfl | rfl
  ·intro vs gq stq hl hf
   obtain ⟨v0, v1, rfl⟩ := len_k2 hl
   obtain ⟨a5, c5, a6, c6, e1, hR5, hR6, hB1⟩ := (show ∃ (a5 : Option Addr) (c5 : Nat) (a6 : Option Addr) (c6 : Nat), v1 = .tuple #[.slice a5 l3.length c5, .int .i64 x3] ∧ OwnS (Kd.int .u8) gq (t + 6) 5 a5 l3.length c5 l3 ∧ OwnS k_S_notary_entry gq (t + 3) 86 a6 d14.length c6 d14 ∧ Box gq (t + 1) b1 84 [[.slice a6 d14.length c6], [.map (some b2)]] [1, 1] from hf _ (memI 5 rfl) (by kernel_rfl))
   subst e1
   show Option.isSome _ = true
   kernel_rfl
  ·intro vs gq stq hl hf
   obtain ⟨v0, v1, rfl⟩ := len_k2 hl
   obtain ⟨a5, c5, a6, c6, e1, hR5, hR6, hB1⟩ := (show ∃ (a5 : Option Addr) (c5 : Nat) (a6 : Option Addr) (c6 : Nat), v1 = .tuple #[.slice a5 l3.length c5, .int .i64 x3] ∧ OwnS (Kd.int .u8) gq (t + 6) 5 a5 l3.length c5 l3 ∧ OwnS k_S_notary_entry gq (t + 3) 86 a6 d14.length c6 d14 ∧ Box gq (t + 1) b1 84 [[.slice a6 d14.length c6], [.map (some b2)]] [1, 1] from hf _ (memI 5 rfl) (by kernel_rfl))
   subst e1
   show Option.isSome _ = true
   kernel_rfl
  ·intro vs gq stq hl hf
   obtain ⟨v0, v1, rfl⟩ := len_k2 hl
   obtain ⟨a5, c5, a6, c6, e1, hR5, hR6, hB1⟩ := (show ∃ (a5 : Option Addr) (c5 : Nat) (a6 : Option Addr) (c6 : Nat), v1 = .tuple #[.slice a5 l3.length c5, .int .i64 x3] ∧ OwnS (Kd.int .u8) gq (t + 6) 5 a5 l3.length c5 l3 ∧ OwnS k_S_notary_entry gq (t + 3) 86 a6 d14.length c6 d14 ∧ Box gq (t + 1) b1 84 [[.slice a6 d14.length c6], [.map (some b2)]] [1, 1] from hf _ (memI 5 rfl) (by kernel_rfl))
   subst e1
   show Option.isSome _ = true
   kernel_rfl
  ·intro vs gq stq hl hf
   obtain ⟨v0, v1, rfl⟩ := len_k2 hl
   obtain ⟨a5, c5, a6, c6, e1, hR5, hR6, hB1⟩ := (show ∃ (a5 : Option Addr) (c5 : Nat) (a6 : Option Addr) (c6 : Nat), v1 = .tuple #[.slice a5 l3.length c5, .int .i64 x3] ∧ OwnS (Kd.int .u8) gq (t + 6) 5 a5 l3.length c5 l3 ∧ OwnS k_S_notary_entry gq (t + 3) 86 a6 d14.length c6 d14 ∧ Box gq (t + 1) b1 84 [[.slice a6 d14.length c6], [.map (some b2)]] [1, 1] from hf _ (memI 5 rfl) (by kernel_rfl))
   subst e1
   show Option.isSome _ = true
   kernel_rfl
  ·intro vs gq stq hl hf
   obtain ⟨v0, v1, rfl⟩ := len_k2 hl
   obtain ⟨a5, c5, a6, c6, e1, hR5, hR6, hB1⟩ := (show ∃ (a5 : Option Addr) (c5 : Nat) (a6 : Option Addr) (c6 : Nat), v1 = .tuple #[.slice a5 l3.length c5, .int .i64 x3] ∧ OwnS (Kd.int .u8) gq (t + 6) 5 a5 l3.length c5 l3 ∧ OwnS k_S_notary_entry gq (t + 3) 86 a6 d14.length c6 d14 ∧ Box gq (t + 1) b1 84 [[.slice a6 d14.length c6], [.map (some b2)]] [1, 1] from hf _ (memI 5 rfl) (by kernel_rfl))
   subst e1
   show Option.isSome _ = true
   kernel_rfl
 ·intro j hj
  have hq : j = 0 ∨ j = 1 := by have h : j < 2 := hj; omega
  rcases hq with rfl | rfl
  ·intro vs gq stq hl hf
   obtain ⟨v0, v1, rfl⟩ := len_k2 hl
   have hcal10 := P.baizelaw07_Digest gq 1 d12 hk10
   refine WP.callC hcal10 (by kernel_rfl) ?_
   rintro _ g12 st12 rfl
   refine WP.dn (Shown.o (v := AG [encA .u8 d12]) st12.pure ?_)
   exact ⟨tv, tv, tv, rfl, tv, tv, tv⟩
  ·intro vs gq stq hl hf
   obtain ⟨v0, v1, rfl⟩ := len_k2 hl
   have hB1 := (show Box gq (t + 1) b1 84 [[.slice a4 d11.length c4], [.map (some b2)]] [1, 1] from hf _ (memI 0 rfl) (by kernel_rfl))
   have hR4 := (show OwnS k_S_notary_entry gq (t + 3) 86 a4 d11.length c4 d11 from hf _ (memI 1 rfl) (by kernel_rfl))
   have hB2 := (show MapB gq (t + 2) b2 kv_S_notary_entry (Value.int .i64) d10 from hf _ (memI 2 rfl) (by kernel_rfl))
   have e0 := (show v0 = AG [encA .u8 d12] from hf _ (memI 3 rfl) (by kernel_rfl))
   subst e0
   have hcal11 := P.notary_bookSigner_Sign gq (t + 1) (t + 3) (t + 2) (t + 6) d11 d10 d3 d12 a4 d11.length c4 b1 b2 hR4 hB2 hB1 (by omega) (by omega) (by omega) (by omega) (by omega) (by omega) l3 x3 d13 d14 hk11
   refine WP.callC hcal11 (by kernel_rfl) ?_
   rintro _ g13 st13 ⟨a5, n5, c5, a6, n6, c6, rfl, hR5, hB7, hR6, hB8⟩
   obtain rfl := hR5.len
   obtain rfl := hR6.len
   refine WP.dn (Shown.o (v := .tuple #[.slice a5 l3.length c5, .int .i64 x3]) st13 ?_)
   exact ⟨tv, tv, tv, tv, hB7, ⟨a5, c5, a6, c6, rfl, hR5, hR6, hB8⟩, tv⟩
 intro vs g14 st14 hl hf
 obtain ⟨v0, v1, rfl⟩ := len_k2 hl
 have hB2 := (show MapB g14 (t + 2) b2 kv_S_notary_entry (Value.int .i64) d13 from hf _ (memI 4 rfl) (by kernel_rfl))
 obtain ⟨a5, c5, a6, c6, e1, hR5, hR6, hB1⟩ := (show ∃ (a5 : Option Addr) (c5 : Nat) (a6 : Option Addr) (c6 : Nat), v1 = .tuple #[.slice a5 l3.length c5, .int .i64 x3] ∧ OwnS (Kd.int .u8) g14 (t + 6) 5 a5 l3.length c5 l3 ∧ OwnS k_S_notary_entry g14 (t + 3) 86 a6 d14.length c6 d14 ∧ Box g14 (t + 1) b1 84 [[.slice a6 d14.length c6], [.map (some b2)]] [1, 1] from hf _ (memI 5 rfl) (by kernel_rfl))
 subst e1
 replace hR1 := hR1.mono st14 (WL.no3 (by omega) (by omega) (by omega)) (WL.no3 (by omega) (by omega) (by omega))
 replace hR3 := hR3.mono st14 (WL.no3 (by omega) (by omega) (by omega)) (WL.no3 (by omega) (by omega) (by omega))
 replace tot := tot.trans (st14.up3 (.inr (by omega)) (.inr (by omega)) (.inr (by omega)))
 refine NX.then_n ?_
 refine CP.refr 85 [(2, .iface 79 (AG [[.pointer (some ⟨b1, 0, none⟩)], encA .u8 d3])), (4, .slice a1 l1.length c1), (5, .int .i64 x1), (6, .slice a3 l2.length c3), (7, .int .i64 x2), (8, .slice a5 l3.length c5), (9, .int .i64 x3)] (by kernel_rfl) (by kernel_rfl) ?_
 clear ds
 intro ds
 refine CP.cut (fun tm g => ∃ (q1 : Bool), Fr 85 [(0, .bool q1)] tm ∧ Step (fun l => NoM l ∨ t ≤ l) g0 g ∧ (F.baizelaw07_told.c1 q1) = some o1) ?_ ?_
 ·refine CP.region ?_
  refine WP.stl 3 ?_
  refine WP.guard 54 (b := (x1 == 0)) (by kernel_rfl) (fun h7 => ?_) (fun h7 => ?_)
  ·replace hs := of_if_t hs h7
   refine WP.stl 4 ?_
   refine WP.guard 58 (b := (x2 == 0)) (by kernel_rfl) (fun h8 => ?_) (fun h8 => ?_)
   ·replace hs := of_if_t hs h8
    refine WP.stl 4 ?_
    refine WP.guard 62 (b := (x3 == 0)) (by kernel_rfl) (fun h9 => ?_) (fun h9 => ?_)
    ·replace hs := of_if_t hs h9
     refine WP.stl 1 ?_
     refine WP.toStr (a := a1) (cp := c1) hR1.src hR1.len (by kernel_rfl) ?_
     refine WP.stl 3 ?_
     refine WP.guard 67 (b := ((bytesStr l1).toList == str_0.toList)) (by kernel_rfl) (fun h10 => ?_) (fun h10 => ?_)
     ·replace hs := of_if_t hs h10
      refine WP.stl 1 ?_
      refine WP.toStr (a := a3) (cp := c3) hR3.src hR3.len (by kernel_rfl) ?_
      refine WP.stl 3 ?_
      refine WP.guard 72 (b := ((bytesStr l2).toList == str_1.toList)) (by kernel_rfl) (fun h11 => ?_) (fun h11 => ?_)
      ·replace hs := of_if_t hs h11
       refine WP.stl 1 ?_
       refine WP.toStr (a := a5) (cp := c5) hR5.src hR5.len (by kernel_rfl) ?_
       refine WP.stl 1 ?_
       refine WP.toStr (a := a1) (cp := c1) hR1.src hR1.len (by kernel_rfl) ?_
       refine WP.stl 3 ?_
       refine WP.guard 79 (b := ((bytesStr l3).toList == (bytesStr l1).toList)) (by kernel_rfl) (fun h12 => ?_) (fun h12 => ?_)
       ·replace hs := of_if_t hs h12
        refine WP.stl 1 ?_
        replace hs := Option.bind_eq_some_iff.1 hs
        obtain ⟨d17, hk14, hs⟩ := hs
        have hS2 : 0 ∉ ([(t + 3)] : List Nat) := by simp <;> omega
        have stl2 := GW.lend_step g14 [(t + 3)]
        have hRl2 := hR6.lendTo hS2 (by simp)
        refine WP.regw (g' := GW.lend g14 [(t + 3)]) rfl ?_
        have hcal14 := P.notary_bookSigner_Key (GW.lend g14 [(t + 3)]) (t + 1) (t + 2) d14 d13 d3 a6 d14.length c6 b1 b2 hRl2 (hB2.mono stl2 (WL.no (by simp <;> omega))) (hB1.mono stl2 (WL.no (by simp <;> omega))) (by omega) (by omega) (by omega) d17 hk14
        refine WP.callC hcal14 (by kernel_rfl) ?_
        rintro _ g18 st18 rfl
        have st19 := (GW.back_step st18).lentS
        have hO2 := hR6.backTo hS2 (by simp) st18 (fun x => x)
        refine WP.regw (g' := GW.back g14 g18 [(t + 3)]) rfl ?_
        generalize GW.back g14 g18 [(t + 3)] = g19 at *
        replace hB1 := hB1.mono st19 (WL.no1 (by omega))
        replace hB2 := hB2.mono st19 (WL.no1 (by omega))
        replace hR1 := hR1.mono st19 (WL.no1 (by omega)) (WL.no1 (by omega))
        replace hR3 := hR3.mono st19 (WL.no1 (by omega)) (WL.no1 (by omega))
        replace hR5 := hR5.mono st19 (WL.no1 (by omega)) (WL.no1 (by omega))
        replace tot := tot.trans (st19.up1 (.inr (by omega)))
        clear hR6
        have hR6 : OwnS k_S_notary_entry g19 (t + 3) 86 a6 d14.length c6 d14 := hO2
        clear hO2
        replace hs := Option.bind_eq_some_iff.1 hs
        obtain ⟨d18, hk15, hs⟩ := hs
        have hcal15 := P.baizelaw07_Digest g19 5 d18 hk15
        refine WP.callC hcal15 (by kernel_rfl) ?_
        rintro _ g20 st20 rfl
        replace hB1 := hB1.mono st20 (fun x => x)
        replace hR6 := hR6.mono st20 (fun x => x) (fun x => x)
        replace hB2 := hB2.mono st20 (fun x => x)
        replace hR1 := hR1.mono st20 (fun x => x) (fun x => x)
        replace hR3 := hR3.mono st20 (fun x => x) (fun x => x)
        replace hR5 := hR5.mono st20 (fun x => x) (fun x => x)
        replace tot := tot.trans st20.pure
        refine WP.eqV (by kernel_rfl) (by kernel_rfl) (EqV.arr (d := 9998) (t := 32) (e := 5) (m := 8) (k := .u8) (x := d17) (y := d18) (by kernel_rfl) (by kernel_rfl)) ?_
        refine WP.stl 2 ?_
        refine WP.dn ?_
        refine NX.post ?_
        exact ⟨(d17.1 == d18.1), ⟨by kernel_rfl, by kernel_rfl⟩, tot, hs⟩
       replace hs := of_if_f hs h12
       refine WP.stl 6 ?_
       refine WP.dn ?_
       refine NX.post ?_
       exact ⟨false, ⟨by kernel_rfl, by kernel_rfl⟩, tot, hs⟩
      replace hs := of_if_f hs h11
      refine WP.stl 13 ?_
      refine WP.dn ?_
      refine NX.post ?_
      exact ⟨false, ⟨by kernel_rfl, by kernel_rfl⟩, tot, hs⟩
     replace hs := of_if_f hs h10
     refine WP.stl 18 ?_
     refine WP.dn ?_
     refine NX.post ?_
     exact ⟨false, ⟨by kernel_rfl, by kernel_rfl⟩, tot, hs⟩
    replace hs := of_if_f hs h9
    refine WP.stl 23 ?_
    refine WP.dn ?_
    refine NX.post ?_
    exact ⟨false, ⟨by kernel_rfl, by kernel_rfl⟩, tot, hs⟩
   replace hs := of_if_f hs h8
   refine WP.stl 27 ?_
   refine WP.dn ?_
   refine NX.post ?_
   exact ⟨false, ⟨by kernel_rfl, by kernel_rfl⟩, tot, hs⟩
  replace hs := of_if_f hs h7
  refine WP.stl 31 ?_
  refine WP.dn ?_
  refine NX.post ?_
  exact ⟨false, ⟨by kernel_rfl, by kernel_rfl⟩, tot, hs⟩
 clear tot hs hB1 hR6 hB2 hR1 hR3 hR5
 rintro tm g ⟨q1, hF, tot, hs⟩
 clear ds
 obtain ⟨ds, rfl⟩ := hF.open
 clear hF
 unfold F.baizelaw07_told.c1 at hs
 refine CP.ret ?_
 replace hs := Option.some.inj hs
 obtain rfl := hs
 exact NX.fin (v := .bool q1) (Res.still (by kernel_rfl)) tot htL rfl
def F.baizeref07_Find.l1 (l1 : List S_baizeref07_Entry) (x1 : Int) (x2 : Int) : Nat → Int → Option (Int)
 | 0, _ => none
 | k + 1, x3 => (if decide (x3 < (l1.length : Int)) = true then (if (0 : Int) ≤ x3 ∧ x3 < (l1.length : Int) then (if ((((getI l1 x3).f1) == x1) && (((getI l1 x3).f2) == x2)) = true then (some x3) else (F.baizeref07_Find.l1 l1 x1 x2 k (IntKind.i64.wrap (x3 + 1)))) else none) else (some (-1)))
def F.baizeref07_Find (l1 : List S_baizeref07_Entry) (x1 : Int) (x2 : Int) : Option (Int) := (F.baizeref07_Find.l1 l1 x1 x2 fuel 0)
theorem P.baizeref07_Find (g0 : GW) (l1 : List S_baizeref07_Entry) (x1 : Int) (x2 : Int) (a1 : Option Addr) (n1 : Nat) (c1 : Nat) (hR1 : RdS k_S_baizeref07_Entry g0 53 a1 n1 c1 l1) (o1 : Int) (hs : F.baizeref07_Find l1 x1 x2 = some o1) :
  Calls Try.prog 22 #[.slice a1 n1 c1, AG [[.int .u64 x1], [.int .u64 x2]]] g0.w (Ret NoM g0 fun v g => v = .int .i64 o1) := by
 refine calls_of (args := [.slice a1 n1 c1, AG [[.int .u64 x1], [.int .u64 x2]]]) Try.func22 rfl (0) ?_
 intro t ht htL
 refine ⟨_, rfl, ?_⟩
 refine CP.refr 19 [(0, .slice a1 n1 c1), (1, AG [[.int .u64 x1], [.int .u64 x2]])] (by kernel_rfl) (by kernel_rfl) ?_
 intro ds
 have tot : Step (fun l => NoM l ∨ t ≤ l) g0 g0 := Step.refl _ _
 unfold F.baizeref07_Find at hs
 refine CP.seqR ?_
 refine WP.alloc (T := 53) (t + 1) [[.int .u64 x1], [.int .u64 x2]] [1, 1] (by kernel_rfl) rfl ?_
 intro g1 b1 st1 hB1
 replace hR1 := hR1.mono st1 (fun x => x)
 replace tot := tot.trans st1.pure
 refine WP.stl 1 ?_
 refine WP.dn ?_
 refine NX.then_n ?_
 refine CP.seq ?_
 refine CP.seqR ?_
 refine WP.stl 1 ?_
 refine WP.dn ?_
 refine NX.then_n ?_
 refine CP.block ?_
 generalize fuel = k1 at hs
 refine CP.loop (fun k1 tm g => ∃ (x3 : Int), Fr 19 [(0, .slice a1 n1 c1), (3, .pointer (some ⟨b1, 0, none⟩)), (5, .int .i64 x3)] tm ∧ Step (fun l => NoM l ∨ t ≤ l) g0 g ∧ RdS k_S_baizeref07_Entry g 53 a1 n1 c1 l1 ∧ Box g (t + 1) b1 53 [[.int .u64 x1], [.int .u64 x2]] [1, 1] ∧ F.baizeref07_Find.l1 l1 x1 x2 k1 x3 = some o1) k1 ?_ ?_ ?_
 ·exact ⟨0, ⟨by kernel_rfl, by kernel_rfl⟩, tot, hR1, hB1, hs⟩
 ·rintro tm g ⟨x3, hF, tot, hR1, hB1, hs⟩
  exact absurd hs (by simp [F.baizeref07_Find.l1])
 clear tot hs hR1 hB1
 rintro k1 tm g ⟨x3, hF, tot, hR1, hB1, hs⟩
 clear ds
 obtain ⟨ds, rfl⟩ := hF.open
 clear hF
 unfold F.baizeref07_Find.l1 at hs
 refine CP.seq ?_
 refine CP.seqR ?_
 refine WP.stl 2 ?_
 refine WP.len (a := a1) (cp := c1) hR1.len (by kernel_rfl) ?_
 refine WP.stl 1 ?_
 refine WP.dn ?_
 refine NX.then_n ?_
 refine CP.cond (b := decide (x3 < (l1.length : Int))) (by kernel_rfl) (fun h5 => ?_) (fun h5 => ?_)
 ·replace hs := of_if_t hs h5
  refine CP.skip ?_
  refine NX.then_n ?_
  refine CP.seq ?_
  refine CP.block ?_
  refine CP.seq ?_
  by_cases hc3 : (0 : Int) ≤ x3 ∧ x3 < (l1.length : Int)
  case neg => rw [if_neg hc3] at hs; cases hs
  replace hs := of_if_p hs hc3
  obtain ⟨b4, u3, ha3⟩ := hR1.at hc3
  refine CP.drawL (by kernel_rfl) [2, 3, 4, 5] [[], [], [0, 1], [0, 1, 2], [], [0, 1, 2, 3, 4]] [⟨none, [], [], fun l g => RdS k_S_baizeref07_Entry g 53 a1 n1 c1 l1⟩, ⟨none, [], [], fun l g => Box g (t + 1) b1 53 [[.int .u64 x1], [.int .u64 x2]] [1, 1]⟩, ⟨some 0, [], [0], fun l g => l.getD 0 undef = .pointer (some ⟨b4, u3 + x3.toNat * 2, none⟩)⟩, ⟨some 1, [], [1], fun l g => l.getD 0 undef = AG [[.int .u64 ((getI l1 x3).f1)], [.int .u64 ((getI l1 x3).f2)]]⟩, ⟨some 2, [], [2], fun l g => l.getD 0 undef = AG [[.int .u64 x1], [.int .u64 x2]]⟩, ⟨some 3, [], [3], fun l g => l.getD 0 undef = .bool ((((getI l1 x3).f1) == x1) && (((getI l1 x3).f2) == x2))⟩] [[], [], [], []] [] [0, 1] [] (by kernel_rfl) (by simp) (by simp) ⟨fun _ _ _ _ st h0 hl hj hR1 => (RdS.mono (e := 53) hR1 st h0), fun _ _ _ _ st h0 hl hj hB1 => (hB1.mono st (fun h => absurd (hl _ h) (by simp))), fun _ _ _ _ st h0 hl hj e0 => e0, fun _ _ _ _ st h0 hl hj e1 => e1, fun _ _ _ _ st h0 hl hj e2 => e2, fun _ _ _ _ st h0 hl hj e3 => e3, tv⟩ ⟨hR1, hB1, tv, tv, tv, tv, tv⟩ (by kernel_rfl) (fun vs => by kernel_rfl) ?_ ?_ ?_
  ·intro j hj; exact absurd hj (by simp)
  ·intro j hj
   have hq : j = 0 ∨ j = 1 ∨ j = 2 ∨ j = 3 := by have h : j < 4 := hj; omega
   rcases hq with rfl | rfl | rfl | rfl
   ·intro vs gq stq hl hf
    obtain ⟨v0, v1, v2, v3, rfl⟩ := len_k4 hl
    have hR1 := (show RdS k_S_baizeref07_Entry gq 53 a1 n1 c1 l1 from hf _ (memI 0 rfl) (by kernel_rfl))
    refine WP.indexA (t := 25) (e := 53) (sz := 2) (cap := c1) (k := .i64) (i := x3) hR1.len ha3 (by kernel_rfl) (by kernel_rfl) hc3 ?_
    refine WP.dn (Shown.ok (v := .pointer (some ⟨b4, u3 + x3.toNat * 2, none⟩)) (by kernel_rfl) (Step.refl _ _) ?_)
    exact ⟨tv, tv, rfl, tv, tv, tv, tv⟩
   ·intro vs gq stq hl hf
    obtain ⟨v0, v1, v2, v3, rfl⟩ := len_k4 hl
    have hR1 := (show RdS k_S_baizeref07_Entry gq 53 a1 n1 c1 l1 from hf _ (memI 0 rfl) (by kernel_rfl))
    have e0 := (show v0 = .pointer (some ⟨b4, u3 + x3.toNat * 2, none⟩) from hf _ (memI 2 rfl) (by kernel_rfl))
    subst e0
    obtain ⟨cs3, hcR3, hcV3⟩ := hR1.src.view (getI_some hc3) ha3
    replace hcR3 := k_S_baizeref07_Entry.opn hcR3
    refine WP.loadV [[.int .u64 ((getI l1 x3).f1)], [.int .u64 ((getI l1 x3).f2)]] [1, 1] hcV3 hcR3 rfl (f := 0) (ty := 53) (agg := true) (size := 2) (rs := [[.int .u64 ((getI l1 x3).f1)], [.int .u64 ((getI l1 x3).f2)]]) (v := AG [[.int .u64 ((getI l1 x3).f1)], [.int .u64 ((getI l1 x3).f2)]]) (by kernel_rfl) (by kernel_rfl) (by kernel_rfl) (by kernel_rfl) ?_
    refine WP.dn (Shown.ok (v := AG [[.int .u64 ((getI l1 x3).f1)], [.int .u64 ((getI l1 x3).f2)]]) (by kernel_rfl) (Step.refl _ _) ?_)
    exact ⟨tv, tv, tv, rfl, tv, tv, tv⟩
   ·intro vs gq stq hl hf
    obtain ⟨v0, v1, v2, v3, rfl⟩ := len_k4 hl
    have hB1 := (show Box gq (t + 1) b1 53 [[.int .u64 x1], [.int .u64 x2]] [1, 1] from hf _ (memI 1 rfl) (by kernel_rfl))
    refine WP.loadB (v := AG [[.int .u64 x1], [.int .u64 x2]]) hB1 (by kernel_rfl) (by kernel_rfl) ?_
    refine WP.dn (Shown.ok (v := AG [[.int .u64 x1], [.int .u64 x2]]) (by kernel_rfl) (Step.refl _ _) ?_)
    exact ⟨tv, tv, tv, tv, rfl, tv, tv⟩
   ·intro vs gq stq hl hf
    obtain ⟨v0, v1, v2, v3, rfl⟩ := len_k4 hl
    have e1 := (show v1 = AG [[.int .u64 ((getI l1 x3).f1)], [.int .u64 ((getI l1 x3).f2)]] from hf _ (memI 3 rfl) (by kernel_rfl))
    subst e1
    have e2 := (show v2 = AG [[.int .u64 x1], [.int .u64 x2]] from hf _ (memI 4 rfl) (by kernel_rfl))
    subst e2
    refine WP.eqV (by kernel_rfl) (by kernel_rfl) (EqV.struct (d := 9999) (t := 53) (xs := [[.int .u64 ((getI l1 x3).f1)], [.int .u64 ((getI l1 x3).f2)]]) (ys := [[.int .u64 x1], [.int .u64 x2]]) (by kernel_rfl) (by kernel_rfl) (EqFi.cons (ns := [1, 1]) (ms := [1, 1]) (t' := 34) (x := .int .u64 ((getI l1 x3).f1)) (y := .int .u64 x1) rfl rfl (by kernel_rfl) (by kernel_rfl) (EqV.int (d := 9998) (k' := .u64) (by kernel_rfl)) (EqFi.one (ns := [1, 1]) (ms := [1, 1]) (t' := 34) (x := .int .u64 ((getI l1 x3).f2)) (y := .int .u64 x2) rfl rfl (by kernel_rfl) (by kernel_rfl) (EqV.int (d := 9998) (k' := .u64) (by kernel_rfl)) (Nat.le_of_ble_eq_true rfl)))) ?_
    refine WP.dn (Shown.ok (v := .bool ((((getI l1 x3).f1) == x1) && (((getI l1 x3).f2) == x2))) (by kernel_rfl) (Step.refl _ _) ?_)
    exact ⟨tv, tv, tv, tv, tv, rfl, tv⟩
  intro vs g2 st2 hl hf
  obtain ⟨v0, v1, v2, v3, rfl⟩ := len_k4 hl
  have e3 := (show v3 = .bool ((((getI l1 x3).f1) == x1) && (((getI l1 x3).f2) == x2)) from hf _ (memI 5 rfl) (by kernel_rfl))
  subst e3
  replace hR1 := hR1.mono st2.toNo (fun x => x)
  replace hB1 := hB1.mono st2.toNo (fun x => x)
  replace tot := tot.trans st2.toNo.pure
  refine NX.then_n ?_
  refine CP.refr 19 [(0, .slice a1 n1 c1), (3, .pointer (some ⟨b1, 0, none⟩)), (5, .int .i64 x3), (17, .bool ((((getI l1 x3).f1) == x1) && (((getI l1 x3).f2) == x2)))] (by kernel_rfl) (by kernel_rfl) ?_
  clear ds
  intro ds
  refine CP.cond (b := ((((getI l1 x3).f1) == x1) && (((getI l1 x3).f2) == x2))) (by kernel_rfl) (fun h6 => ?_) (fun h6 => ?_)
  ·replace hs := of_if_t hs h6
   refine CP.seqR ?_
   refine WP.stl 2 ?_
   refine WP.dn ?_
   refine NX.then_n ?_
   refine CP.ret ?_
   refine NX.block_r ?_
   refine NX.then_r ?_
   refine NX.then_r ?_
   refine NX.block_r ?_
   refine NX.then_r ?_
   replace hs := Option.some.inj hs
   obtain rfl := hs
   exact NX.fin (v := .int .i64 x3) (Res.still (by kernel_rfl)) tot htL rfl
  replace hs := of_if_f hs h6
  refine CP.skip ?_
  refine NX.block_n ?_
  refine NX.then_n ?_
  refine CP.region ?_
  refine WP.stl 3 ?_
  refine WP.dn ?_
  refine NX.post ?_
  exact ⟨(IntKind.i64.wrap (x3 + 1)), ⟨by kernel_rfl, by kernel_rfl⟩, tot, hR1, hB1, hs⟩
 replace hs := of_if_f hs h5
 refine CP.exit ?_
 refine NX.then_e ?_
 refine NX.then_e ?_
 refine NX.block_s ?_
 refine NX.then_n ?_
 refine CP.seqR ?_
 refine WP.stl 1 ?_
 refine WP.dn ?_
 refine NX.then_n ?_
 refine CP.ret ?_
 replace hs := Option.some.inj hs
 obtain rfl := hs
 exact NX.fin (v := .int .i64 (-1)) (Res.still (by kernel_rfl)) tot htL rfl
def N.baizeref07_Sign_0 : List (List Nat) := [[], [], [0, 1], [], [3], [0, 1, 2, 3, 4], [], [6], [0, 1, 2, 3, 4, 5], [0, 1, 2, 3, 4, 5, 6, 7, 8]]
def F.baizeref07_Sign (l1 : List S_baizeref07_Entry) (x1 : Int) (x2 : Int) : Option ((List S_baizeref07_Entry) × Int) := ((F.baizeref07_Find l1 x1 x2).bind fun x3 => (if decide (x3 ≥ 0) = true then (some (l1, x3)) else (if ([] : List S_baizeref07_Entry).length + l1.length ≤ 8796093022208 then (if (([] : List S_baizeref07_Entry) ++ l1).length + ([(⟨x1, x2⟩ : S_baizeref07_Entry)]).length ≤ 8796093022208 then (some (((([] : List S_baizeref07_Entry) ++ l1) ++ [(⟨x1, x2⟩ : S_baizeref07_Entry)]), (l1.length : Int))) else none) else none)))
theorem P.baizeref07_Sign (g0 : GW) (l1 : List S_baizeref07_Entry) (x1 : Int) (x2 : Int) (a1 : Option Addr) (n1 : Nat) (c1 : Nat) (hR1 : RdS k_S_baizeref07_Entry g0 53 a1 n1 c1 l1) (o1 : List S_baizeref07_Entry) (o2 : Int) (hs : F.baizeref07_Sign l1 x1 x2 = some (o1, o2)) :
  Calls Try.prog 21 #[.slice a1 n1 c1, AG [[.int .u64 x1], [.int .u64 x2]]] g0.w (Ret NoM g0 fun v g => ∃ (a_1 : Option Addr) (n_1 : Nat) (c_1 : Nat), v = .tuple #[.slice a_1 n_1 c_1, .int .i64 o2] ∧ RdS k_S_baizeref07_Entry g 53 a_1 n_1 c_1 o1) := by
 refine calls_of (args := [.slice a1 n1 c1, AG [[.int .u64 x1], [.int .u64 x2]]]) Try.func21 rfl (0) ?_
 intro t ht htL
 refine ⟨_, rfl, ?_⟩
 refine CP.refr 22 [(0, .slice a1 n1 c1), (1, AG [[.int .u64 x1], [.int .u64 x2]])] (by kernel_rfl) (by kernel_rfl) ?_
 intro ds
 have tot : Step (fun l => NoM l ∨ t ≤ l) g0 g0 := Step.refl _ _
 unfold F.baizeref07_Sign at hs
 refine CP.seqR ?_
 refine WP.alloc (T := 53) (t + 1) [[.int .u64 x1], [.int .u64 x2]] [1, 1] (by kernel_rfl) rfl ?_
 intro g1 b1 st1 hB1
 replace hR1 := hR1.mono st1 (fun x => x)
 replace tot := tot.trans st1.pure
 refine WP.stl 2 ?_
 refine WP.dn ?_
 refine NX.then_n ?_
 refine CP.seq ?_
 refine CP.seqR ?_
 refine WP.stl 1 ?_
 refine WP.loadB (v := AG [[.int .u64 x1], [.int .u64 x2]]) hB1 (by kernel_rfl) (by kernel_rfl) ?_
 replace hs := Option.bind_eq_some_iff.1 hs
 obtain ⟨x3, hk1, hs⟩ := hs
 have hcal1 := P.baizeref07_Find g1 l1 x1 x2 a1 n1 c1 hR1 x3 hk1
 refine WP.callC hcal1 (by kernel_rfl) ?_
 rintro _ g2 st2 rfl
 replace hR1 := hR1.mono st2 (fun x => x)
 replace hB1 := hB1.mono st2 (fun x => x)
 replace tot := tot.trans st2.pure
 refine WP.stl 1 ?_
 refine WP.dn ?_
 refine NX.then_n ?_
 refine CP.seqR ?_
 refine WP.stl 2 ?_
 refine WP.dn ?_
 refine NX.then_n ?_
 refine CP.cond (b := decide (x3 ≥ 0)) (by kernel_rfl) (fun h1 => ?_) (fun h1 => ?_)
 ·replace hs := of_if_t hs h1
  refine CP.seqR ?_
  refine WP.stl 4 ?_
  refine WP.dn ?_
  refine NX.then_n ?_
  refine CP.refr 22 [(4, .slice a1 n1 c1), (5, .int .i64 x3)] (by kernel_rfl) (by kernel_rfl) ?_
  clear ds
  intro ds
  refine CP.ret ?_
  refine NX.then_r ?_
  replace hs := Option.some.inj hs
  obtain ⟨rfl, rfl⟩ := Prod.mk.inj hs
  exact NX.fin (v := .tuple #[.slice a1 n1 c1, .int .i64 x3]) (Res.still (by kernel_rfl)) tot htL ⟨a1, n1, c1, rfl, hR1⟩
 replace hs := of_if_f hs h1
 refine CP.skip ?_
 refine NX.then_n ?_
 refine CP.seq ?_
 by_cases hc1 : ([] : List S_baizeref07_Entry).length + l1.length ≤ 8796093022208
 case neg => rw [if_neg hc1] at hs; cases hs
 replace hs := of_if_p hs hc1
 by_cases hc2 : (([] : List S_baizeref07_Entry) ++ l1).length + ([(⟨x1, x2⟩ : S_baizeref07_Entry)]).length ≤ 8796093022208
 case neg => rw [if_neg hc2] at hs; cases hs
 replace hs := of_if_p hs hc2
 refine CP.drawL (by kernel_rfl) [0, 2, 3, 4, 5, 7] N.baizeref07_Sign_0 [⟨none, [], [], fun l g => RdS k_S_baizeref07_Entry g 53 a1 n1 c1 l1⟩, ⟨none, [], [], fun l g => Box g (t + 1) b1 53 [[.int .u64 x1], [.int .u64 x2]] [1, 1]⟩, ⟨some 0, [0], [0], fun l g => ∃ (a2 : Option Addr), l.getD 0 undef = .slice a2 0 0 ∧ OwnS k_S_baizeref07_Entry g (t + 2) 53 a2 0 0 ([] : List S_baizeref07_Entry)⟩, ⟨some 1, [0], [1], fun l g => ∃ (a3 : Option Addr) (c2 : Nat), l.getD 0 undef = .slice a3 (0 + n1) c2 ∧ OwnS k_S_baizeref07_Entry g (t + 2) 53 a3 (0 + n1) c2 (([] : List S_baizeref07_Entry) ++ l1)⟩, ⟨some 1, [], [0], fun l g => ∃ (a2 : Option Addr), l.getD 0 undef = .slice a2 0 0⟩, ⟨some 2, [], [2], fun l g => l.getD 0 undef = AG [[.int .u64 x1], [.int .u64 x2]]⟩, ⟨some 3, [], [3], fun l g => ∃ (a4 : Option Addr), l.getD 0 undef = .slice a4 1 1 ∧ OwnS k_S_baizeref07_Entry g (t + 3) 53 a4 1 1 ([(⟨x1, x2⟩ : S_baizeref07_Entry)])⟩, ⟨some 4, [0], [4], fun l g => ∃ (a5 : Option Addr) (c3 : Nat), l.getD 0 undef = .slice a5 ((0 + n1) + 1) c3 ∧ OwnS k_S_baizeref07_Entry g (t + 2) 53 a5 ((0 + n1) + 1) c3 ((([] : List S_baizeref07_Entry) ++ l1) ++ [(⟨x1, x2⟩ : S_baizeref07_Entry)])⟩, ⟨some 4, [], [1], fun l g => ∃ (a3 : Option Addr) (c2 : Nat), l.getD 0 undef = .slice a3 (0 + n1) c2⟩, ⟨some 5, [], [5], fun l g => l.getD 0 undef = .int .i64 (l1.length : Int)⟩] [[], [0], [], [], [0], []] [(t + 2)] [1, 6] [8, 9] (by kernel_rfl) (by simp <;> omega) (by simp) ⟨fun _ _ _ _ st h0 hl hj hR1 => (RdS.mono (e := 53) hR1 st h0), fun _ _ _ _ st h0 hl hj hB1 => (hB1.mono st (fun h => absurd (hl _ h) (by simp <;> omega))), fun _ _ _ _ st h0 hl hj ⟨a2, e0, hR2⟩ => ⟨a2, e0, (hR2.mono st h0 (hj 0 (by simp) _ rfl))⟩, fun _ _ _ _ st h0 hl hj ⟨a3, c2, e1, hR3⟩ => ⟨a3, c2, e1, (hR3.mono st h0 (hj 0 (by simp) _ rfl))⟩, fun _ _ _ _ st h0 hl hj ⟨a2, e0⟩ => ⟨a2, e0⟩, fun _ _ _ _ st h0 hl hj e2 => e2, fun _ _ _ _ st h0 hl hj ⟨a4, e3, hR4⟩ => ⟨a4, e3, (hR4.mono st h0 (fun h => absurd (hl _ h) (by simp <;> omega)))⟩, fun _ _ _ _ st h0 hl hj ⟨a5, c3, e4, hR5⟩ => ⟨a5, c3, e4, (hR5.mono st h0 (hj 0 (by simp) _ rfl))⟩, fun _ _ _ _ st h0 hl hj ⟨a3, c2, e1⟩ => ⟨a3, c2, e1⟩, fun _ _ _ _ st h0 hl hj e5 => e5, tv⟩ ⟨hR1, hB1, tv, tv, tv, tv, tv, tv, tv, tv, tv⟩ (by kernel_rfl) (fun vs => by kernel_rfl) ?_ ?_ ?_
 ·intro j hj
  have hq : j = 0 ∨ j = 1 := by have h : j < 2 := hj; omega
  rcases hq with rfl | rfl
  ·intro vs gq stq hl hf
   obtain ⟨v0, v1, v2, v3, v4, v5, rfl⟩ := len_k6 hl
   obtain ⟨a5, c3, e4, hR5⟩ := (show ∃ (a5 : Option Addr) (c3 : Nat), v4 = .slice a5 ((0 + n1) + 1) c3 ∧ OwnS k_S_baizeref07_Entry gq (t + 2) 53 a5 ((0 + n1) + 1) c3 ((([] : List S_baizeref07_Entry) ++ l1) ++ [(⟨x1, x2⟩ : S_baizeref07_Entry)]) from hf _ (memI 7 rfl) (by kernel_rfl))
   subst e4
   show Option.isSome _ = true
   kernel_rfl
  ·intro vs gq stq hl hf
   obtain ⟨v0, v1, v2, v3, v4, v5, rfl⟩ := len_k6 hl
   have e5 := (show v5 = .int .i64 (l1.length : Int) from hf _ (memI 9 rfl) (by kernel_rfl))
   subst e5
   show Option.isSome _ = true
   kernel_rfl
 ·intro j hj
  have hq : j = 0 ∨ j = 1 ∨ j = 2 ∨ j = 3 ∨ j = 4 ∨ j = 5 := by have h : j < 6 := hj; omega
  rcases hq with rfl | rfl | rfl | rfl | rfl | rfl
  ·intro vs gq stq hl hf
   obtain ⟨v0, v1, v2, v3, v4, v5, rfl⟩ := len_k6 hl
   refine WP.mkSl (kd := k_S_baizeref07_Entry) (t := 25) (e := 53) (bytes := 16) (t + 2) [] ([] : List S_baizeref07_Entry) (by kernel_rfl) (by kernel_rfl) (Nat.le_of_ble_eq_true rfl) (Nat.le_of_ble_eq_true rfl) all_nil (rfl) rfl ?_
   intro g3 a2 st3 hR2
   refine WP.dn (Shown.o (v := .slice a2 0 0) st3.pure ?_)
   exact ⟨tv, tv, ⟨a2, rfl, hR2⟩, tv, tv, tv, tv, tv, tv, tv, tv⟩
  ·intro vs gq stq hl hf
   obtain ⟨v0, v1, v2, v3, v4, v5, rfl⟩ := len_k6 hl
   have hR1 := (show RdS k_S_baizeref07_Entry gq 53 a1 n1 c1 l1 from hf _ (memI 0 rfl) (by kernel_rfl))
   obtain ⟨a2, e0, hR2⟩ := (show ∃ (a2 : Option Addr), v0 = .slice a2 0 0 ∧ OwnS k_S_baizeref07_Entry gq (t + 2) 53 a2 0 0 ([] : List S_baizeref07_Entry) from hf _ (memI 2 rfl) (by kernel_rfl))
   subst e0
   refine WP.append (kd := k_S_baizeref07_Entry) (t := 25) (e := 53) (bytes := 16) (a2 := a1) (c2 := c1) hR2 hR1.src hR1.len (by kernel_rfl) (by kernel_rfl) (by omega) (by simp only [maxLen]; omega) (by omega) ?_
   intro g4 a3 c2 st4 hR3
   refine WP.dn (Shown.o (v := .slice a3 (0 + n1) c2) st4 ?_)
   exact ⟨tv, tv, tv, ⟨a3, c2, rfl, hR3⟩, ⟨a2, rfl⟩, tv, tv, tv, tv, tv, tv⟩
  ·intro vs gq stq hl hf
   obtain ⟨v0, v1, v2, v3, v4, v5, rfl⟩ := len_k6 hl
   have hB1 := (show Box gq (t + 1) b1 53 [[.int .u64 x1], [.int .u64 x2]] [1, 1] from hf _ (memI 1 rfl) (by kernel_rfl))
   refine WP.loadB (v := AG [[.int .u64 x1], [.int .u64 x2]]) hB1 (by kernel_rfl) (by kernel_rfl) ?_
   refine WP.dn (Shown.ok (v := AG [[.int .u64 x1], [.int .u64 x2]]) (by kernel_rfl) (Step.refl _ _) ?_)
   exact ⟨tv, tv, tv, tv, tv, rfl, tv, tv, tv, tv, tv⟩
  ·intro vs gq stq hl hf
   obtain ⟨v0, v1, v2, v3, v4, v5, rfl⟩ := len_k6 hl
   have e2 := (show v2 = AG [[.int .u64 x1], [.int .u64 x2]] from hf _ (memI 5 rfl) (by kernel_rfl))
   subst e2
   refine WP.mkSl (kd := k_S_baizeref07_Entry) (t := 25) (e := 53) (bytes := 16) (t + 3) [AG [[.int .u64 x1], [.int .u64 x2]]] [(⟨x1, x2⟩ : S_baizeref07_Entry)] (by kernel_rfl) (by kernel_rfl) (Nat.le_of_ble_eq_true rfl) (Nat.le_of_ble_eq_true rfl) (all_cons rfl all_nil) (⟨_, _, rfl, (k_S_baizeref07_Entry.mk rfl rfl), rfl⟩) rfl ?_
   intro g5 a4 st5 hR4
   refine WP.dn (Shown.o (v := .slice a4 1 1) st5.pure ?_)
   exact ⟨tv, tv, tv, tv, tv, tv, ⟨a4, rfl, hR4⟩, tv, tv, tv, tv⟩
  ·intro vs gq stq hl hf
   obtain ⟨v0, v1, v2, v3, v4, v5, rfl⟩ := len_k6 hl
   obtain ⟨a3, c2, e1, hR3⟩ := (show ∃ (a3 : Option Addr) (c2 : Nat), v1 = .slice a3 (0 + n1) c2 ∧ OwnS k_S_baizeref07_Entry gq (t + 2) 53 a3 (0 + n1) c2 (([] : List S_baizeref07_Entry) ++ l1) from hf _ (memI 3 rfl) (by kernel_rfl))
   subst e1
   obtain ⟨a4, e3, hR4⟩ := (show ∃ (a4 : Option Addr), v3 = .slice a4 1 1 ∧ OwnS k_S_baizeref07_Entry gq (t + 3) 53 a4 1 1 ([(⟨x1, x2⟩ : S_baizeref07_Entry)]) from hf _ (memI 6 rfl) (by kernel_rfl))
   subst e3
   refine WP.append (kd := k_S_baizeref07_Entry) (t := 25) (e := 53) (bytes := 16) (a2 := a4) (c2 := 1) hR3 hR4.src hR4.len (by kernel_rfl) (by kernel_rfl) (by omega) (by simp only [maxLen]; omega) (by omega) ?_
   intro g6 a5 c3 st6 hR5
   refine WP.dn (Shown.o (v := .slice a5 ((0 + n1) + 1) c3) st6 ?_)
   exact ⟨tv, tv, tv, tv, tv, tv, tv, ⟨a5, c3, rfl, hR5⟩, ⟨a3, c2, rfl⟩, tv, tv⟩
  ·intro vs gq stq hl hf
   obtain ⟨v0, v1, v2, v3, v4, v5, rfl⟩ := len_k6 hl
   have hR1 := (show RdS k_S_baizeref07_Entry gq 53 a1 n1 c1 l1 from hf _ (memI 0 rfl) (by kernel_rfl))
   refine WP.len (a := a1) (cp := c1) hR1.len (by kernel_rfl) ?_
   refine WP.dn (Shown.ok (v := .int .i64 (l1.length : Int)) (by kernel_rfl) (Step.refl _ _) ?_)
   exact ⟨tv, tv, tv, tv, tv, tv, tv, tv, tv, rfl, tv⟩
 intro vs g7 st7 hl hf
 obtain ⟨v0, v1, v2, v3, v4, v5, rfl⟩ := len_k6 hl
 obtain ⟨a5, c3, e4, hR5⟩ := (show ∃ (a5 : Option Addr) (c3 : Nat), v4 = .slice a5 ((0 + n1) + 1) c3 ∧ OwnS k_S_baizeref07_Entry g7 (t + 2) 53 a5 ((0 + n1) + 1) c3 ((([] : List S_baizeref07_Entry) ++ l1) ++ [(⟨x1, x2⟩ : S_baizeref07_Entry)]) from hf _ (memI 7 rfl) (by kernel_rfl))
 subst e4
 have e5 := (show v5 = .int .i64 (l1.length : Int) from hf _ (memI 9 rfl) (by kernel_rfl))
 subst e5
 replace tot := tot.trans (st7.up1 (.inr (by omega)))
 refine NX.then_n ?_
 refine CP.refr 22 [(4, .slice a5 ((0 + n1) + 1) c3), (5, .int .i64 (l1.length : Int))] (by kernel_rfl) (by kernel_rfl) ?_
 clear ds
 intro ds
 refine CP.ret ?_
 obtain ⟨g8, hw1, st8, hnew⟩ := hR5.freeze (by omega)
 refine NX.regw hw1 ?_
 replace tot := tot.trans (st8.up1 (.inr (by omega)))
 clear hR5
 have hR5 := hnew
 clear hnew
 replace hs := Option.some.inj hs
 obtain ⟨rfl, rfl⟩ := Prod.mk.inj hs
 exact NX.fin (v := .tuple #[.slice a5 ((0 + n1) + 1) c3, .int .i64 (l1.length : Int)]) (Res.still (by kernel_rfl)) tot htL ⟨a5, ((0 + n1) + 1), c3, rfl, hR5⟩
def F.baizeref07_Bytes (x1 : Int) : Option (ByteArray) := (some (bytesStr ([(IntKind.u8.wrap (x1.tmod 256)), (IntKind.u8.wrap (IntKind.i64.wrap (x1.tdiv 256)))])))
theorem P.baizeref07_Bytes (g0 : GW) (x1 : Int) (o1 : ByteArray) (hs : F.baizeref07_Bytes x1 = some o1) :
  Calls Try.prog 23 #[.int .i64 x1] g0.w (Ret NoM g0 fun v g => v = .string o1) := by
 refine calls_of (args := [.int .i64 x1]) Try.func23 rfl (0) ?_
 intro t ht htL
 refine ⟨_, rfl, ?_⟩
 refine CP.refr 11 [(0, .int .i64 x1)] (by kernel_rfl) (by kernel_rfl) ?_
 intro ds
 have tot : Step (fun l => NoM l ∨ t ≤ l) g0 g0 := Step.refl _ _
 unfold F.baizeref07_Bytes at hs
 refine CP.seqR ?_
 refine WP.stl 1 ?_
 refine WP.dn ?_
 refine NX.then_n ?_
 refine CP.seqR ?_
 refine WP.stl 6 ?_
 refine WP.mkSl (kd := (Kd.int .u8)) (t := 37) (e := 5) (bytes := 1) (t + 1) [.int .u8 (IntKind.u8.wrap (x1.tmod 256)), .int .u8 (IntKind.u8.wrap (IntKind.i64.wrap (x1.tdiv 256)))] [(IntKind.u8.wrap (x1.tmod 256)), (IntKind.u8.wrap (IntKind.i64.wrap (x1.tdiv 256)))] (by kernel_rfl) (by kernel_rfl) (Nat.le_of_ble_eq_true rfl) (Nat.le_of_ble_eq_true rfl) (all_cons rfl (all_cons rfl all_nil)) (⟨_, _, rfl, (by exact rfl), ⟨_, _, rfl, (by exact rfl), rfl⟩⟩) rfl ?_
 intro g1 a1 st1 hR1
 replace tot := tot.trans st1.pure
 refine WP.toStr (a := a1) (cp := 2) hR1.src hR1.len (by kernel_rfl) ?_
 refine WP.stl 1 ?_
 refine WP.dn ?_
 refine NX.then_n ?_
 refine CP.ret ?_
 replace hs := Option.some.inj hs
 obtain rfl := hs
 exact NX.fin (v := .string (bytesStr ([(IntKind.u8.wrap (x1.tmod 256)), (IntKind.u8.wrap (IntKind.i64.wrap (x1.tdiv 256)))]))) (Res.still (by kernel_rfl)) tot htL rfl
def N.baizelaw07_book_0 : List (List Nat) := [[], [0], [0, 1], [0, 1, 2], [0, 1, 2, 3], [0, 1, 2], [0, 1, 2], [0, 1, 2, 5, 6], [0, 1, 2, 5, 6, 7], [0, 1, 2, 5, 6, 7, 8], [0, 1, 2, 5, 6, 7, 8, 9], [0, 1, 2, 3, 4, 5, 6, 7, 8, 9, 10], [0, 1, 2, 3, 4, 5, 6, 7, 8, 9, 10, 11], [0, 1, 2, 3, 4, 5, 6, 7, 8, 9, 10, 11, 12]]
def N.baizelaw07_book_1 : List (List Nat) := [[], [], [], [1, 2], [1, 2, 3], [1, 2, 3, 4], [1, 2, 3, 4, 5], [1, 2, 3, 4, 5, 6], [0], [0, 8], [0, 8, 9], [0, 1, 2, 3, 4, 5, 6, 7, 8, 9, 10], [0, 1, 2, 3, 4, 5, 6, 7, 8, 9, 10, 11], [0, 1, 2, 3, 4, 5, 6, 7, 8, 9, 10, 11, 12], [0, 1, 2, 3, 4, 5, 6, 7, 8, 9, 10, 11, 12], [0, 1, 2, 3, 4, 5, 6, 7, 8, 9, 10, 11, 12, 13], [0, 1, 2, 3, 4, 5, 6, 7, 8, 9, 10, 11, 12, 13, 14, 15]]
def N.baizelaw07_book_2 : List (List Nat) := [[], [], [], [1, 2], [1, 2, 3], [1, 2, 3, 4], [1, 2, 3, 4, 5], [], [], [7, 8], [7, 8, 9], [7, 8, 9, 10], [7, 8, 9, 10, 11], [1, 2, 3, 4, 5, 6, 7, 8, 9, 10, 11, 12], [0, 1, 2, 3, 4, 5, 6, 7, 8, 9, 10, 11, 12, 13], [0, 1, 2, 3, 4, 5, 6, 7, 8, 9, 10, 11, 12, 13, 14], [0, 1, 2, 3, 4, 5, 6, 7, 8, 9, 10, 11, 12, 13, 14, 15], [0, 1, 2, 3, 4, 5, 6, 7, 8, 9, 10, 11, 12, 13, 14, 15], [0, 1, 2, 3, 4, 5, 6, 7, 8, 9, 10, 11, 12, 13, 14, 15, 16], [0, 1, 2, 3, 4, 5, 6, 7, 8, 9, 10, 11, 12, 13, 14, 15, 16, 17, 18]]
def F.baizelaw07_book.c1 (nx1 : (List S_notary_entry) → (List (S_notary_entry × Int)) → (List S_baizeref07_Entry) → Int → Option ((List S_notary_entry) × (List (S_notary_entry × Int)) × (List S_baizeref07_Entry) × Bool)) (x3 : Int) (d27 : (List (S_notary_entry × Int))) (d28 : (List S_notary_entry)) (l11 : List S_baizeref07_Entry) (q3 : Bool) : Option ((List S_notary_entry) × (List (S_notary_entry × Int)) × (List S_baizeref07_Entry) × Bool) := (if q3 = true then none else (nx1 d28 d27 l11 (IntKind.i64.wrap (x3 + 1))))
def N.baizelaw07_book_3 : List (List Nat) := [[], [0], [0, 1], [0, 1, 2], [0, 1, 2, 3], [0, 1, 2], [0, 1, 2, 5], [0, 1, 2, 3, 4, 5, 6], [0, 1, 2, 3, 4, 5, 6, 7]]
def F.baizelaw07_book.l1 (l1 : List S_baizelaw07_Entry) : Nat → (List S_notary_entry) → (List (S_notary_entry × Int)) → (List S_baizeref07_Entry) → Int → Option ((List S_notary_entry) × (List (S_notary_entry × Int)) × (List S_baizeref07_Entry) × Bool)
 | 0, _, _, _, _ => none
 | k + 1, l4, w1, l5, x3 => (if decide (x3 < (l1.length : Int)) = true then (if (0 : Int) ≤ x3 ∧ x3 < (l1.length : Int) then ((F.baizelaw07_Digest (IntKind.u64.wrap ((getI l1 x3).f1))).bind fun d20 => ((F.notary_Book_Signer l4 w1 d20).bind fun d21 => ((F.notary_bookSigner_Key l4 w1 d21).bind fun d24 => (if (0 : Int) ≤ x3 ∧ x3 < (l1.length : Int) then ((F.baizelaw07_Digest (IntKind.u64.wrap ((getI l1 x3).f1))).bind fun d25 => (if (!(d24.1 == d25.1)) = true then none else (if (0 : Int) ≤ x3 ∧ x3 < (l1.length : Int) then ((F.baizelaw07_Digest (IntKind.u64.wrap ((getI l1 x3).f2))).bind fun d26 => ((F.notary_bookSigner_Sign l4 w1 d21 d26).bind fun (l10, x7, d27, d28) => (if (0 : Int) ≤ x3 ∧ x3 < (l1.length : Int) then (if (0 : Int) ≤ x3 ∧ x3 < (l1.length : Int) then ((F.baizeref07_Sign l5 (IntKind.u64.wrap ((getI l1 x3).f1)) (IntKind.u64.wrap ((getI l1 x3).f2))).bind fun (l11, x8) => (if (x7 != 0) = true then (F.baizelaw07_book.c1 (F.baizelaw07_book.l1 l1 k) x3 d27 d28 l11 true) else ((F.baizeref07_Bytes x8).bind fun s4 => (F.baizelaw07_book.c1 (F.baizelaw07_book.l1 l1 k) x3 d27 d28 l11 (!((bytesStr l10).toList == s4.toList)))))) else none) else none))) else none))) else none)))) else none) else (some (l4, w1, l5, true)))
def F.baizelaw07_book (l1 : List S_baizelaw07_Entry) : Option ((List S_notary_entry) × (List (S_notary_entry × Int)) × (List S_baizeref07_Entry) × Bool) := ((F.notary_NewBook).bind fun d1 => (F.baizelaw07_book.l1 l1 fuel ([]) d1 ([]) 0))
theorem P.baizelaw07_book (g0 : GW) (r0 : Nat) (r1 : Nat) (r2 : Nat) (l1 : List S_baizelaw07_Entry) (a1 : Option Addr) (n1 : Nat) (c1 : Nat) (hR1 : RdS k_S_baizelaw07_Entry g0 36 a1 n1 c1 l1) (o1 : List S_notary_entry) (o2 : (List (S_notary_entry × Int))) (o3 : List S_baizeref07_Entry) (o4 : Bool) (hs : F.baizelaw07_book l1 = some (o1, o2, o3, o4)) :
  Calls Try.prog 11 #[.slice a1 n1 c1] g0.w (Ret NoM g0 fun v g => ∃ (b_1 : Nat) (a_2 : Option Addr) (n_2 : Nat) (c_2 : Nat) (b_5 : Nat) (a_6 : Option Addr) (n_6 : Nat) (c_6 : Nat), v = .tuple #[.pointer (some ⟨b_1, 0, none⟩), .slice a_6 n_6 c_6, .bool o4] ∧ Box g r0 b_1 84 [[.slice a_2 n_2 c_2], [.map (some b_5)]] [1, 1] ∧ OwnS k_S_notary_entry g r1 86 a_2 n_2 c_2 o1 ∧ MapB g r2 b_5 kv_S_notary_entry (Value.int .i64) o2 ∧ RdS k_S_baizeref07_Entry g 53 a_6 n_6 c_6 o3) := by
 refine calls_of (args := [.slice a1 n1 c1]) Try.func11 rfl (r0 + r1 + r2 + 0) ?_
 intro t ht htL
 refine ⟨_, rfl, ?_⟩
 refine CP.refr 90 [(0, .slice a1 n1 c1)] (by kernel_rfl) (by kernel_rfl) ?_
 intro ds
 have tot : Step (fun l => NoM l ∨ t ≤ l) g0 g0 := Step.refl _ _
 unfold F.baizelaw07_book at hs
 refine CP.seqR ?_
 refine WP.stl 3 ?_
 refine WP.dn ?_
 refine NX.then_n ?_
 refine CP.seqR ?_
 replace hs := Option.bind_eq_some_iff.1 hs
 obtain ⟨d1, hk1, hs⟩ := hs
 have hcal1 := P.notary_NewBook g0 (t + 1) (t + 2) d1 hk1
 refine WP.callC hcal1 (by kernel_rfl) ?_
 rintro _ g1 st1 ⟨b1, b2, rfl, hB1, hB2⟩
 replace hR1 := hR1.mono st1 (fun x => x)
 replace tot := tot.trans st1.pure
 refine WP.stl 1 ?_
 refine WP.dn ?_
 refine NX.then_n ?_
 refine CP.seqR ?_
 refine WP.stl 1 ?_
 refine WP.dn ?_
 refine NX.then_n ?_
 refine CP.seq ?_
 refine CP.seqR ?_
 refine WP.stl 2 ?_
 refine WP.dn ?_
 refine NX.then_n ?_
 refine CP.cond_f (by kernel_rfl) ?_
 refine CP.skip ?_
 refine NX.then_n ?_
 refine CP.seq ?_
 refine CP.seqR ?_
 refine WP.stl 1 ?_
 refine WP.dn ?_
 refine NX.then_n ?_
 refine CP.block ?_
 generalize fuel = k1 at hs
 refine CP.loop (fun k1 tm g => ∃ (l4 : List S_notary_entry) (a5 : Option Addr) (n5 : Nat) (c5 : Nat) (w1 : (List (S_notary_entry × Int))) (l5 : List S_baizeref07_Entry) (a6 : Option Addr) (n6 : Nat) (c6 : Nat) (x3 : Int), Fr 90 [(0, .slice a1 n1 c1), (5, .pointer (some ⟨b1, 0, none⟩)), (6, .slice a6 n6 c6), (7, .int .i64 x3)] tm ∧ Step (fun l => NoM l ∨ t ≤ l) g0 g ∧ RdS k_S_baizelaw07_Entry g 36 a1 n1 c1 l1 ∧ Box g (t + 1) b1 84 [[.slice a5 n5 c5], [.map (some b2)]] [1, 1] ∧ OwnS k_S_notary_entry g (t + 3) 86 a5 n5 c5 l4 ∧ MapB g (t + 2) b2 kv_S_notary_entry (Value.int .i64) w1 ∧ RdS k_S_baizeref07_Entry g 53 a6 n6 c6 l5 ∧ F.baizelaw07_book.l1 l1 k1 l4 w1 l5 x3 = some (o1, o2, o3, o4)) k1 ?_ ?_ ?_
 ·exact ⟨[], none, 0, 0, d1, [], none, 0, 0, 0, ⟨by kernel_rfl, by kernel_rfl⟩, tot, hR1, hB1, (OwnS.nil _ _ _ _), hB2, (RdS.nil _ _ _), hs⟩
 ·rintro tm g ⟨l4, a5, n5, c5, w1, l5, a6, n6, c6, x3, hF, tot, hR1, hB1, hR5, hB2, hR6, hs⟩
  exact absurd hs (by simp [F.baizelaw07_book.l1])
 clear tot hs hR1 hB1 hB2
 rintro k1 tm g ⟨l4, a5, n5, c5, w1, l5, a6, n6, c6, x3, hF, tot, hR1, hB1, hR5, hB2, hR6, hs⟩
 clear ds
 obtain ⟨ds, rfl⟩ := hF.open
 clear hF
 unfold F.baizelaw07_book.l1 at hs
 refine CP.seq ?_
 refine CP.seqR ?_
 refine WP.stl 2 ?_
 refine WP.len (a := a1) (cp := c1) hR1.len (by kernel_rfl) ?_
 refine WP.stl 1 ?_
 refine WP.dn ?_
 refine NX.then_n ?_
 refine CP.cond (b := decide (x3 < (l1.length : Int))) (by kernel_rfl) (fun h9 => ?_) (fun h9 => ?_)
 ·replace hs := of_if_t hs h9
  refine CP.skip ?_
  refine NX.then_n ?_
  refine CP.seq ?_
  refine CP.block ?_
  refine CP.seqR ?_
  refine WP.stl 3 ?_
  by_cases hc13 : (0 : Int) ≤ x3 ∧ x3 < (l1.length : Int)
  case neg => rw [if_neg hc13] at hs; cases hs
  replace hs := of_if_p hs hc13
  obtain ⟨b15, u13, ha13⟩ := hR1.at hc13
  refine WP.indexA (t := 22) (e := 36) (sz := 2) (cap := c1) (k := .i64) (i := x3) hR1.len ha13 (by kernel_rfl) (by kernel_rfl) hc13 ?_
  refine WP.stl 1 ?_
  obtain ⟨cs13, hcR13, hcV13⟩ := hR1.src.view (getI_some hc13) ha13
  replace hcR13 := k_S_baizelaw07_Entry.opn hcR13
  refine WP.loadV [[.int .u8 ((getI l1 x3).f1)], [.int .u8 ((getI l1 x3).f2)]] [1, 1] hcV13 hcR13 rfl (f := 0) (ty := 5) (agg := false) (size := 1) (rs := [[.int .u8 ((getI l1 x3).f1)]]) (v := .int .u8 ((getI l1 x3).f1)) (by kernel_rfl) (by kernel_rfl) (by kernel_rfl) (by kernel_rfl) ?_
  refine WP.stl 1 ?_
  replace hs := Option.bind_eq_some_iff.1 hs
  obtain ⟨d20, hk22, hs⟩ := hs
  have hcal22 := P.baizelaw07_Digest g (IntKind.u64.wrap ((getI l1 x3).f1)) d20 hk22
  refine WP.callC hcal22 (by kernel_rfl) ?_
  rintro _ g25 st25 rfl
  replace hR1 := hR1.mono st25 (fun x => x)
  replace hB1 := hB1.mono st25 (fun x => x)
  replace hR5 := hR5.mono st25 (fun x => x) (fun x => x)
  replace hB2 := hB2.mono st25 (fun x => x)
  replace hR6 := hR6.mono st25 (fun x => x)
  replace tot := tot.trans st25.pure
  replace hs := Option.bind_eq_some_iff.1 hs
  obtain ⟨d21, hk23, hs⟩ := hs
  have hS4 : 0 ∉ ([(t + 3)] : List Nat) := by simp <;> omega
  have stl4 := GW.lend_step g25 [(t + 3)]
  have hRl4 := hR5.lendTo hS4 (by simp)
  refine WP.regw (g' := GW.lend g25 [(t + 3)]) rfl ?_
  have hcal23 := P.notary_Book_Signer (GW.lend g25 [(t + 3)]) (t + 1) (t + 2) l4 w1 d20 a5 n5 c5 b1 b2 hRl4 (hB2.mono stl4 (WL.no (by simp <;> omega))) (hB1.mono stl4 (WL.no (by simp <;> omega))) (by omega) (by omega) (by omega) d21 hk23
  refine WP.callC hcal23 (by kernel_rfl) ?_
  rintro _ g26 st26 rfl
  have st27 := (GW.back_step st26).lentS
  have hO4 := hR5.backTo hS4 (by simp) st26 (fun x => x)
  refine WP.regw (g' := GW.back g25 g26 [(t + 3)]) rfl ?_
  generalize GW.back g25 g26 [(t + 3)] = g27 at *
  replace hR1 := hR1.mono st27 (WL.no1 (by omega))
  replace hB1 := hB1.mono st27 (WL.no1 (by omega))
  replace hB2 := hB2.mono st27 (WL.no1 (by omega))
  replace hR6 := hR6.mono st27 (WL.no1 (by omega))
  replace tot := tot.trans (st27.up1 (.inr (by omega)))
  clear hR5
  have hR5 : OwnS k_S_notary_entry g27 (t + 3) 86 a5 n5 c5 l4 := hO4
  clear hO4
  refine WP.stl 1 ?_
  refine WP.dn ?_
  refine NX.then_n ?_
  refine CP.refr 90 [(0, .slice a1 n1 c1), (5, .pointer (some ⟨b1, 0, none⟩)), (6, .slice a6 n6 c6), (7, .int .i64 x3), (8, .iface 79 (AG [[.pointer (some ⟨b1, 0, none⟩)], encA .u8 d21]))] (by kernel_rfl) (by kernel_rfl) ?_
  clear ds
  intro ds
  refine CP.seq ?_
  refine CP.seq ?_
  replace hs := Option.bind_eq_some_iff.1 hs
  obtain ⟨d24, hk26, hs⟩ := hs
  by_cases hc15 : (0 : Int) ≤ x3 ∧ x3 < (l1.length : Int)
  case neg => rw [if_neg hc15] at hs; cases hs
  replace hs := of_if_p hs hc15
  replace hs := Option.bind_eq_some_iff.1 hs
  obtain ⟨d25, hk27, hs⟩ := hs
  obtain ⟨b17, u15, ha15⟩ := hR1.at hc15
  refine CP.drawL (by kernel_rfl) [4, 7, 9, 11, 12] N.baizelaw07_book_0 [⟨none, [], [], fun l g => RdS k_S_baizelaw07_Entry g 36 a1 n1 c1 l1⟩, ⟨none, [], [], fun l g => Box g (t + 1) b1 84 [[.slice a5 n5 c5], [.map (some b2)]] [1, 1]⟩, ⟨none, [0], [], fun l g => OwnS k_S_notary_entry g (t + 3) 86 a5 n5 c5 l4⟩, ⟨none, [], [], fun l g => MapB g (t + 2) b2 kv_S_notary_entry (Value.int .i64) w1⟩, ⟨some 0, [], [0], fun l g => l.getD 0 undef = AG [encA .u8 d24]⟩, ⟨some 0, [0], [], fun l g => OwnS k_S_notary_entry g (t + 3) 86 a5 n5 c5 l4⟩, ⟨some 1, [], [1], fun l g => l.getD 0 undef = .pointer (some ⟨b17, u15 + x3.toNat * 2, none⟩)⟩, ⟨some 2, [], [2], fun l g => l.getD 0 undef = .int .u8 ((getI l1 x3).f1)⟩, ⟨some 3, [], [3], fun l g => l.getD 0 undef = AG [encA .u8 d25]⟩, ⟨some 4, [], [4], fun l g => l.getD 0 undef = .bool (!(d24.1 == d25.1))⟩] [[0], [], [], [], []] [(t + 3)] [0, 1, 2, 3, 5, 6] [8, 10, 13] (by kernel_rfl) (by simp <;> omega) (by simp) ⟨fun _ _ _ _ st h0 hl hj hR1 => (RdS.mono (e := 36) hR1 st h0), fun _ _ _ _ st h0 hl hj hB1 => (hB1.mono st (fun h => absurd (hl _ h) (by simp <;> omega))), fun _ _ _ _ st h0 hl hj hR5 => (hR5.mono st h0 (hj 0 (by simp) _ rfl)), fun _ _ _ _ st h0 hl hj hB2 => (hB2.mono st (fun h => absurd (hl _ h) (by simp <;> omega))), fun _ _ _ _ st h0 hl hj e0 => e0, fun _ _ _ _ st h0 hl hj hR5 => (hR5.mono st h0 (hj 0 (by simp) _ rfl)), fun _ _ _ _ st h0 hl hj e1 => e1, fun _ _ _ _ st h0 hl hj e2 => e2, fun _ _ _ _ st h0 hl hj e3 => e3, fun _ _ _ _ st h0 hl hj e4 => e4, tv⟩ ⟨hR1, hB1, hR5, hB2, tv, tv, tv, tv, tv, tv, tv⟩ (by kernel_rfl) (fun vs => by kernel_rfl) ?_ ?_ ?_
  ·intro j hj
   have hq : j = 0 ∨ j = 1 ∨ j = 2 := by have h : j < 3 := hj; omega
   rcases hq with rfl | rfl | rfl
   ·intro vs gq stq hl hf
    obtain ⟨v0, v1, v2, v3, v4, rfl⟩ := len_k5 hl
    have e1 := (show v1 = .pointer (some ⟨b17, u15 + x3.toNat * 2, none⟩) from hf _ (memI 6 rfl) (by kernel_rfl))
    subst e1
    show Option.isSome _ = true
    kernel_rfl
   ·intro vs gq stq hl hf
    obtain ⟨v0, v1, v2, v3, v4, rfl⟩ := len_k5 hl
    have e2 := (show v2 = .int .u8 ((getI l1 x3).f1) from hf _ (memI 7 rfl) (by kernel_rfl))
    subst e2
    show Option.isSome _ = true
    kernel_rfl
   ·intro vs gq stq hl hf
    obtain ⟨v0, v1, v2, v3, v4, rfl⟩ := len_k5 hl
    have e4 := (show v4 = .bool (!(d24.1 == d25.1)) from hf _ (memI 9 rfl) (by kernel_rfl))
    subst e4
    show Option.isSome _ = true
    kernel_rfl
  ·intro j hj
   have hq : j = 0 ∨ j = 1 ∨ j = 2 ∨ j = 3 ∨ j = 4 := by have h : j < 5 := hj; omega
   rcases hq with rfl | rfl | rfl | rfl | rfl
   ·intro vs gq stq hl hf
    obtain ⟨v0, v1, v2, v3, v4, rfl⟩ := len_k5 hl
    have hB1 := (show Box gq (t + 1) b1 84 [[.slice a5 n5 c5], [.map (some b2)]] [1, 1] from hf _ (memI 1 rfl) (by kernel_rfl))
    have hR5 := (show OwnS k_S_notary_entry gq (t + 3) 86 a5 n5 c5 l4 from hf _ (memI 2 rfl) (by kernel_rfl))
    have hB2 := (show MapB gq (t + 2) b2 kv_S_notary_entry (Value.int .i64) w1 from hf _ (memI 3 rfl) (by kernel_rfl))
    have hS6 : 0 ∉ ([(t + 3)] : List Nat) := by simp <;> omega
    have stl6 := GW.lend_step gq [(t + 3)]
    have hRl6 := hR5.lendTo hS6 (by simp)
    refine WP.regw (g' := GW.lend gq [(t + 3)]) rfl ?_
    have hcal26 := P.notary_bookSigner_Key (GW.lend gq [(t + 3)]) (t + 1) (t + 2) l4 w1 d21 a5 n5 c5 b1 b2 hRl6 (hB2.mono stl6 (WL.no (by simp <;> omega))) (hB1.mono stl6 (WL.no (by simp <;> omega))) (by omega) (by omega) (by omega) d24 hk26
    refine WP.callC hcal26 (by kernel_rfl) ?_
    rintro _ g31 st31 rfl
    have st32 := (GW.back_step st31).lentS
    have hO6 := hR5.backTo hS6 (by simp) st31 (fun x => x)
    refine WP.regw (g' := GW.back gq g31 [(t + 3)]) rfl ?_
    generalize GW.back gq g31 [(t + 3)] = g32 at *
    refine WP.dn (Shown.o (v := AG [encA .u8 d24]) st32 ?_)
    exact ⟨tv, tv, tv, tv, rfl, hO6, tv, tv, tv, tv, tv⟩
   ·intro vs gq stq hl hf
    obtain ⟨v0, v1, v2, v3, v4, rfl⟩ := len_k5 hl
    have hR1 := (show RdS k_S_baizelaw07_Entry gq 36 a1 n1 c1 l1 from hf _ (memI 0 rfl) (by kernel_rfl))
    refine WP.indexA (t := 22) (e := 36) (sz := 2) (cap := c1) (k := .i64) (i := x3) hR1.len ha15 (by kernel_rfl) (by kernel_rfl) hc15 ?_
    refine WP.dn (Shown.ok (v := .pointer (some ⟨b17, u15 + x3.toNat * 2, none⟩)) (by kernel_rfl) (Step.refl _ _) ?_)
    exact ⟨tv, tv, tv, tv, tv, tv, rfl, tv, tv, tv, tv⟩
   ·intro vs gq stq hl hf
    obtain ⟨v0, v1, v2, v3, v4, rfl⟩ := len_k5 hl
    have hR1 := (show RdS k_S_baizelaw07_Entry gq 36 a1 n1 c1 l1 from hf _ (memI 0 rfl) (by kernel_rfl))
    have e1 := (show v1 = .pointer (some ⟨b17, u15 + x3.toNat * 2, none⟩) from hf _ (memI 6 rfl) (by kernel_rfl))
    subst e1
    obtain ⟨cs15, hcR15, hcV15⟩ := hR1.src.view (getI_some hc15) ha15
    replace hcR15 := k_S_baizelaw07_Entry.opn hcR15
    refine WP.loadV [[.int .u8 ((getI l1 x3).f1)], [.int .u8 ((getI l1 x3).f2)]] [1, 1] hcV15 hcR15 rfl (f := 0) (ty := 5) (agg := false) (size := 1) (rs := [[.int .u8 ((getI l1 x3).f1)]]) (v := .int .u8 ((getI l1 x3).f1)) (by kernel_rfl) (by kernel_rfl) (by kernel_rfl) (by kernel_rfl) ?_
    refine WP.dn (Shown.ok (v := .int .u8 ((getI l1 x3).f1)) (by kernel_rfl) (Step.refl _ _) ?_)
    exact ⟨tv, tv, tv, tv, tv, tv, tv, rfl, tv, tv, tv⟩
   ·intro vs gq stq hl hf
    obtain ⟨v0, v1, v2, v3, v4, rfl⟩ := len_k5 hl
    have e2 := (show v2 = .int .u8 ((getI l1 x3).f1) from hf _ (memI 7 rfl) (by kernel_rfl))
    subst e2
    have hcal27 := P.baizelaw07_Digest gq (IntKind.u64.wrap ((getI l1 x3).f1)) d25 hk27
    refine WP.callC hcal27 (by kernel_rfl) ?_
    rintro _ g33 st33 rfl
    refine WP.dn (Shown.o (v := AG [encA .u8 d25]) st33.pure ?_)
    exact ⟨tv, tv, tv, tv, tv, tv, tv, tv, rfl, tv, tv⟩
   ·intro vs gq stq hl hf
    obtain ⟨v0, v1, v2, v3, v4, rfl⟩ := len_k5 hl
    have e0 := (show v0 = AG [encA .u8 d24] from hf _ (memI 4 rfl) (by kernel_rfl))
    subst e0
    have e3 := (show v3 = AG [encA .u8 d25] from hf _ (memI 8 rfl) (by kernel_rfl))
    subst e3
    refine WP.neV (by kernel_rfl) (by kernel_rfl) (EqV.arr (d := 9998) (t := 32) (e := 5) (m := 8) (k := .u8) (x := d24) (y := d25) (by kernel_rfl) (by kernel_rfl)) ?_
    refine WP.dn (Shown.ok (v := .bool (!(d24.1 == d25.1))) (by kernel_rfl) (Step.refl _ _) ?_)
    exact ⟨tv, tv, tv, tv, tv, tv, tv, tv, tv, rfl, tv⟩
  intro vs g34 st34 hl hf
  obtain ⟨v0, v1, v2, v3, v4, rfl⟩ := len_k5 hl
  have e0 := (show v0 = AG [encA .u8 d24] from hf _ (memI 4 rfl) (by kernel_rfl))
  subst e0
  have hR5 := (show OwnS k_S_notary_entry g34 (t + 3) 86 a5 n5 c5 l4 from hf _ (memI 5 rfl) (by kernel_rfl))
  have e1 := (show v1 = .pointer (some ⟨b17, u15 + x3.toNat * 2, none⟩) from hf _ (memI 6 rfl) (by kernel_rfl))
  subst e1
  have e2 := (show v2 = .int .u8 ((getI l1 x3).f1) from hf _ (memI 7 rfl) (by kernel_rfl))
  subst e2
  have e3 := (show v3 = AG [encA .u8 d25] from hf _ (memI 8 rfl) (by kernel_rfl))
  subst e3
  have e4 := (show v4 = .bool (!(d24.1 == d25.1)) from hf _ (memI 9 rfl) (by kernel_rfl))
  subst e4
  replace hR1 := hR1.mono st34 (WL.no1 (by omega))
  replace hB1 := hB1.mono st34 (WL.no1 (by omega))
  replace hB2 := hB2.mono st34 (WL.no1 (by omega))
  replace hR6 := hR6.mono st34 (WL.no1 (by omega))
  replace tot := tot.trans (st34.up1 (.inr (by omega)))
  refine NX.then_n ?_
  refine CP.refr 90 [(0, .slice a1 n1 c1), (5, .pointer (some ⟨b1, 0, none⟩)), (6, .slice a6 n6 c6), (7, .int .i64 x3), (8, .iface 79 (AG [[.pointer (some ⟨b1, 0, none⟩)], encA .u8 d21])), (34, .iface 79 (AG [[.pointer (some ⟨b1, 0, none⟩)], encA .u8 d21])), (35, AG [encA .u8 d24]), (36, .slice a1 n1 c1), (37, .int .i64 x3), (38, .pointer (some ⟨b17, u15 + x3.toNat * 2, none⟩)), (39, .pointer (some ⟨b17, u15 + x3.toNat * 2, none⟩)), (40, .int .u8 ((getI l1 x3).f1)), (41, .int .u64 (IntKind.u64.wrap ((getI l1 x3).f1))), (42, AG [encA .u8 d25]), (43, .bool (!(d24.1 == d25.1))), (44, .bool (!(d24.1 == d25.1)))] (by kernel_rfl) (by kernel_rfl) ?_
  clear ds
  intro ds
  refine CP.cond (b := (!(d24.1 == d25.1))) (by kernel_rfl) (fun h10 => ?_) (fun h10 => ?_)
  ·replace hs := of_if_t hs h10
   refine CP.seqR ?_
   refine WP.stl 3 ?_
   refine WP.dn ?_
   refine NX.then_n ?_
   refine CP.ret ?_
   refine NX.then_r ?_
   refine NX.block_r ?_
   refine NX.then_r ?_
   refine NX.then_r ?_
   refine NX.block_r ?_
   refine NX.then_r ?_
   exact absurd hs (by simp)
  replace hs := of_if_f hs h10
  refine CP.skip ?_
  refine NX.then_n ?_
  refine CP.seq ?_
  by_cases hc16 : (0 : Int) ≤ x3 ∧ x3 < (l1.length : Int)
  case neg => rw [if_neg hc16] at hs; cases hs
  replace hs := of_if_p hs hc16
  replace hs := Option.bind_eq_some_iff.1 hs
  obtain ⟨d26, hk28, hs⟩ := hs
  replace hs := Option.bind_eq_some_iff.1 hs
  obtain ⟨⟨l10, x7, d27, d28⟩, hk29, hs⟩ := hs
  dsimp only at hs
  obtain ⟨b18, u16, ha16⟩ := hR1.at hc16
  refine CP.drawL (by kernel_rfl) [3, 5, 7, 11] N.baizelaw07_book_1 [⟨none, [], [], fun l g => RdS k_S_baizelaw07_Entry g 36 a1 n1 c1 l1⟩, ⟨none, [1], [], fun l g => Box g (t + 1) b1 84 [[.slice a5 n5 c5], [.map (some b2)]] [1, 1]⟩, ⟨none, [2], [], fun l g => OwnS k_S_notary_entry g (t + 3) 86 a5 n5 c5 l4⟩, ⟨none, [0], [], fun l g => MapB g (t + 2) b2 kv_S_notary_entry (Value.int .i64) w1⟩, ⟨some 0, [], [0], fun l g => l.getD 0 undef = .pointer (some ⟨b18, u16 + x3.toNat * 2, none⟩)⟩, ⟨some 1, [], [1], fun l g => l.getD 0 undef = .int .u8 ((getI l1 x3).f2)⟩, ⟨some 2, [], [2], fun l g => l.getD 0 undef = AG [encA .u8 d26]⟩, ⟨some 3, [0], [], fun l g => MapB g (t + 2) b2 kv_S_notary_entry (Value.int .i64) d27⟩, ⟨some 3, [1, 2], [3], fun l g => ∃ (a12 : Option Addr) (c12 : Nat) (a13 : Option Addr) (c13 : Nat), l.getD 0 undef = .tuple #[.slice a12 l10.length c12, .int .i64 x7] ∧ OwnS (Kd.int .u8) g (t + 6) 5 a12 l10.length c12 l10 ∧ OwnS k_S_notary_entry g (t + 3) 86 a13 d28.length c13 d28 ∧ Box g (t + 1) b1 84 [[.slice a13 d28.length c13], [.map (some b2)]] [1, 1]⟩] [[], [], [], [0, 1, 2]] [(t + 2), (t + 1), (t + 3)] [0, 1, 2, 8, 9, 10] [4, 6, 12, 13, 14, 15, 16] (by kernel_rfl) (by simp <;> omega) (by simp <;> omega) ⟨fun _ _ _ _ st h0 hl hj hR1 => (RdS.mono (e := 36) hR1 st h0), fun _ _ _ _ st h0 hl hj hB1 => (hB1.mono st (hj 1 (by simp) _ rfl)), fun _ _ _ _ st h0 hl hj hR5 => (hR5.mono st h0 (hj 2 (by simp) _ rfl)), fun _ _ _ _ st h0 hl hj hB2 => (hB2.mono st (hj 0 (by simp) _ rfl)), fun _ _ _ _ st h0 hl hj e0 => e0, fun _ _ _ _ st h0 hl hj e1 => e1, fun _ _ _ _ st h0 hl hj e2 => e2, fun _ _ _ _ st h0 hl hj hB2 => (hB2.mono st (hj 0 (by simp) _ rfl)), fun _ _ _ _ st h0 hl hj ⟨a12, c12, a13, c13, e3, hR12, hR13, hB1⟩ => ⟨a12, c12, a13, c13, e3, (hR12.mono st h0 (fun h => absurd (hl _ h) (by simp <;> omega))), (hR13.mono st h0 (hj 2 (by simp) _ rfl)), (hB1.mono st (hj 1 (by simp) _ rfl))⟩, tv⟩ ⟨hR1, hB1, hR5, hB2, tv, tv, tv, tv, tv, tv⟩ (by kernel_rfl) (fun vs => by kernel_rfl) ?_ ?_ ?_
  ·intro j hj
   have hq : j = 0 ∨ j = 1 ∨ j = 2 ∨ j = 3 ∨ j = 4 ∨ j = 5 ∨ j = 6 := by have h : j < 7 := hj; omega
   rcases hq with rfl | rfl | rfl | rfl | rfl | rfl | rfl
   ·intro vs gq stq hl hf
    obtain ⟨v0, v1, v2, v3, rfl⟩ := len_k4 hl
    have e0 := (show v0 = .pointer (some ⟨b18, u16 + x3.toNat * 2, none⟩) from hf _ (memI 4 rfl) (by kernel_rfl))
    subst e0
    show Option.isSome _ = true
    kernel_rfl
   ·intro vs gq stq hl hf
    obtain ⟨v0, v1, v2, v3, rfl⟩ := len_k4 hl
    have e1 := (show v1 = .int .u8 ((getI l1 x3).f2) from hf _ (memI 5 rfl) (by kernel_rfl))
    subst e1
    show Option.isSome _ = true
    kernel_rfl
   ·intro vs gq stq hl hf
    obtain ⟨v0, v1, v2, v3, rfl⟩ := len_k4 hl
    obtain ⟨a12, c12, a13, c13, e3, hR12, hR13, hB1⟩ := (show ∃ (a12 : Option Addr) (c12 : Nat) (a13 : Option Addr) (c13 : Nat), v3 = .tuple #[.slice a12 l10.length c12, .int .i64 x7] ∧ OwnS (Kd.int .u8) gq (t + 6) 5 a12 l10.length c12 l10 ∧ OwnS k_S_notary_entry gq (t + 3) 86 a13 d28.length c13 d28 ∧ Box gq (t + 1) b1 84 [[.slice a13 d28.length c13], [.map (some b2)]] [1, 1] from hf _ (memI 8 rfl) (by kernel_rfl))
    subst e3
    show Option.isSome _ = true
    kernel_rfl
   ·intro vs gq stq hl hf
    obtain ⟨v0, v1, v2, v3, rfl⟩ := len_k4 hl
    obtain ⟨a12, c12, a13, c13, e3, hR12, hR13, hB1⟩ := (show ∃ (a12 : Option Addr) (c12 : Nat) (a13 : Option Addr) (c13 : Nat), v3 = .tuple #[.slice a12 l10.length c12, .int .i64 x7] ∧ OwnS (Kd.int .u8) gq (t + 6) 5 a12 l10.length c12 l10 ∧ OwnS k_S_notary_entry gq (t + 3) 86 a13 d28.length c13 d28 ∧ Box gq (t + 1) b1 84 [[.slice a13 d28.length c13], [.map (some b2)]] [1, 1] from hf _ (memI 8 rfl) (by kernel_rfl))
    subst e3
    show Option.isSome _ = true
    kernel_rfl
   ·intro vs gq stq hl hf
    obtain ⟨v0, v1, v2, v3, rfl⟩ := len_k4 hl
    obtain ⟨a12, c12, a13, c13, e3, hR12, hR13, hB1⟩ := (show ∃ (a12 : Option Addr) (c12 : Nat) (a13 : Option Addr) (c13 : Nat), v3 = .tuple #[.slice a12 l10.length c12, .int .i64 x7] ∧ OwnS (Kd.int .u8) gq (t + 6) 5 a12 l10.length c12 l10 ∧ OwnS k_S_notary_entry gq (t + 3) 86 a13 d28.length c13 d28 ∧ Box gq (t + 1) b1 84 [[.slice a13 d28.length c13], [.map (some b2)]] [1, 1] from hf _ (memI 8 rfl) (by kernel_rfl))
    subst e3
    show Option.isSome _ = true
    kernel_rfl
   ·intro vs gq stq hl hf
    obtain ⟨v0, v1, v2, v3, rfl⟩ := len_k4 hl
    obtain ⟨a12, c12, a13, c13, e3, hR12, hR13, hB1⟩ := (show ∃ (a12 : Option Addr) (c12 : Nat) (a13 : Option Addr) (c13 : Nat), v3 = .tuple #[.slice a12 l10.length c12, .int .i64 x7] ∧ OwnS (Kd.int .u8) gq (t + 6) 5 a12 l10.length c12 l10 ∧ OwnS k_S_notary_entry gq (t + 3) 86 a13 d28.length c13 d28 ∧ Box gq (t + 1) b1 84 [[.slice a13 d28.length c13], [.map (some b2)]] [1, 1] from hf _ (memI 8 rfl) (by kernel_rfl))
    subst e3
    show Option.isSome _ = true
    kernel_rfl
   ·intro vs gq stq hl hf
    obtain ⟨v0, v1, v2, v3, rfl⟩ := len_k4 hl
    obtain ⟨a12, c12, a13, c13, e3, hR12, hR13, hB1⟩ := (show ∃ (a12 : Option Addr) (c12 : Nat) (a13 : Option Addr) (c13 : Nat), v3 = .tuple #[.slice a12 l10.length c12, .int .i64 x7] ∧ OwnS (Kd.int .u8) gq (t + 6) 5 a12 l10.length c12 l10 ∧ OwnS k_S_notary_entry gq (t + 3) 86 a13 d28.length c13 d28 ∧ Box gq (t + 1) b1 84 [[.slice a13 d28.length c13], [.map (some b2)]] [1, 1] from hf _ (memI 8 rfl) (by kernel_rfl))
    subst e3
    show Option.isSome _ = true
    kernel_rfl
  ·intro j hj
   have hq : j = 0 ∨ j = 1 ∨ j = 2 ∨ j = 3 := by have h : j < 4 := hj; omega
   rcases hq with rfl | rfl | rfl | rfl
   ·intro vs gq stq hl hf
    obtain ⟨v0, v1, v2, v3, rfl⟩ := len_k4 hl
    have hR1 := (show RdS k_S_baizelaw07_Entry gq 36 a1 n1 c1 l1 from hf _ (memI 0 rfl) (by kernel_rfl))
    refine WP.indexA (t := 22) (e := 36) (sz := 2) (cap := c1) (k := .i64) (i := x3) hR1.len ha16 (by kernel_rfl) (by kernel_rfl) hc16 ?_
    refine WP.dn (Shown.ok (v := .pointer (some ⟨b18, u16 + x3.toNat * 2, none⟩)) (by kernel_rfl) (Step.refl _ _) ?_)
    exact ⟨tv, tv, tv, tv, rfl, tv, tv, tv, tv, tv⟩
   ·intro vs gq stq hl hf
    obtain ⟨v0, v1, v2, v3, rfl⟩ := len_k4 hl
    have hR1 := (show RdS k_S_baizelaw07_Entry gq 36 a1 n1 c1 l1 from hf _ (memI 0 rfl) (by kernel_rfl))
    have e0 := (show v0 = .pointer (some ⟨b18, u16 + x3.toNat * 2, none⟩) from hf _ (memI 4 rfl) (by kernel_rfl))
    subst e0
    obtain ⟨cs16, hcR16, hcV16⟩ := hR1.src.view (getI_some hc16) ha16
    replace hcR16 := k_S_baizelaw07_Entry.opn hcR16
    refine WP.loadV [[.int .u8 ((getI l1 x3).f1)], [.int .u8 ((getI l1 x3).f2)]] [1, 1] hcV16 hcR16 rfl (f := 1) (ty := 5) (agg := false) (size := 1) (rs := [[.int .u8 ((getI l1 x3).f2)]]) (v := .int .u8 ((getI l1 x3).f2)) (by kernel_rfl) (by kernel_rfl) (by kernel_rfl) (by kernel_rfl) ?_
    refine WP.dn (Shown.ok (v := .int .u8 ((getI l1 x3).f2)) (by kernel_rfl) (Step.refl _ _) ?_)
    exact ⟨tv, tv, tv, tv, tv, rfl, tv, tv, tv, tv⟩
   ·intro vs gq stq hl hf
    obtain ⟨v0, v1, v2, v3, rfl⟩ := len_k4 hl
    have e1 := (show v1 = .int .u8 ((getI l1 x3).f2) from hf _ (memI 5 rfl) (by kernel_rfl))
    subst e1
    have hcal28 := P.baizelaw07_Digest gq (IntKind.u64.wrap ((getI l1 x3).f2)) d26 hk28
    refine WP.callC hcal28 (by kernel_rfl) ?_
    rintro _ g35 st35 rfl
    refine WP.dn (Shown.o (v := AG [encA .u8 d26]) st35.pure ?_)
    exact ⟨tv, tv, tv, tv, tv, tv, rfl, tv, tv, tv⟩
   ·intro vs gq stq hl hf
    obtain ⟨v0, v1, v2, v3, rfl⟩ := len_k4 hl
    have hB1 := (show Box gq (t + 1) b1 84 [[.slice a5 n5 c5], [.map (some b2)]] [1, 1] from hf _ (memI 1 rfl) (by kernel_rfl))
    have hR5 := (show OwnS k_S_notary_entry gq (t + 3) 86 a5 n5 c5 l4 from hf _ (memI 2 rfl) (by kernel_rfl))
    have hB2 := (show MapB gq (t + 2) b2 kv_S_notary_entry (Value.int .i64) w1 from hf _ (memI 3 rfl) (by kernel_rfl))
    have e2 := (show v2 = AG [encA .u8 d26] from hf _ (memI 6 rfl) (by kernel_rfl))
    subst e2
    have hcal29 := P.notary_bookSigner_Sign gq (t + 1) (t + 3) (t + 2) (t + 6) l4 w1 d21 d26 a5 n5 c5 b1 b2 hR5 hB2 hB1 (by omega) (by omega) (by omega) (by omega) (by omega) (by omega) l10 x7 d27 d28 hk29
    refine WP.callC hcal29 (by kernel_rfl) ?_
    rintro _ g36 st36 ⟨a12, n12, c12, a13, n13, c13, rfl, hR12, hB7, hR13, hB8⟩
    obtain rfl := hR12.len
    obtain rfl := hR13.len
    refine WP.dn (Shown.o (v := .tuple #[.slice a12 l10.length c12, .int .i64 x7]) st36 ?_)
    exact ⟨tv, tv, tv, tv, tv, tv, tv, hB7, ⟨a12, c12, a13, c13, rfl, hR12, hR13, hB8⟩, tv⟩
  intro vs g37 st37 hl hf
  obtain ⟨v0, v1, v2, v3, rfl⟩ := len_k4 hl
  have hB2 := (show MapB g37 (t + 2) b2 kv_S_notary_entry (Value.int .i64) d27 from hf _ (memI 7 rfl) (by kernel_rfl))
  obtain ⟨a12, c12, a13, c13, e3, hR12, hR13, hB1⟩ := (show ∃ (a12 : Option Addr) (c12 : Nat) (a13 : Option Addr) (c13 : Nat), v3 = .tuple #[.slice a12 l10.length c12, .int .i64 x7] ∧ OwnS (Kd.int .u8) g37 (t + 6) 5 a12 l10.length c12 l10 ∧ OwnS k_S_notary_entry g37 (t + 3) 86 a13 d28.length c13 d28 ∧ Box g37 (t + 1) b1 84 [[.slice a13 d28.length c13], [.map (some b2)]] [1, 1] from hf _ (memI 8 rfl) (by kernel_rfl))
  subst e3
  replace hR1 := hR1.mono st37 (WL.no3 (by omega) (by omega) (by omega))
  replace hR6 := hR6.mono st37 (WL.no3 (by omega) (by omega) (by omega))
  replace tot := tot.trans (st37.up3 (.inr (by omega)) (.inr (by omega)) (.inr (by omega)))
  refine NX.then_n ?_
  refine CP.refr 90 [(0, .slice a1 n1 c1), (5, .pointer (some ⟨b1, 0, none⟩)), (6, .slice a6 n6 c6), (7, .int .i64 x3), (9, .slice a12 l10.length c12), (10, .int .i64 x7), (34, .iface 79 (AG [[.pointer (some ⟨b1, 0, none⟩)], encA .u8 d21])), (35, AG [encA .u8 d24]), (36, .slice a1 n1 c1), (37, .int .i64 x3), (38, .pointer (some ⟨b17, u15 + x3.toNat * 2, none⟩)), (39, .pointer (some ⟨b17, u15 + x3.toNat * 2, none⟩)), (40, .int .u8 ((getI l1 x3).f1)), (41, .int .u64 (IntKind.u64.wrap ((getI l1 x3).f1))), (42, AG [encA .u8 d25]), (43, .bool (!(d24.1 == d25.1)))] (by kernel_rfl) (by kernel_rfl) ?_
  clear ds
  intro ds
  refine CP.seq ?_
  by_cases hc17 : (0 : Int) ≤ x3 ∧ x3 < (l1.length : Int)
  case neg => rw [if_neg hc17] at hs; cases hs
  replace hs := of_if_p hs hc17
  by_cases hc18 : (0 : Int) ≤ x3 ∧ x3 < (l1.length : Int)
  case neg => rw [if_neg hc18] at hs; cases hs
  replace hs := of_if_p hs hc18
  replace hs := Option.bind_eq_some_iff.1 hs
  obtain ⟨⟨l11, x8⟩, hk30, hs⟩ := hs
  dsimp only at hs
  obtain ⟨b19, u17, ha17⟩ := hR1.at hc17
  obtain ⟨b20, u18, ha18⟩ := hR1.at hc18
  refine CP.drawL (by kernel_rfl) [3, 5, 9, 11, 14] N.baizelaw07_book_2 [⟨none, [], [], fun l g => RdS k_S_baizelaw07_Entry g 36 a1 n1 c1 l1⟩, ⟨none, [], [], fun l g => RdS k_S_baizeref07_Entry g 53 a6 n6 c6 l5⟩, ⟨some 0, [], [0], fun l g => l.getD 0 undef = .pointer (some ⟨b19, u17 + x3.toNat * 2, none⟩)⟩, ⟨some 1, [], [1], fun l g => l.getD 0 undef = .int .u8 ((getI l1 x3).f1)⟩, ⟨some 2, [], [2], fun l g => l.getD 0 undef = .pointer (some ⟨b20, u18 + x3.toNat * 2, none⟩)⟩, ⟨some 3, [], [3], fun l g => l.getD 0 undef = .int .u8 ((getI l1 x3).f2)⟩, ⟨some 4, [], [4], fun l g => ∃ (a14 : Option Addr) (c14 : Nat), l.getD 0 undef = .tuple #[.slice a14 l11.length c14, .int .i64 x8] ∧ RdS k_S_baizeref07_Entry g 53 a14 l11.length c14 l11⟩] [[], [], [], [], []] [] [0, 1, 2, 7, 8] [4, 6, 10, 12, 13, 15, 16, 17, 18, 19] (by kernel_rfl) (by simp) (by simp) ⟨fun _ _ _ _ st h0 hl hj hR1 => (RdS.mono (e := 36) hR1 st h0), fun _ _ _ _ st h0 hl hj hR6 => (RdS.mono (e := 53) hR6 st h0), fun _ _ _ _ st h0 hl hj e0 => e0, fun _ _ _ _ st h0 hl hj e1 => e1, fun _ _ _ _ st h0 hl hj e2 => e2, fun _ _ _ _ st h0 hl hj e3 => e3, fun _ _ _ _ st h0 hl hj ⟨a14, c14, e4, hR14⟩ => ⟨a14, c14, e4, (RdS.mono (e := 53) hR14 st h0)⟩, tv⟩ ⟨hR1, hR6, tv, tv, tv, tv, tv, tv⟩ (by kernel_rfl) (fun vs => by kernel_rfl) ?_ ?_ ?_
  ·intro j hj
   have hq : j = 0 ∨ j = 1 ∨ j = 2 ∨ j = 3 ∨ j = 4 ∨ j = 5 ∨ j = 6 ∨ j = 7 ∨ j = 8 ∨ j = 9 := by have h : j < 10 := hj; omega
   rcases hq with rfl | rfl | rfl | rfl | rfl | rfl | rfl | rfl | rfl | rfl
   ·intro vs gq stq hl hf
    obtain ⟨v0, v1, v2, v3, v4, rfl⟩ := len_k5 hl
    have e0 := (show v0 = .pointer (some ⟨b19, u17 + x3.toNat * 2, none⟩) from hf _ (memI 2 rfl) (by kernel_rfl))
    subst e0
    show Option.isSome _ = true
    kernel_rfl
   ·intro vs gq stq hl hf
    obtain ⟨v0, v1, v2, v3, v4, rfl⟩ := len_k5 hl
    have e1 := (show v1 = .int .u8 ((getI l1 x3).f1) from hf _ (memI 3 rfl) (by kernel_rfl))
    subst e1
    show Option.isSome _ = true
    kernel_rfl
   ·intro vs gq stq hl hf
    obtain ⟨v0, v1, v2, v3, v4, rfl⟩ := len_k5 hl
    have e2 := (show v2 = .pointer (some ⟨b20, u18 + x3.toNat * 2, none⟩) from hf _ (memI 4 rfl) (by kernel_rfl))
    subst e2
    show Option.isSome _ = true
    kernel_rfl
   ·intro vs gq stq hl hf
    obtain ⟨v0, v1, v2, v3, v4, rfl⟩ := len_k5 hl
    have e3 := (show v3 = .int .u8 ((getI l1 x3).f2) from hf _ (memI 5 rfl) (by kernel_rfl))
    subst e3
    show Option.isSome _ = true
    kernel_rfl
   ·intro vs gq stq hl hf
    obtain ⟨v0, v1, v2, v3, v4, rfl⟩ := len_k5 hl
    have e1 := (show v1 = .int .u8 ((getI l1 x3).f1) from hf _ (memI 3 rfl) (by kernel_rfl))
    subst e1
    have e3 := (show v3 = .int .u8 ((getI l1 x3).f2) from hf _ (memI 5 rfl) (by kernel_rfl))
    subst e3
    show Option.isSome _ = true
    kernel_rfl
   ·intro vs gq stq hl hf
    obtain ⟨v0, v1, v2, v3, v4, rfl⟩ := len_k5 hl
    obtain ⟨a14, c14, e4, hR14⟩ := (show ∃ (a14 : Option Addr) (c14 : Nat), v4 = .tuple #[.slice a14 l11.length c14, .int .i64 x8] ∧ RdS k_S_baizeref07_Entry gq 53 a14 l11.length c14 l11 from hf _ (memI 6 rfl) (by kernel_rfl))
    subst e4
    show Option.isSome _ = true
    kernel_rfl
   ·intro vs gq stq hl hf
    obtain ⟨v0, v1, v2, v3, v4, rfl⟩ := len_k5 hl
    obtain ⟨a14, c14, e4, hR14⟩ := (show ∃ (a14 : Option Addr) (c14 : Nat), v4 = .tuple #[.slice a14 l11.length c14, .int .i64 x8] ∧ RdS k_S_baizeref07_Entry gq 53 a14 l11.length c14 l11 from hf _ (memI 6 rfl) (by kernel_rfl))
    subst e4
    show Option.isSome _ = true
    kernel_rfl
   ·intro vs gq stq hl hf
    obtain ⟨v0, v1, v2, v3, v4, rfl⟩ := len_k5 hl
    obtain ⟨a14, c14, e4, hR14⟩ := (show ∃ (a14 : Option Addr) (c14 : Nat), v4 = .tuple #[.slice a14 l11.length c14, .int .i64 x8] ∧ RdS k_S_baizeref07_Entry gq 53 a14 l11.length c14 l11 from hf _ (memI 6 rfl) (by kernel_rfl))
    subst e4
    show Option.isSome _ = true
    kernel_rfl
   ·intro vs gq stq hl hf
    obtain ⟨v0, v1, v2, v3, v4, rfl⟩ := len_k5 hl
    obtain ⟨a14, c14, e4, hR14⟩ := (show ∃ (a14 : Option Addr) (c14 : Nat), v4 = .tuple #[.slice a14 l11.length c14, .int .i64 x8] ∧ RdS k_S_baizeref07_Entry gq 53 a14 l11.length c14 l11 from hf _ (memI 6 rfl) (by kernel_rfl))
    subst e4
    show Option.isSome _ = true
    kernel_rfl
   ·intro vs gq stq hl hf
    obtain ⟨v0, v1, v2, v3, v4, rfl⟩ := len_k5 hl
    obtain ⟨a14, c14, e4, hR14⟩ := (show ∃ (a14 : Option Addr) (c14 : Nat), v4 = .tuple #[.slice a14 l11.length c14, .int .i64 x8] ∧ RdS k_S_baizeref07_Entry gq 53 a14 l11.length c14 l11 from hf _ (memI 6 rfl) (by kernel_rfl))
    subst e4
    show Option.isSome _ = true
    kernel_rfl
  ·intro j hj
   have hq : j = 0 ∨ j = 1 ∨ j = 2 ∨ j = 3 ∨ j = 4 := by have h : j < 5 := hj; omega
   rcases hq with rfl | rfl | rfl | rfl | rfl
   ·intro vs gq stq hl hf
    obtain ⟨v0, v1, v2, v3, v4, rfl⟩ := len_k5 hl
    have hR1 := (show RdS k_S_baizelaw07_Entry gq 36 a1 n1 c1 l1 from hf _ (memI 0 rfl) (by kernel_rfl))
    refine WP.indexA (t := 22) (e := 36) (sz := 2) (cap := c1) (k := .i64) (i := x3) hR1.len ha17 (by kernel_rfl) (by kernel_rfl) hc17 ?_
    refine WP.dn (Shown.ok (v := .pointer (some ⟨b19, u17 + x3.toNat * 2, none⟩)) (by kernel_rfl) (Step.refl _ _) ?_)
    exact ⟨tv, tv, rfl, tv, tv, tv, tv, tv⟩
   ·intro vs gq stq hl hf
    obtain ⟨v0, v1, v2, v3, v4, rfl⟩ := len_k5 hl
    have hR1 := (show RdS k_S_baizelaw07_Entry gq 36 a1 n1 c1 l1 from hf _ (memI 0 rfl) (by kernel_rfl))
    have e0 := (show v0 = .pointer (some ⟨b19, u17 + x3.toNat * 2, none⟩) from hf _ (memI 2 rfl) (by kernel_rfl))
    subst e0
    obtain ⟨cs17, hcR17, hcV17⟩ := hR1.src.view (getI_some hc17) ha17
    replace hcR17 := k_S_baizelaw07_Entry.opn hcR17
    refine WP.loadV [[.int .u8 ((getI l1 x3).f1)], [.int .u8 ((getI l1 x3).f2)]] [1, 1] hcV17 hcR17 rfl (f := 0) (ty := 5) (agg := false) (size := 1) (rs := [[.int .u8 ((getI l1 x3).f1)]]) (v := .int .u8 ((getI l1 x3).f1)) (by kernel_rfl) (by kernel_rfl) (by kernel_rfl) (by kernel_rfl) ?_
    refine WP.dn (Shown.ok (v := .int .u8 ((getI l1 x3).f1)) (by kernel_rfl) (Step.refl _ _) ?_)
    exact ⟨tv, tv, tv, rfl, tv, tv, tv, tv⟩
   ·intro vs gq stq hl hf
    obtain ⟨v0, v1, v2, v3, v4, rfl⟩ := len_k5 hl
    have hR1 := (show RdS k_S_baizelaw07_Entry gq 36 a1 n1 c1 l1 from hf _ (memI 0 rfl) (by kernel_rfl))
    refine WP.indexA (t := 22) (e := 36) (sz := 2) (cap := c1) (k := .i64) (i := x3) hR1.len ha18 (by kernel_rfl) (by kernel_rfl) hc18 ?_
    refine WP.dn (Shown.ok (v := .pointer (some ⟨b20, u18 + x3.toNat * 2, none⟩)) (by kernel_rfl) (Step.refl _ _) ?_)
    exact ⟨tv, tv, tv, tv, rfl, tv, tv, tv⟩
   ·intro vs gq stq hl hf
    obtain ⟨v0, v1, v2, v3, v4, rfl⟩ := len_k5 hl
    have hR1 := (show RdS k_S_baizelaw07_Entry gq 36 a1 n1 c1 l1 from hf _ (memI 0 rfl) (by kernel_rfl))
    have e2 := (show v2 = .pointer (some ⟨b20, u18 + x3.toNat * 2, none⟩) from hf _ (memI 4 rfl) (by kernel_rfl))
    subst e2
    obtain ⟨cs18, hcR18, hcV18⟩ := hR1.src.view (getI_some hc18) ha18
    replace hcR18 := k_S_baizelaw07_Entry.opn hcR18
    refine WP.loadV [[.int .u8 ((getI l1 x3).f1)], [.int .u8 ((getI l1 x3).f2)]] [1, 1] hcV18 hcR18 rfl (f := 1) (ty := 5) (agg := false) (size := 1) (rs := [[.int .u8 ((getI l1 x3).f2)]]) (v := .int .u8 ((getI l1 x3).f2)) (by kernel_rfl) (by kernel_rfl) (by kernel_rfl) (by kernel_rfl) ?_
    refine WP.dn (Shown.ok (v := .int .u8 ((getI l1 x3).f2)) (by kernel_rfl) (Step.refl _ _) ?_)
    exact ⟨tv, tv, tv, tv, tv, rfl, tv, tv⟩
   ·intro vs gq stq hl hf
    obtain ⟨v0, v1, v2, v3, v4, rfl⟩ := len_k5 hl
    have hR6 := (show RdS k_S_baizeref07_Entry gq 53 a6 n6 c6 l5 from hf _ (memI 1 rfl) (by kernel_rfl))
    have e1 := (show v1 = .int .u8 ((getI l1 x3).f1) from hf _ (memI 3 rfl) (by kernel_rfl))
    subst e1
    have e3 := (show v3 = .int .u8 ((getI l1 x3).f2) from hf _ (memI 5 rfl) (by kernel_rfl))
    subst e3
    have hcal30 := P.baizeref07_Sign gq l5 (IntKind.u64.wrap ((getI l1 x3).f1)) (IntKind.u64.wrap ((getI l1 x3).f2)) a6 n6 c6 hR6 l11 x8 hk30
    refine WP.callC hcal30 (by kernel_rfl) ?_
    rintro _ g38 st38 ⟨a14, n14, c14, rfl, hR14⟩
    obtain rfl := hR14.len
    refine WP.dn (Shown.o (v := .tuple #[.slice a14 l11.length c14, .int .i64 x8]) st38.pure ?_)
    exact ⟨tv, tv, tv, tv, tv, tv, ⟨a14, c14, rfl, hR14⟩, tv⟩
  intro vs g39 st39 hl hf
  obtain ⟨v0, v1, v2, v3, v4, rfl⟩ := len_k5 hl
  obtain ⟨a14, c14, e4, hR14⟩ := (show ∃ (a14 : Option Addr) (c14 : Nat), v4 = .tuple #[.slice a14 l11.length c14, .int .i64 x8] ∧ RdS k_S_baizeref07_Entry g39 53 a14 l11.length c14 l11 from hf _ (memI 6 rfl) (by kernel_rfl))
  subst e4
  replace hR1 := hR1.mono st39.toNo (fun x => x)
  replace hB1 := hB1.mono st39.toNo (fun x => x)
  replace hR13 := hR13.mono st39.toNo (fun x => x) (fun x => x)
  replace hB2 := hB2.mono st39.toNo (fun x => x)
  replace hR12 := hR12.mono st39.toNo (fun x => x) (fun x => x)
  replace tot := tot.trans st39.toNo.pure
  refine NX.then_n ?_
  refine CP.refr 90 [(0, .slice a1 n1 c1), (5, .pointer (some ⟨b1, 0, none⟩)), (7, .int .i64 x3), (9, .slice a12 l10.length c12), (10, .int .i64 x7), (11, .slice a14 l11.length c14), (12, .int .i64 x8), (34, .iface 79 (AG [[.pointer (some ⟨b1, 0, none⟩)], encA .u8 d21])), (35, AG [encA .u8 d24]), (36, .slice a1 n1 c1), (37, .int .i64 x3), (38, .pointer (some ⟨b17, u15 + x3.toNat * 2, none⟩)), (39, .pointer (some ⟨b17, u15 + x3.toNat * 2, none⟩)), (40, .int .u8 ((getI l1 x3).f1)), (41, .int .u64 (IntKind.u64.wrap ((getI l1 x3).f1))), (42, AG [encA .u8 d25]), (43, .bool (!(d24.1 == d25.1)))] (by kernel_rfl) (by kernel_rfl) ?_
  clear ds
  intro ds
  refine CP.seqR ?_
  refine WP.stl 2 ?_
  refine WP.dn ?_
  refine NX.then_n ?_
  refine CP.cut (fun tm g => ∃ (q3 : Bool), Fr 90 [(0, .slice a1 n1 c1), (5, .pointer (some ⟨b1, 0, none⟩)), (6, .slice a14 l11.length c14), (7, .int .i64 x3), (34, .iface 79 (AG [[.pointer (some ⟨b1, 0, none⟩)], encA .u8 d21])), (35, AG [encA .u8 d24]), (36, .slice a1 n1 c1), (37, .int .i64 x3), (40, .int .u8 ((getI l1 x3).f1)), (41, .int .u64 (IntKind.u64.wrap ((getI l1 x3).f1))), (42, AG [encA .u8 d25]), (43, .bool (!(d24.1 == d25.1))), (87, .bool q3)] tm ∧ Step (fun l => NoM l ∨ t ≤ l) g0 g ∧ RdS k_S_baizelaw07_Entry g 36 a1 n1 c1 l1 ∧ Box g (t + 1) b1 84 [[.slice a13 d28.length c13], [.map (some b2)]] [1, 1] ∧ OwnS k_S_notary_entry g (t + 3) 86 a13 d28.length c13 d28 ∧ MapB g (t + 2) b2 kv_S_notary_entry (Value.int .i64) d27 ∧ RdS k_S_baizeref07_Entry g 53 a14 l11.length c14 l11 ∧ (F.baizelaw07_book.c1 (F.baizelaw07_book.l1 l1 k1) x3 d27 d28 l11 q3) = some (o1, o2, o3, o4)) ?_ ?_
  ·refine bool_split (b := (x7 != 0)) (fun h13 => ?_) (fun h13 => ?_)
   ·replace hs := of_if_t hs h13
    refine CP.drawL (by kernel_rfl) [2] N.baizelaw07_book_3 [⟨some 0, [], [0], fun l g => l.getD 0 undef = .bool true⟩] [[]] [] [0, 1] [3, 4, 5, 6, 7, 8] (by kernel_rfl) (by simp) (by simp) ⟨fun _ _ _ _ st h0 hl hj e0 => e0, tv⟩ ⟨tv, tv⟩ (by kernel_rfl) (fun vs => by kernel_rfl) ?_ ?_ ?_
    ·intro j hj
     have hq : j = 0 ∨ j = 1 ∨ j = 2 ∨ j = 3 ∨ j = 4 ∨ j = 5 := by have h : j < 6 := hj; omega
     rcases hq with rfl | rfl | rfl | rfl | rfl | rfl
     ·intro vs gq stq hl hf
      obtain ⟨v0, rfl⟩ := len_k1 hl
      have e0 := (show v0 = .bool true from hf _ (memI 0 rfl) (by kernel_rfl))
      subst e0
      show Option.isSome _ = true
      kernel_rfl
     ·intro vs gq stq hl hf
      obtain ⟨v0, rfl⟩ := len_k1 hl
      have e0 := (show v0 = .bool true from hf _ (memI 0 rfl) (by kernel_rfl))
      subst e0
      show Option.isSome _ = true
      kernel_rfl
     ·intro vs gq stq hl hf
      obtain ⟨v0, rfl⟩ := len_k1 hl
      have e0 := (show v0 = .bool true from hf _ (memI 0 rfl) (by kernel_rfl))
      subst e0
      show Option.isSome _ = true
      kernel_rfl
     ·intro vs gq stq hl hf
      obtain ⟨v0, rfl⟩ := len_k1 hl
      have e0 := (show v0 = .bool true from hf _ (memI 0 rfl) (by kernel_rfl))
      subst e0
      show Option.isSome _ = true
      kernel_rfl
     ·intro vs gq stq hl hf
      obtain ⟨v0, rfl⟩ := len_k1 hl
      have e0 := (show v0 = .bool true from hf _ (memI 0 rfl) (by kernel_rfl))
      subst e0
      show Option.isSome _ = true
      kernel_rfl
     ·intro vs gq stq hl hf
      obtain ⟨v0, rfl⟩ := len_k1 hl
      have e0 := (show v0 = .bool true from hf _ (memI 0 rfl) (by kernel_rfl))
      subst e0
      show Option.isSome _ = true
      kernel_rfl
    ·intro j hj
     have hq : j = 0 := by have h : j < 1 := hj; omega
     rcases hq with rfl
     ·intro vs gq stq hl hf
      obtain ⟨v0, rfl⟩ := len_k1 hl
      refine WP.stl 1 ?_
      refine WP.dn (Shown.ok (v := .bool (x7 != 0)) (by kernel_rfl) (Step.refl _ _) ?_)
      exact ⟨congrArg Value.bool h13, tv⟩
    intro vs g41 st41 hl hf
    obtain ⟨v0, rfl⟩ := len_k1 hl
    have e0 := (show v0 = .bool true from hf _ (memI 0 rfl) (by kernel_rfl))
    subst e0
    replace hR1 := hR1.mono st41.toNo (fun x => x)
    replace hB1 := hB1.mono st41.toNo (fun x => x)
    replace hR13 := hR13.mono st41.toNo (fun x => x) (fun x => x)
    replace hB2 := hB2.mono st41.toNo (fun x => x)
    replace hR14 := hR14.mono st41.toNo (fun x => x)
    replace tot := tot.trans st41.toNo.pure
    refine NX.post ?_
    exact ⟨true, ⟨by kernel_rfl, by kernel_rfl⟩, tot, hR1, hB1, hR13, hB2, hR14, hs⟩
   replace hs := of_if_f hs h13
   replace hs := Option.bind_eq_some_iff.1 hs
   obtain ⟨s4, hk32, hs⟩ := hs
   refine CP.drawL (by kernel_rfl) [2, 4, 6] N.baizelaw07_book_3 [⟨none, [], [], fun l g => OwnS (Kd.int .u8) g (t + 6) 5 a12 l10.length c12 l10⟩, ⟨some 0, [], [0], fun l g => l.getD 0 undef = .bool false⟩, ⟨some 1, [], [1], fun l g => l.getD 0 undef = .string (bytesStr l10)⟩, ⟨some 2, [], [2], fun l g => l.getD 0 undef = .string s4⟩] [[], [], []] [] [0, 1] [3, 5, 7, 8] (by kernel_rfl) (by simp) (by simp) ⟨fun _ _ _ _ st h0 hl hj hR12 => (hR12.mono st h0 (fun h => absurd (hl _ h) (by simp))), fun _ _ _ _ st h0 hl hj e0 => e0, fun _ _ _ _ st h0 hl hj e1 => e1, fun _ _ _ _ st h0 hl hj e2 => e2, tv⟩ ⟨hR12, tv, tv, tv, tv⟩ (by kernel_rfl) (fun vs => by kernel_rfl) ?_ ?_ ?_
   ·intro j hj
    have hq : j = 0 ∨ j = 1 ∨ j = 2 ∨ j = 3 := by have h : j < 4 := hj; omega
    rcases hq with rfl | rfl | rfl | rfl
    ·intro vs gq stq hl hf
     obtain ⟨v0, v1, v2, rfl⟩ := len_k3 hl
     have e0 := (show v0 = .bool false from hf _ (memI 1 rfl) (by kernel_rfl))
     subst e0
     show Option.isSome _ = true
     kernel_rfl
    ·intro vs gq stq hl hf
     obtain ⟨v0, v1, v2, rfl⟩ := len_k3 hl
     have e0 := (show v0 = .bool false from hf _ (memI 1 rfl) (by kernel_rfl))
     subst e0
     show Option.isSome _ = true
     kernel_rfl
    ·intro vs gq stq hl hf
     obtain ⟨v0, v1, v2, rfl⟩ := len_k3 hl
     have e0 := (show v0 = .bool false from hf _ (memI 1 rfl) (by kernel_rfl))
     subst e0
     have e1 := (show v1 = .string (bytesStr l10) from hf _ (memI 2 rfl) (by kernel_rfl))
     subst e1
     have e2 := (show v2 = .string s4 from hf _ (memI 3 rfl) (by kernel_rfl))
     subst e2
     show Option.isSome _ = true
     kernel_rfl
    ·intro vs gq stq hl hf
     obtain ⟨v0, v1, v2, rfl⟩ := len_k3 hl
     have e0 := (show v0 = .bool false from hf _ (memI 1 rfl) (by kernel_rfl))
     subst e0
     have e1 := (show v1 = .string (bytesStr l10) from hf _ (memI 2 rfl) (by kernel_rfl))
     subst e1
     have e2 := (show v2 = .string s4 from hf _ (memI 3 rfl) (by kernel_rfl))
     subst e2
     show Option.isSome _ = true
     kernel_rfl
   ·intro j hj
    have hq : j = 0 ∨ j = 1 ∨ j = 2 := by have h : j < 3 := hj; omega
    rcases hq with rfl | rfl | rfl
    ·intro vs gq stq hl hf
     obtain ⟨v0, v1, v2, rfl⟩ := len_k3 hl
     refine WP.stl 1 ?_
     refine WP.dn (Shown.ok (v := .bool (x7 != 0)) (by kernel_rfl) (Step.refl _ _) ?_)
     exact ⟨tv, congrArg Value.bool h13, tv, tv, tv⟩
    ·intro vs gq stq hl hf
     obtain ⟨v0, v1, v2, rfl⟩ := len_k3 hl
     have hR12 := (show OwnS (Kd.int .u8) gq (t + 6) 5 a12 l10.length c12 l10 from hf _ (memI 0 rfl) (by kernel_rfl))
     have e0 := (show v0 = .bool false from hf _ (memI 1 rfl) (by kernel_rfl))
     subst e0
     refine WP.toStr (a := a12) (cp := c12) hR12.src hR12.len (by kernel_rfl) ?_
     refine WP.dn (Shown.ok (v := .string (bytesStr l10)) (by kernel_rfl) (Step.refl _ _) ?_)
     exact ⟨tv, tv, rfl, tv, tv⟩
    ·intro vs gq stq hl hf
     obtain ⟨v0, v1, v2, rfl⟩ := len_k3 hl
     have e0 := (show v0 = .bool false from hf _ (memI 1 rfl) (by kernel_rfl))
     subst e0
     have hcal32 := P.baizeref07_Bytes gq x8 s4 hk32
     refine WP.callC hcal32 (by kernel_rfl) ?_
     rintro _ g42 st42 rfl
     refine WP.dn (Shown.o (v := .string s4) st42.pure ?_)
     exact ⟨tv, tv, tv, rfl, tv⟩
   intro vs g43 st43 hl hf
   obtain ⟨v0, v1, v2, rfl⟩ := len_k3 hl
   have e0 := (show v0 = .bool false from hf _ (memI 1 rfl) (by kernel_rfl))
   subst e0
   have e1 := (show v1 = .string (bytesStr l10) from hf _ (memI 2 rfl) (by kernel_rfl))
   subst e1
   have e2 := (show v2 = .string s4 from hf _ (memI 3 rfl) (by kernel_rfl))
   subst e2
   replace hR1 := hR1.mono st43.toNo (fun x => x)
   replace hB1 := hB1.mono st43.toNo (fun x => x)
   replace hR13 := hR13.mono st43.toNo (fun x => x) (fun x => x)
   replace hB2 := hB2.mono st43.toNo (fun x => x)
   replace hR14 := hR14.mono st43.toNo (fun x => x)
   replace hR12 := hR12.mono st43.toNo (fun x => x) (fun x => x)
   replace tot := tot.trans st43.toNo.pure
   refine NX.post ?_
   exact ⟨(!((bytesStr l10).toList == s4.toList)), ⟨by kernel_rfl, by kernel_rfl⟩, tot, hR1, hB1, hR13, hB2, hR14, hs⟩
  clear tot hs hR1 hB1 hR13 hB2 hR12 hR14
  rintro tm g ⟨q3, hF, tot, hR1, hB1, hR13, hB2, hR14, hs⟩
  clear ds
  obtain ⟨ds, rfl⟩ := hF.open
  clear hF
  unfold F.baizelaw07_book.c1 at hs
  refine CP.cond (b := q3) (by kernel_rfl) (fun h12 => ?_) (fun h12 => ?_)
  ·replace hs := of_if_t hs h12
   refine CP.seqR ?_
   refine WP.stl 3 ?_
   refine WP.dn ?_
   refine NX.then_n ?_
   refine CP.ret ?_
   refine NX.block_r ?_
   refine NX.then_r ?_
   refine NX.then_r ?_
   refine NX.block_r ?_
   refine NX.then_r ?_
   exact absurd hs (by simp)
  replace hs := of_if_f hs h12
  refine CP.skip ?_
  refine NX.block_n ?_
  refine NX.then_n ?_
  refine CP.region ?_
  refine WP.stl 3 ?_
  refine WP.dn ?_
  refine NX.post ?_
  exact ⟨d28, a13, d28.length, c13, d27, l11, a14, l11.length, c14, (IntKind.i64.wrap (x3 + 1)), ⟨by kernel_rfl, by kernel_rfl⟩, tot, hR1, hB1, hR13, hB2, hR14, hs⟩
 replace hs := of_if_f hs h9
 refine CP.exit ?_
 refine NX.then_e ?_
 refine NX.then_e ?_
 refine NX.block_s ?_
 refine NX.then_n ?_
 refine CP.seqR ?_
 refine WP.stl 5 ?_
 refine WP.dn ?_
 refine NX.then_n ?_
 refine CP.ret ?_
 obtain ⟨g44, hw1, st44, hnew⟩ := hB1.relab r0
 refine NX.regw hw1 ?_
 replace hR5 := hR5.mono st44 (WL.no1 (by omega)) (WL.no1 (by omega))
 replace hB2 := hB2.mono st44 (WL.no1 (by omega))
 replace hR6 := hR6.mono st44 (WL.no1 (by omega))
 replace tot := tot.trans (st44.up1 (.inr (by omega)))
 clear hB1
 have hB1 := hnew
 clear hnew
 obtain ⟨g45, hw2, st45, hnew⟩ := hR5.relab (by omega) r1
 refine NX.regw hw2 ?_
 replace hB1 := hB1.mono st45 (WL.no1 (by omega))
 replace hB2 := hB2.mono st45 (WL.no1 (by omega))
 replace hR6 := hR6.mono st45 (WL.no1 (by omega))
 replace tot := tot.trans (st45.up1 (.inr (by omega)))
 clear hR5
 have hR5 := hnew
 clear hnew
 obtain ⟨g46, hw3, st46, hnew⟩ := hB2.relab r2
 refine NX.regw hw3 ?_
 replace hB1 := hB1.mono st46 (WL.no1 (by omega))
 replace hR5 := hR5.mono st46 (WL.no1 (by omega)) (WL.no1 (by omega))
 replace hR6 := hR6.mono st46 (WL.no1 (by omega))
 replace tot := tot.trans (st46.up1 (.inr (by omega)))
 clear hB2
 have hB2 := hnew
 clear hnew
 replace hs := Option.some.inj hs
 simp only [Prod.mk.injEq] at hs
 obtain ⟨rfl, rfl, rfl, rfl⟩ := hs
 exact NX.fin (v := .tuple #[.pointer (some ⟨b1, 0, none⟩), .slice a6 n6 c6, .bool true]) (Res.still (by kernel_rfl)) tot htL ⟨b1, a5, n5, c5, b2, a6, n6, c6, rfl, hB1, hR5, hB2, hR6⟩
def F.slices_Clone_notary_entry_notary_entry_nil : Option ((List S_notary_entry)) := (some ([]))
theorem P.slices_Clone_notary_entry_notary_entry_nil (g0 : GW) (r0 : Nat) (o1 : List S_notary_entry) (hs : F.slices_Clone_notary_entry_notary_entry_nil = some o1) :
  Calls Try.prog 29 #[.slice none 0 0] g0.w (Ret NoM g0 fun v g => ∃ (a_1 : Option Addr) (n_1 : Nat) (c_1 : Nat), v = .slice a_1 n_1 c_1 ∧ OwnS k_S_notary_entry g r0 86 a_1 n_1 c_1 o1) := by
 refine calls_of (args := [.slice none 0 0]) Try.func29 rfl (r0 + 0) ?_
 intro t ht htL
 refine ⟨_, rfl, ?_⟩
 refine CP.refr 8 [(0, .slice none 0 0)] (by kernel_rfl) (by kernel_rfl) ?_
 intro ds
 have tot : Step (fun l => NoM l ∨ t ≤ l) g0 g0 := Step.refl _ _
 unfold F.slices_Clone_notary_entry_notary_entry_nil at hs
 refine CP.seqR ?_
 refine WP.stl 1 ?_
 refine WP.dn ?_
 refine NX.then_n ?_
 refine CP.seq ?_
 refine CP.seqR ?_
 refine WP.stl 2 ?_
 refine WP.dn ?_
 refine NX.then_n ?_
 refine CP.cond_t (by kernel_rfl) ?_
 refine CP.seqR ?_
 refine WP.stl 1 ?_
 refine WP.dn ?_
 refine NX.then_n ?_
 refine CP.ret ?_
 refine NX.then_r ?_
 replace hs := Option.some.inj hs
 obtain rfl := hs
 exact NX.fin (v := .slice none 0 0) (Res.still (by kernel_rfl)) tot htL ⟨none, 0, 0, rfl, (OwnS.nil _ _ _ _)⟩
def F.slices_Clone_notary_entry_notary_entry_some (l1 : List S_notary_entry) : Option ((List S_notary_entry)) := (if ([] : List S_notary_entry).length + l1.length ≤ 8796093022208 then (some (([] : List S_notary_entry) ++ l1)) else none)
theorem P.slices_Clone_notary_entry_notary_entry_some (g0 : GW) (r0 : Nat) (l1 : List S_notary_entry) (n1 : Nat) (c1 : Nat) (p1 : Addr) (hR1 : RdS k_S_notary_entry g0 86 (some p1) n1 c1 l1) (o1 : List S_notary_entry) (hs : F.slices_Clone_notary_entry_notary_entry_some l1 = some o1) :
  Calls Try.prog 29 #[.slice (some p1) n1 c1] g0.w (Ret NoM g0 fun v g => ∃ (a_1 : Option Addr) (n_1 : Nat) (c_1 : Nat), v = .slice a_1 n_1 c_1 ∧ OwnS k_S_notary_entry g r0 86 a_1 n_1 c_1 o1) := by
 refine calls_of (args := [.slice (some p1) n1 c1]) Try.func29 rfl (r0 + 0) ?_
 intro t ht htL
 refine ⟨_, rfl, ?_⟩
 refine CP.refr 8 [(0, .slice (some p1) n1 c1)] (by kernel_rfl) (by kernel_rfl) ?_
 intro ds
 have tot : Step (fun l => NoM l ∨ t ≤ l) g0 g0 := Step.refl _ _
 unfold F.slices_Clone_notary_entry_notary_entry_some at hs
 refine CP.seqR ?_
 refine WP.stl 1 ?_
 refine WP.dn ?_
 refine NX.then_n ?_
 refine CP.seq ?_
 refine CP.seqR ?_
 refine WP.stl 2 ?_
 refine WP.dn ?_
 refine NX.then_n ?_
 refine CP.cond_f (by kernel_rfl) ?_
 refine CP.skip ?_
 refine NX.then_n ?_
 refine CP.seqR ?_
 refine WP.mkSl (kd := k_S_notary_entry) (t := 81) (e := 86) (bytes := 16) (t + 1) [] ([] : List S_notary_entry) (by kernel_rfl) (by kernel_rfl) (Nat.le_of_ble_eq_true rfl) (Nat.le_of_ble_eq_true rfl) all_nil (rfl) rfl ?_
 intro g1 a1 st1 hR2
 replace hR1 := hR1.mono st1 (fun x => x)
 replace tot := tot.trans st1.pure
 refine WP.stl 1 ?_
 by_cases hc1 : ([] : List S_notary_entry).length + l1.length ≤ 8796093022208
 case neg => rw [if_neg hc1] at hs; cases hs
 replace hs := of_if_p hs hc1
 refine WP.append (kd := k_S_notary_entry) (t := 81) (e := 86) (bytes := 16) (a2 := (some p1)) (c2 := c1) hR2 hR1.src hR1.len (by kernel_rfl) (by kernel_rfl) (by omega) (by simp only [maxLen]; omega) (by omega) ?_
 intro g2 a2 c2 st2 hR3
 replace hR1 := hR1.mono st2 (WL.no1 (by omega))
 replace tot := tot.trans (st2.up1 (.inr (by omega)))
 refine WP.stl 1 ?_
 refine WP.dn ?_
 refine NX.then_n ?_
 refine CP.ret ?_
 obtain ⟨g3, hw1, st3, hnew⟩ := hR3.relab (by omega) r0
 refine NX.regw hw1 ?_
 replace tot := tot.trans (st3.up1 (.inr (by omega)))
 clear hR3
 have hR3 := hnew
 clear hnew
 replace hs := Option.some.inj hs
 obtain rfl := hs
 exact NX.fin (v := .slice a2 (0 + n1) c2) (Res.still (by kernel_rfl)) tot htL ⟨a2, (0 + n1), c2, rfl, hR3⟩
def F.slices_Clone_notary_entry_notary_entry (l1 : List S_notary_entry) : Option ((List S_notary_entry)) := F.slices_Clone_notary_entry_notary_entry_some l1
theorem P.slices_Clone_notary_entry_notary_entry (g0 : GW) (r0 : Nat) (l1 : List S_notary_entry) (a1 : Option Addr) (n1 : Nat) (c1 : Nat) (hR1 : RdS k_S_notary_entry g0 86 a1 n1 c1 l1) (o1 : List S_notary_entry) (hs : F.slices_Clone_notary_entry_notary_entry l1 = some o1) :
  Calls Try.prog 29 #[.slice a1 n1 c1] g0.w (Ret NoM g0 fun v g => ∃ (a_1 : Option Addr) (n_1 : Nat) (c_1 : Nat), v = .slice a_1 n_1 c_1 ∧ OwnS k_S_notary_entry g r0 86 a_1 n_1 c_1 o1) := by
 rcases hR1.nilOr with ⟨rfl, rfl, rfl, rfl⟩ | ⟨b, rfl⟩
 ·exact P.slices_Clone_notary_entry_notary_entry_nil _ _ _ hs
 ·exact P.slices_Clone_notary_entry_notary_entry_some _ _ _ _ _ _ hR1 _ hs
def F.maps_Clone_map_notary_entry_int_notary_entry_int (w1 : (List (S_notary_entry × Int))) : Option ((List (S_notary_entry × Int))) := (some w1)
theorem P.maps_Clone_map_notary_entry_int_notary_entry_int (g0 : GW) (m0 : Nat) (r0 : Nat) (w1 : (List (S_notary_entry × Int))) (b1 : Nat) (hB1 : MapB g0 m0 b1 kv_S_notary_entry (Value.int .i64) w1) (hm0 : m0 ≠ 0) (o1 : (List (S_notary_entry × Int))) (hs : F.maps_Clone_map_notary_entry_int_notary_entry_int w1 = some o1) :
  Calls Try.prog 30 #[.map (some b1)] g0.w (Ret NoM g0 fun v g => ∃ (b_1 : Nat), v = .map (some b_1) ∧ MapB g r0 b_1 kv_S_notary_entry (Value.int .i64) o1) := by
 refine calls_of (args := [.map (some b1)]) Try.func30 rfl (m0 + r0 + 0) ?_
 intro t ht htL
 refine ⟨_, rfl, ?_⟩
 refine CP.refr 9 [(0, .map (some b1))] (by kernel_rfl) (by kernel_rfl) ?_
 intro ds
 have tot : Step (fun l => NoM l ∨ t ≤ l) g0 g0 := Step.refl _ _
 unfold F.maps_Clone_map_notary_entry_int_notary_entry_int at hs
 refine CP.seqR ?_
 refine WP.stl 1 ?_
 refine WP.dn ?_
 refine NX.then_n ?_
 refine CP.seq ?_
 refine CP.seqR ?_
 refine WP.stl 2 ?_
 refine WP.dn ?_
 refine NX.then_n ?_
 refine CP.cond_f (by kernel_rfl) ?_
 refine CP.skip ?_
 refine NX.then_n ?_
 refine CP.seqR ?_
 refine WP.stl 2 ?_
 refine WP.mapsClone (t + 1) 82 hB1 Try.func33 (by kernel_rfl) (by kernel_rfl) (by kernel_rfl) (by kernel_rfl) (by kernel_rfl) ?_
 intro g1 b2 st1 hB2
 replace hB1 := hB1.mono st1 (fun x => x)
 replace tot := tot.trans st1.pure
 refine WP.stl 2 ?_
 refine WP.dn ?_
 refine NX.then_n ?_
 refine CP.ret ?_
 obtain ⟨g2, hw1, st2, hnew⟩ := hB2.relab r0
 refine NX.regw hw1 ?_
 replace tot := tot.trans (st2.up1 (.inr (by omega)))
 clear hB2
 have hB2 := hnew
 clear hnew
 replace hs := Option.some.inj hs
 obtain rfl := hs
 exact NX.fin (v := .map (some b2)) (Res.still (by kernel_rfl)) tot htL ⟨b2, rfl, hB2⟩
def N.notary_Book_Clone_0 : List (List Nat) := [[], [0], [0, 1], [0, 1, 2], [0, 1, 2, 3], [], [5], [5, 6], [5, 6, 7], [0, 1, 2, 3, 4, 5, 6, 7, 8], [0, 1, 2, 3, 4, 5, 6, 7, 8, 9], [0, 1, 2, 3, 4, 5, 6, 7, 8, 9, 10], [0, 1, 2, 3, 4, 5, 6, 7, 8, 9, 10, 11]]
def F.notary_Book_Clone (l1 : List S_notary_entry) (w1 : (List (S_notary_entry × Int))) : Option ((List S_notary_entry) × (List (S_notary_entry × Int))) := ((F.slices_Clone_notary_entry_notary_entry l1).bind fun l2 => ((F.maps_Clone_map_notary_entry_int_notary_entry_int w1).bind fun d1 => (some (l2, d1))))
theorem P.notary_Book_Clone (g0 : GW) (m0 : Nat) (m1 : Nat) (r0 : Nat) (r1 : Nat) (r2 : Nat) (l1 : List S_notary_entry) (w1 : (List (S_notary_entry × Int))) (a1 : Option Addr) (n1 : Nat) (c1 : Nat) (b1 : Nat) (b2 : Nat) (hR1 : RdS k_S_notary_entry g0 86 a1 n1 c1 l1) (hB1 : MapB g0 m1 b2 kv_S_notary_entry (Value.int .i64) w1) (hB2 : Box g0 m0 b1 84 [[.slice a1 n1 c1], [.map (some b2)]] [1, 1]) (hm1_0 : m1 ≠ m0) (hm0 : m0 ≠ 0) (hm1 : m1 ≠ 0) (o1 : List S_notary_entry) (o2 : (List (S_notary_entry × Int))) (hs : F.notary_Book_Clone l1 w1 = some (o1, o2)) :
  Calls Try.prog 19 #[.pointer (some ⟨b1, 0, none⟩)] g0.w (Ret NoM g0 fun v g => ∃ (b_1 : Nat) (a_2 : Option Addr) (n_2 : Nat) (c_2 : Nat) (b_5 : Nat), v = .pointer (some ⟨b_1, 0, none⟩) ∧ Box g r0 b_1 84 [[.slice a_2 n_2 c_2], [.map (some b_5)]] [1, 1] ∧ OwnS k_S_notary_entry g r1 86 a_2 n_2 c_2 o1 ∧ MapB g r2 b_5 kv_S_notary_entry (Value.int .i64) o2) := by
 refine calls_of (args := [.pointer (some ⟨b1, 0, none⟩)]) Try.func19 rfl (m0 + m1 + r0 + r1 + r2 + 0) ?_
 intro t ht htL
 refine ⟨_, rfl, ?_⟩
 refine CP.refr 17 [(0, .pointer (some ⟨b1, 0, none⟩))] (by kernel_rfl) (by kernel_rfl) ?_
 intro ds
 have tot : Step (fun l => NoM l ∨ t ≤ l) g0 g0 := Step.refl _ _
 unfold F.notary_Book_Clone at hs
 refine CP.seqR ?_
 refine WP.stl 1 ?_
 refine WP.dn ?_
 refine NX.then_n ?_
 refine CP.seq ?_
 refine CP.seqR ?_
 refine WP.stl 2 ?_
 refine WP.dn ?_
 refine NX.then_n ?_
 refine CP.cond_f (by kernel_rfl) ?_
 refine CP.skip ?_
 refine NX.then_n ?_
 refine CP.seq ?_
 replace hs := Option.bind_eq_some_iff.1 hs
 obtain ⟨l2, hk1, hs⟩ := hs
 replace hs := Option.bind_eq_some_iff.1 hs
 obtain ⟨d1, hk2, hs⟩ := hs
 refine CP.drawL (by kernel_rfl) [3, 4, 8, 9, 11] N.notary_Book_Clone_0 [⟨none, [], [], fun l g => Box g m0 b1 84 [[.slice a1 n1 c1], [.map (some b2)]] [1, 1]⟩, ⟨none, [], [], fun l g => RdS k_S_notary_entry g 86 a1 n1 c1 l1⟩, ⟨none, [], [], fun l g => MapB g m1 b2 kv_S_notary_entry (Value.int .i64) w1⟩, ⟨some 0, [], [0], fun l g => l.getD 0 undef = .slice a1 n1 c1⟩, ⟨some 1, [], [1], fun l g => ∃ (a2 : Option Addr) (c2 : Nat), l.getD 0 undef = .slice a2 l2.length c2 ∧ OwnS k_S_notary_entry g (t + 1) 86 a2 l2.length c2 l2⟩, ⟨some 2, [], [2], fun l g => l.getD 0 undef = .map (some b2)⟩, ⟨some 3, [], [3], fun l g => ∃ (b3 : Nat), l.getD 0 undef = .map (some b3) ∧ MapB g (t + 2) b3 kv_S_notary_entry (Value.int .i64) d1⟩, ⟨some 4, [], [4, 1, 3], fun l g => ∃ (b4 : Nat) (a2 : Option Addr) (c2 : Nat) (b3 : Nat), l.getD 0 undef = .pointer (some ⟨b4, 0, none⟩) ∧ l.getD 1 undef = .slice a2 l2.length c2 ∧ l.getD 2 undef = .map (some b3) ∧ Box g (t + 3) b4 84 [[.slice a2 l2.length c2], [.map (some b3)]] [1, 1] ∧ OwnS k_S_notary_entry g (t + 1) 86 a2 l2.length c2 l2 ∧ MapB g (t + 2) b3 kv_S_notary_entry (Value.int .i64) d1⟩] [[], [], [], [], []] [] [0, 1, 2, 5, 6, 7] [10, 12] (by kernel_rfl) (by simp) (by simp) ⟨fun _ _ _ _ st h0 hl hj hB2 => (hB2.mono st (fun h => absurd (hl _ h) (by simp))), fun _ _ _ _ st h0 hl hj hR1 => (RdS.mono (e := 86) hR1 st h0), fun _ _ _ _ st h0 hl hj hB1 => (hB1.mono st (fun h => absurd (hl _ h) (by simp))), fun _ _ _ _ st h0 hl hj e0 => e0, fun _ _ _ _ st h0 hl hj ⟨a2, c2, e1, hR2⟩ => ⟨a2, c2, e1, (hR2.mono st h0 (fun h => absurd (hl _ h) (by simp)))⟩, fun _ _ _ _ st h0 hl hj e2 => e2, fun _ _ _ _ st h0 hl hj ⟨b3, e3, hB3⟩ => ⟨b3, e3, (hB3.mono st (fun h => absurd (hl _ h) (by simp)))⟩, fun _ _ _ _ st h0 hl hj ⟨b4, a2, c2, b3, e4, e1, e3, hB4, hR2, hB3⟩ => ⟨b4, a2, c2, b3, e4, e1, e3, (hB4.mono st (fun h => absurd (hl _ h) (by simp))), (hR2.mono st h0 (fun h => absurd (hl _ h) (by simp))), (hB3.mono st (fun h => absurd (hl _ h) (by simp)))⟩, tv⟩ ⟨hB2, hR1, hB1, tv, tv, tv, tv, tv, tv⟩ (by kernel_rfl) (fun vs => by kernel_rfl) ?_ ?_ ?_
 ·intro j hj
  have hq : j = 0 ∨ j = 1 := by have h : j < 2 := hj; omega
  rcases hq with rfl | rfl
  ·intro vs gq stq hl hf
   obtain ⟨v0, v1, v2, v3, v4, rfl⟩ := len_k5 hl
   obtain ⟨a2, c2, e1, hR2⟩ := (show ∃ (a2 : Option Addr) (c2 : Nat), v1 = .slice a2 l2.length c2 ∧ OwnS k_S_notary_entry gq (t + 1) 86 a2 l2.length c2 l2 from hf _ (memI 4 rfl) (by kernel_rfl))
   subst e1
   obtain ⟨b3, e3, hB3⟩ := (show ∃ (b3 : Nat), v3 = .map (some b3) ∧ MapB gq (t + 2) b3 kv_S_notary_entry (Value.int .i64) d1 from hf _ (memI 6 rfl) (by kernel_rfl))
   subst e3
   show Option.isSome _ = true
   kernel_rfl
  ·intro vs gq stq hl hf
   obtain ⟨v0, v1, v2, v3, v4, rfl⟩ := len_k5 hl
   obtain ⟨b4, a2, c2, b3, e4, e1, e3, hB4, hR2, hB3⟩ := (show ∃ (b4 : Nat) (a2 : Option Addr) (c2 : Nat) (b3 : Nat), v4 = .pointer (some ⟨b4, 0, none⟩) ∧ v1 = .slice a2 l2.length c2 ∧ v3 = .map (some b3) ∧ Box gq (t + 3) b4 84 [[.slice a2 l2.length c2], [.map (some b3)]] [1, 1] ∧ OwnS k_S_notary_entry gq (t + 1) 86 a2 l2.length c2 l2 ∧ MapB gq (t + 2) b3 kv_S_notary_entry (Value.int .i64) d1 from hf _ (memI 7 rfl) (by kernel_rfl))
   subst e4
   subst e1
   subst e3
   show Option.isSome _ = true
   kernel_rfl
 ·intro j hj
  have hq : j = 0 ∨ j = 1 ∨ j = 2 ∨ j = 3 ∨ j = 4 := by have h : j < 5 := hj; omega
  rcases hq with rfl | rfl | rfl | rfl | rfl
  ·intro vs gq stq hl hf
   obtain ⟨v0, v1, v2, v3, v4, rfl⟩ := len_k5 hl
   have hB2 := (show Box gq m0 b1 84 [[.slice a1 n1 c1], [.map (some b2)]] [1, 1] from hf _ (memI 0 rfl) (by kernel_rfl))
   refine WP.loadB (v := .slice a1 n1 c1) hB2 (by kernel_rfl) (by kernel_rfl) ?_
   refine WP.dn (Shown.ok (v := .slice a1 n1 c1) (by kernel_rfl) (Step.refl _ _) ?_)
   exact ⟨tv, tv, tv, rfl, tv, tv, tv, tv, tv⟩
  ·intro vs gq stq hl hf
   obtain ⟨v0, v1, v2, v3, v4, rfl⟩ := len_k5 hl
   have hR1 := (show RdS k_S_notary_entry gq 86 a1 n1 c1 l1 from hf _ (memI 1 rfl) (by kernel_rfl))
   have e0 := (show v0 = .slice a1 n1 c1 from hf _ (memI 3 rfl) (by kernel_rfl))
   subst e0
   have hcal1 := P.slices_Clone_notary_entry_notary_entry gq (t + 1) l1 a1 n1 c1 hR1 l2 hk1
   refine WP.callC hcal1 (by kernel_rfl) ?_
   rintro _ g1 st1 ⟨a2, n2, c2, rfl, hR2⟩
   obtain rfl := hR2.len
   refine WP.dn (Shown.o (v := .slice a2 l2.length c2) st1.pure ?_)
   exact ⟨tv, tv, tv, tv, ⟨a2, c2, rfl, hR2⟩, tv, tv, tv, tv⟩
  ·intro vs gq stq hl hf
   obtain ⟨v0, v1, v2, v3, v4, rfl⟩ := len_k5 hl
   have hB2 := (show Box gq m0 b1 84 [[.slice a1 n1 c1], [.map (some b2)]] [1, 1] from hf _ (memI 0 rfl) (by kernel_rfl))
   refine WP.loadB (v := .map (some b2)) hB2 (by kernel_rfl) (by kernel_rfl) ?_
   refine WP.dn (Shown.ok (v := .map (some b2)) (by kernel_rfl) (Step.refl _ _) ?_)
   exact ⟨tv, tv, tv, tv, tv, rfl, tv, tv, tv⟩
  ·intro vs gq stq hl hf
   obtain ⟨v0, v1, v2, v3, v4, rfl⟩ := len_k5 hl
   have hB1 := (show MapB gq m1 b2 kv_S_notary_entry (Value.int .i64) w1 from hf _ (memI 2 rfl) (by kernel_rfl))
   have e2 := (show v2 = .map (some b2) from hf _ (memI 5 rfl) (by kernel_rfl))
   subst e2
   have hcal2 := P.maps_Clone_map_notary_entry_int_notary_entry_int gq m1 (t + 2) w1 b2 hB1 (by omega) d1 hk2
   refine WP.callC hcal2 (by kernel_rfl) ?_
   rintro _ g2 st2 ⟨b3, rfl, hB3⟩
   refine WP.dn (Shown.o (v := .map (some b3)) st2.pure ?_)
   exact ⟨tv, tv, tv, tv, tv, tv, ⟨b3, rfl, hB3⟩, tv, tv⟩
  ·intro vs gq stq hl hf
   obtain ⟨v0, v1, v2, v3, v4, rfl⟩ := len_k5 hl
   obtain ⟨a2, c2, e1, hR2⟩ := (show ∃ (a2 : Option Addr) (c2 : Nat), v1 = .slice a2 l2.length c2 ∧ OwnS k_S_notary_entry gq (t + 1) 86 a2 l2.length c2 l2 from hf _ (memI 4 rfl) (by kernel_rfl))
   subst e1
   obtain ⟨b3, e3, hB3⟩ := (show ∃ (b3 : Nat), v3 = .map (some b3) ∧ MapB gq (t + 2) b3 kv_S_notary_entry (Value.int .i64) d1 from hf _ (memI 6 rfl) (by kernel_rfl))
   subst e3
   refine WP.alloc (T := 84) (t + 3) [[.slice a2 l2.length c2], [.map (some b3)]] [1, 1] (by kernel_rfl) rfl ?_
   intro g3 b4 st3 hB4
   refine WP.dn (Shown.o (v := .pointer (some ⟨b4, 0, none⟩)) st3.pure ?_)
   exact ⟨tv, tv, tv, tv, tv, tv, tv, ⟨b4, a2, c2, b3, rfl, rfl, rfl, hB4, (hR2.mono st3 (fun x => x) (fun x => x)), (hB3.mono st3 (fun x => x))⟩, tv⟩
 intro vs g4 st4 hl hf
 obtain ⟨v0, v1, v2, v3, v4, rfl⟩ := len_k5 hl
 obtain ⟨b4, a2, c2, b3, e4, e1, e3, hB4, hR2, hB3⟩ := (show ∃ (b4 : Nat) (a2 : Option Addr) (c2 : Nat) (b3 : Nat), v4 = .pointer (some ⟨b4, 0, none⟩) ∧ v1 = .slice a2 l2.length c2 ∧ v3 = .map (some b3) ∧ Box g4 (t + 3) b4 84 [[.slice a2 l2.length c2], [.map (some b3)]] [1, 1] ∧ OwnS k_S_notary_entry g4 (t + 1) 86 a2 l2.length c2 l2 ∧ MapB g4 (t + 2) b3 kv_S_notary_entry (Value.int .i64) d1 from hf _ (memI 7 rfl) (by kernel_rfl))
 subst e4
 subst e1
 subst e3
 replace tot := tot.trans st4.toNo.pure
 refine NX.then_n ?_
 refine CP.refr 17 [(2, .pointer (some ⟨b4, 0, none⟩))] (by kernel_rfl) (by kernel_rfl) ?_
 clear ds
 intro ds
 refine CP.ret ?_
 obtain ⟨g5, hw1, st5, hnew⟩ := hB4.relab r0
 refine NX.regw hw1 ?_
 replace hR2 := hR2.mono st5 (WL.no1 (by omega)) (WL.no1 (by omega))
 replace hB3 := hB3.mono st5 (WL.no1 (by omega))
 replace tot := tot.trans (st5.up1 (.inr (by omega)))
 clear hB4
 have hB4 := hnew
 clear hnew
 obtain ⟨g6, hw2, st6, hnew⟩ := hR2.relab (by omega) r1
 refine NX.regw hw2 ?_
 replace hB4 := hB4.mono st6 (WL.no1 (by omega))
 replace hB3 := hB3.mono st6 (WL.no1 (by omega))
 replace tot := tot.trans (st6.up1 (.inr (by omega)))
 clear hR2
 have hR2 := hnew
 clear hnew
 obtain ⟨g7, hw3, st7, hnew⟩ := hB3.relab r2
 refine NX.regw hw3 ?_
 replace hB4 := hB4.mono st7 (WL.no1 (by omega))
 replace hR2 := hR2.mono st7 (WL.no1 (by omega)) (WL.no1 (by omega))
 replace tot := tot.trans (st7.up1 (.inr (by omega)))
 clear hB3
 have hB3 := hnew
 clear hnew
 replace hs := Option.some.inj hs
 obtain ⟨rfl, rfl⟩ := Prod.mk.inj hs
 exact NX.fin (v := .pointer (some ⟨b4, 0, none⟩)) (Res.still (by kernel_rfl)) tot htL ⟨b4, a2, l2.length, c2, b3, rfl, hB4, hR2, hB3⟩
def N.slices_Equal_notary_entry_notary_entry_0 : List (List Nat) := [[], [], [0, 1], [0, 1, 2], [], [], [4, 5], [4, 5, 6], [0, 1, 2, 3, 4, 5, 6, 7]]
def F.slices_Equal_notary_entry_notary_entry.l1 (l1 : List S_notary_entry) (l2 : List S_notary_entry) : Nat → Int → Option (Bool)
 | 0, _ => none
 | k + 1, x1 => (if decide (x1 < (l1.length : Int)) = true then (if (0 : Int) ≤ x1 ∧ x1 < (l1.length : Int) then (if (0 : Int) ≤ x1 ∧ x1 < (l2.length : Int) then (if (!((((getI l1 x1).f1).1 == ((getI l2 x1).f1).1) && (((getI l1 x1).f2).1 == ((getI l2 x1).f2).1))) = true then (some false) else (F.slices_Equal_notary_entry_notary_entry.l1 l1 l2 k (IntKind.i64.wrap (x1 + 1)))) else none) else none) else (some true))
def F.slices_Equal_notary_entry_notary_entry (l1 : List S_notary_entry) (l2 : List S_notary_entry) : Option (Bool) := (if ((l1.length : Int) != (l2.length : Int)) = true then (some false) else (F.slices_Equal_notary_entry_notary_entry.l1 l1 l2 fuel 0))
theorem P.slices_Equal_notary_entry_notary_entry (g0 : GW) (l1 : List S_notary_entry) (l2 : List S_notary_entry) (a1 : Option Addr) (n1 : Nat) (c1 : Nat) (a2 : Option Addr) (n2 : Nat) (c2 : Nat) (hR1 : RdS k_S_notary_entry g0 86 a1 n1 c1 l1) (hR2 : RdS k_S_notary_entry g0 86 a2 n2 c2 l2) (o1 : Bool) (hs : F.slices_Equal_notary_entry_notary_entry l1 l2 = some o1) :
  Calls Try.prog 31 #[.slice a1 n1 c1, .slice a2 n2 c2] g0.w (Ret NoM g0 fun v g => v = .bool o1) := by
 refine calls_of (args := [.slice a1 n1 c1, .slice a2 n2 c2]) Try.func31 rfl (0) ?_
 intro t ht htL
 refine ⟨_, rfl, ?_⟩
 refine CP.refr 26 [(0, .slice a1 n1 c1), (1, .slice a2 n2 c2)] (by kernel_rfl) (by kernel_rfl) ?_
 intro ds
 have tot : Step (fun l => NoM l ∨ t ≤ l) g0 g0 := Step.refl _ _
 unfold F.slices_Equal_notary_entry_notary_entry at hs
 refine CP.seqR ?_
 refine WP.stl 1 ?_
 refine WP.dn ?_
 refine NX.then_n ?_
 refine CP.seq ?_
 refine CP.seqR ?_
 refine WP.stl 1 ?_
 refine WP.len (a := a1) (cp := c1) hR1.len (by kernel_rfl) ?_
 refine WP.stl 1 ?_
 refine WP.len (a := a2) (cp := c2) hR2.len (by kernel_rfl) ?_
 refine WP.stl 1 ?_
 refine WP.dn ?_
 refine NX.then_n ?_
 refine CP.cond (b := ((l1.length : Int) != (l2.length : Int))) (by kernel_rfl) (fun h1 => ?_) (fun h1 => ?_)
 ·replace hs := of_if_t hs h1
  refine CP.seqR ?_
  refine WP.stl 1 ?_
  refine WP.dn ?_
  refine NX.then_n ?_
  refine CP.ret ?_
  refine NX.then_r ?_
  replace hs := Option.some.inj hs
  obtain rfl := hs
  exact NX.fin (v := .bool false) (Res.still (by kernel_rfl)) tot htL rfl
 replace hs := of_if_f hs h1
 refine CP.skip ?_
 refine NX.then_n ?_
 refine CP.seq ?_
 refine CP.seqR ?_
 refine WP.stl 1 ?_
 refine WP.len (a := a1) (cp := c1) hR1.len (by kernel_rfl) ?_
 refine WP.stl 1 ?_
 refine WP.dn ?_
 refine NX.then_n ?_
 refine CP.block ?_
 generalize fuel = k1 at hs
 refine CP.loop (fun k1 tm g => ∃ (x1 : Int), Fr 26 [(0, .slice a1 n1 c1), (1, .slice a2 n2 c2), (12, .int .i64 (l1.length : Int)), (13, .int .i64 x1)] tm ∧ Step (fun l => NoM l ∨ t ≤ l) g0 g ∧ RdS k_S_notary_entry g 86 a1 n1 c1 l1 ∧ RdS k_S_notary_entry g 86 a2 n2 c2 l2 ∧ F.slices_Equal_notary_entry_notary_entry.l1 l1 l2 k1 x1 = some o1) k1 ?_ ?_ ?_
 ·exact ⟨0, ⟨by kernel_rfl, by kernel_rfl⟩, tot, hR1, hR2, hs⟩
 ·rintro tm g ⟨x1, hF, tot, hR1, hR2, hs⟩
  exact absurd hs (by simp [F.slices_Equal_notary_entry_notary_entry.l1])
 clear tot hs hR1 hR2
 rintro k1 tm g ⟨x1, hF, tot, hR1, hR2, hs⟩
 clear ds
 obtain ⟨ds, rfl⟩ := hF.open
 clear hF
 unfold F.slices_Equal_notary_entry_notary_entry.l1 at hs
 refine CP.seqR ?_
 refine WP.stl 1 ?_
 refine WP.dn ?_
 refine NX.then_n ?_
 refine CP.seq ?_
 refine CP.cond (b := decide (x1 < (l1.length : Int))) (by kernel_rfl) (fun h6 => ?_) (fun h6 => ?_)
 ·replace hs := of_if_t hs h6
  refine CP.skip ?_
  refine NX.then_n ?_
  refine CP.seq ?_
  refine CP.block ?_
  refine CP.seqR ?_
  refine WP.stl 2 ?_
  refine WP.dn ?_
  refine NX.then_n ?_
  refine CP.seq ?_
  by_cases hc5 : (0 : Int) ≤ x1 ∧ x1 < (l1.length : Int)
  case neg => rw [if_neg hc5] at hs; cases hs
  replace hs := of_if_p hs hc5
  by_cases hc6 : (0 : Int) ≤ x1 ∧ x1 < (l2.length : Int)
  case neg => rw [if_neg hc6] at hs; cases hs
  replace hs := of_if_p hs hc6
  obtain ⟨b5, u5, ha5⟩ := hR1.at hc5
  obtain ⟨b6, u6, ha6⟩ := hR2.at hc6
  refine CP.drawL (by kernel_rfl) [2, 3, 6, 7, 8] N.slices_Equal_notary_entry_notary_entry_0 [⟨none, [], [], fun l g => RdS k_S_notary_entry g 86 a1 n1 c1 l1⟩, ⟨none, [], [], fun l g => RdS k_S_notary_entry g 86 a2 n2 c2 l2⟩, ⟨some 0, [], [0], fun l g => l.getD 0 undef = .pointer (some ⟨b5, u5 + x1.toNat * 16, none⟩)⟩, ⟨some 1, [], [1], fun l g => l.getD 0 undef = AG [encA .u8 ((getI l1 x1).f1), encA .u8 ((getI l1 x1).f2)]⟩, ⟨some 2, [], [2], fun l g => l.getD 0 undef = .pointer (some ⟨b6, u6 + x1.toNat * 16, none⟩)⟩, ⟨some 3, [], [3], fun l g => l.getD 0 undef = AG [encA .u8 ((getI l2 x1).f1), encA .u8 ((getI l2 x1).f2)]⟩, ⟨some 4, [], [4], fun l g => l.getD 0 undef = .bool (!((((getI l1 x1).f1).1 == ((getI l2 x1).f1).1) && (((getI l1 x1).f2).1 == ((getI l2 x1).f2).1)))⟩] [[], [], [], [], []] [] [0, 1, 4, 5] [] (by kernel_rfl) (by simp) (by simp) ⟨fun _ _ _ _ st h0 hl hj hR1 => (RdS.mono (e := 86) hR1 st h0), fun _ _ _ _ st h0 hl hj hR2 => (RdS.mono (e := 86) hR2 st h0), fun _ _ _ _ st h0 hl hj e0 => e0, fun _ _ _ _ st h0 hl hj e1 => e1, fun _ _ _ _ st h0 hl hj e2 => e2, fun _ _ _ _ st h0 hl hj e3 => e3, fun _ _ _ _ st h0 hl hj e4 => e4, tv⟩ ⟨hR1, hR2, tv, tv, tv, tv, tv, tv⟩ (by kernel_rfl) (fun vs => by kernel_rfl) ?_ ?_ ?_
  ·intro j hj; exact absurd hj (by simp)
  ·intro j hj
   have hq : j = 0 ∨ j = 1 ∨ j = 2 ∨ j = 3 ∨ j = 4 := by have h : j < 5 := hj; omega
   rcases hq with rfl | rfl | rfl | rfl | rfl
   ·intro vs gq stq hl hf
    obtain ⟨v0, v1, v2, v3, v4, rfl⟩ := len_k5 hl
    have hR1 := (show RdS k_S_notary_entry gq 86 a1 n1 c1 l1 from hf _ (memI 0 rfl) (by kernel_rfl))
    refine WP.indexA (t := 81) (e := 86) (sz := 16) (cap := c1) (k := .i64) (i := x1) hR1.len ha5 (by kernel_rfl) (by kernel_rfl) hc5 ?_
    refine WP.dn (Shown.ok (v := .pointer (some ⟨b5, u5 + x1.toNat * 16, none⟩)) (by kernel_rfl) (Step.refl _ _) ?_)
    exact ⟨tv, tv, rfl, tv, tv, tv, tv, tv⟩
   ·intro vs gq stq hl hf
    obtain ⟨v0, v1, v2, v3, v4, rfl⟩ := len_k5 hl
    have hR1 := (show RdS k_S_notary_entry gq 86 a1 n1 c1 l1 from hf _ (memI 0 rfl) (by kernel_rfl))
    have e0 := (show v0 = .pointer (some ⟨b5, u5 + x1.toNat * 16, none⟩) from hf _ (memI 2 rfl) (by kernel_rfl))
    subst e0
    obtain ⟨cs5, hcR5, hcV5⟩ := hR1.src.view (getI_some hc5) ha5
    replace hcR5 := k_S_notary_entry.opn hcR5
    refine WP.loadV [encA .u8 ((getI l1 x1).f1), encA .u8 ((getI l1 x1).f2)] [8, 8] hcV5 hcR5 (by simp [len_encA]) (f := 0) (ty := 86) (agg := true) (size := 16) (rs := [encA .u8 ((getI l1 x1).f1), encA .u8 ((getI l1 x1).f2)]) (v := AG [encA .u8 ((getI l1 x1).f1), encA .u8 ((getI l1 x1).f2)]) (by kernel_rfl) (by kernel_rfl) (by kernel_rfl) (by kernel_rfl) ?_
    refine WP.dn (Shown.ok (v := AG [encA .u8 ((getI l1 x1).f1), encA .u8 ((getI l1 x1).f2)]) (by kernel_rfl) (Step.refl _ _) ?_)
    exact ⟨tv, tv, tv, rfl, tv, tv, tv, tv⟩
   ·intro vs gq stq hl hf
    obtain ⟨v0, v1, v2, v3, v4, rfl⟩ := len_k5 hl
    have hR2 := (show RdS k_S_notary_entry gq 86 a2 n2 c2 l2 from hf _ (memI 1 rfl) (by kernel_rfl))
    refine WP.indexA (t := 81) (e := 86) (sz := 16) (cap := c2) (k := .i64) (i := x1) hR2.len ha6 (by kernel_rfl) (by kernel_rfl) hc6 ?_
    refine WP.dn (Shown.ok (v := .pointer (some ⟨b6, u6 + x1.toNat * 16, none⟩)) (by kernel_rfl) (Step.refl _ _) ?_)
    exact ⟨tv, tv, tv, tv, rfl, tv, tv, tv⟩
   ·intro vs gq stq hl hf
    obtain ⟨v0, v1, v2, v3, v4, rfl⟩ := len_k5 hl
    have hR2 := (show RdS k_S_notary_entry gq 86 a2 n2 c2 l2 from hf _ (memI 1 rfl) (by kernel_rfl))
    have e2 := (show v2 = .pointer (some ⟨b6, u6 + x1.toNat * 16, none⟩) from hf _ (memI 4 rfl) (by kernel_rfl))
    subst e2
    obtain ⟨cs6, hcR6, hcV6⟩ := hR2.src.view (getI_some hc6) ha6
    replace hcR6 := k_S_notary_entry.opn hcR6
    refine WP.loadV [encA .u8 ((getI l2 x1).f1), encA .u8 ((getI l2 x1).f2)] [8, 8] hcV6 hcR6 (by simp [len_encA]) (f := 0) (ty := 86) (agg := true) (size := 16) (rs := [encA .u8 ((getI l2 x1).f1), encA .u8 ((getI l2 x1).f2)]) (v := AG [encA .u8 ((getI l2 x1).f1), encA .u8 ((getI l2 x1).f2)]) (by kernel_rfl) (by kernel_rfl) (by kernel_rfl) (by kernel_rfl) ?_
    refine WP.dn (Shown.ok (v := AG [encA .u8 ((getI l2 x1).f1), encA .u8 ((getI l2 x1).f2)]) (by kernel_rfl) (Step.refl _ _) ?_)
    exact ⟨tv, tv, tv, tv, tv, rfl, tv, tv⟩
   ·intro vs gq stq hl hf
    obtain ⟨v0, v1, v2, v3, v4, rfl⟩ := len_k5 hl
    have e1 := (show v1 = AG [encA .u8 ((getI l1 x1).f1), encA .u8 ((getI l1 x1).f2)] from hf _ (memI 3 rfl) (by kernel_rfl))
    subst e1
    have e3 := (show v3 = AG [encA .u8 ((getI l2 x1).f1), encA .u8 ((getI l2 x1).f2)] from hf _ (memI 5 rfl) (by kernel_rfl))
    subst e3
    refine WP.neV (by kernel_rfl) (by kernel_rfl) (EqV.struct (d := 9999) (t := 86) (xs := [encA .u8 ((getI l1 x1).f1), encA .u8 ((getI l1 x1).f2)]) (ys := [encA .u8 ((getI l2 x1).f1), encA .u8 ((getI l2 x1).f2)]) (by kernel_rfl) (by kernel_rfl) (EqFi.cons (ns := [8, 8]) (ms := [8, 8]) (t' := 32) (x := AG [encA .u8 ((getI l1 x1).f1)]) (y := AG [encA .u8 ((getI l2 x1).f1)]) (by simp [len_encA]) (by simp [len_encA]) (by kernel_rfl) (by kernel_rfl) (EqV.arr (d := 9997) (t := 32) (e := 5) (m := 8) (k := .u8) (x := (getI l1 x1).f1) (y := (getI l2 x1).f1) (by kernel_rfl) (by kernel_rfl)) (EqFi.one (ns := [8, 8]) (ms := [8, 8]) (t' := 32) (x := AG [encA .u8 ((getI l1 x1).f2)]) (y := AG [encA .u8 ((getI l2 x1).f2)]) (by simp [len_encA]) (by simp [len_encA]) (by kernel_rfl) (by kernel_rfl) (EqV.arr (d := 9997) (t := 32) (e := 5) (m := 8) (k := .u8) (x := (getI l1 x1).f2) (y := (getI l2 x1).f2) (by kernel_rfl) (by kernel_rfl)) (Nat.le_of_ble_eq_true rfl)))) ?_
    refine WP.dn (Shown.ok (v := .bool (!((((getI l1 x1).f1).1 == ((getI l2 x1).f1).1) && (((getI l1 x1).f2).1 == ((getI l2 x1).f2).1)))) (by kernel_rfl) (Step.refl _ _) ?_)
    exact ⟨tv, tv, tv, tv, tv, tv, rfl, tv⟩
  intro vs g1 st1 hl hf
  obtain ⟨v0, v1, v2, v3, v4, rfl⟩ := len_k5 hl
  have e4 := (show v4 = .bool (!((((getI l1 x1).f1).1 == ((getI l2 x1).f1).1) && (((getI l1 x1).f2).1 == ((getI l2 x1).f2).1))) from hf _ (memI 6 rfl) (by kernel_rfl))
  subst e4
  replace hR1 := hR1.mono st1.toNo (fun x => x)
  replace hR2 := hR2.mono st1.toNo (fun x => x)
  replace tot := tot.trans st1.toNo.pure
  refine NX.then_n ?_
  refine CP.refr 26 [(0, .slice a1 n1 c1), (1, .slice a2 n2 c2), (12, .int .i64 (l1.length : Int)), (13, .int .i64 x1), (24, .bool (!((((getI l1 x1).f1).1 == ((getI l2 x1).f1).1) && (((getI l1 x1).f2).1 == ((getI l2 x1).f2).1))))] (by kernel_rfl) (by kernel_rfl) ?_
  clear ds
  intro ds
  refine CP.cond (b := (!((((getI l1 x1).f1).1 == ((getI l2 x1).f1).1) && (((getI l1 x1).f2).1 == ((getI l2 x1).f2).1)))) (by kernel_rfl) (fun h7 => ?_) (fun h7 => ?_)
  ·replace hs := of_if_t hs h7
   refine CP.seqR ?_
   refine WP.stl 1 ?_
   refine WP.dn ?_
   refine NX.then_n ?_
   refine CP.ret ?_
   refine NX.block_r ?_
   refine NX.then_r ?_
   refine NX.then_r ?_
   refine NX.block_r ?_
   refine NX.then_r ?_
   replace hs := Option.some.inj hs
   obtain rfl := hs
   exact NX.fin (v := .bool false) (Res.still (by kernel_rfl)) tot htL rfl
  replace hs := of_if_f hs h7
  refine CP.skip ?_
  refine NX.block_n ?_
  refine NX.then_n ?_
  refine CP.region ?_
  refine WP.stl 2 ?_
  refine WP.dn ?_
  refine NX.post ?_
  exact ⟨(IntKind.i64.wrap (x1 + 1)), ⟨by kernel_rfl, by kernel_rfl⟩, tot, hR1, hR2, hs⟩
 replace hs := of_if_f hs h6
 refine CP.exit ?_
 refine NX.then_e ?_
 refine NX.then_e ?_
 refine NX.block_s ?_
 refine NX.then_n ?_
 refine CP.seqR ?_
 refine WP.stl 1 ?_
 refine WP.dn ?_
 refine NX.then_n ?_
 refine CP.ret ?_
 replace hs := Option.some.inj hs
 obtain rfl := hs
 exact NX.fin (v := .bool true) (Res.still (by kernel_rfl)) tot htL rfl
def N.notary_Book_Same_0 : List (List Nat) := [[], [0], [0, 1], [0, 1, 2], [], [4], [4, 5], [4, 5, 6], [0, 1, 2, 3, 4, 5, 6, 7], [0, 1, 2, 3, 4, 5, 6, 7, 8]]
def F.notary_Book_Same (l1 : List S_notary_entry) (w1 : (List (S_notary_entry × Int))) (l2 : List S_notary_entry) (w2 : (List (S_notary_entry × Int))) : Option (Bool) := ((F.slices_Equal_notary_entry_notary_entry l1 l2).bind fun q1 => (some q1))
theorem P.notary_Book_Same (g0 : GW) (m0 : Nat) (m1 : Nat) (m2 : Nat) (m3 : Nat) (l1 : List S_notary_entry) (w1 : (List (S_notary_entry × Int))) (l2 : List S_notary_entry) (w2 : (List (S_notary_entry × Int))) (a1 : Option Addr) (n1 : Nat) (c1 : Nat) (a2 : Option Addr) (n2 : Nat) (c2 : Nat) (b1 : Nat) (b2 : Nat) (b3 : Nat) (b4 : Nat) (hR1 : RdS k_S_notary_entry g0 86 a1 n1 c1 l1) (hR2 : RdS k_S_notary_entry g0 86 a2 n2 c2 l2) (hB1 : MapB g0 m1 b2 kv_S_notary_entry (Value.int .i64) w1) (hB2 : Box g0 m0 b1 84 [[.slice a1 n1 c1], [.map (some b2)]] [1, 1]) (hB3 : MapB g0 m3 b4 kv_S_notary_entry (Value.int .i64) w2) (hB4 : Box g0 m2 b3 84 [[.slice a2 n2 c2], [.map (some b4)]] [1, 1]) (hm1_0 : m1 ≠ m0) (hm2_0 : m2 ≠ m0) (hm2_1 : m2 ≠ m1) (hm3_0 : m3 ≠ m0) (hm3_1 : m3 ≠ m1) (hm3_2 : m3 ≠ m2) (hm0 : m0 ≠ 0) (hm1 : m1 ≠ 0) (hm2 : m2 ≠ 0) (hm3 : m3 ≠ 0) (o1 : Bool) (hs : F.notary_Book_Same l1 w1 l2 w2 = some o1) :
  Calls Try.prog 20 #[.pointer (some ⟨b1, 0, none⟩), .pointer (some ⟨b3, 0, none⟩)] g0.w (Ret NoM g0 fun v g => v = .bool o1) := by
 refine calls_of (args := [.pointer (some ⟨b1, 0, none⟩), .pointer (some ⟨b3, 0, none⟩)]) Try.func20 rfl (m0 + m1 + m2 + m3 + 0) ?_
 intro t ht htL
 refine ⟨_, rfl, ?_⟩
 refine CP.refr 26 [(0, .pointer (some ⟨b1, 0, none⟩)), (1, .pointer (some ⟨b3, 0, none⟩))] (by kernel_rfl) (by kernel_rfl) ?_
 intro ds
 have tot : Step (fun l => NoM l ∨ t ≤ l) g0 g0 := Step.refl _ _
 unfold F.notary_Book_Same at hs
 refine CP.seqR ?_
 refine WP.stl 1 ?_
 refine WP.dn ?_
 refine NX.then_n ?_
 refine CP.seq ?_
 refine CP.seq ?_
 refine CP.region ?_
 refine WP.stl 6 ?_
 refine WP.dn ?_
 refine NX.then_n ?_
 refine CP.cond_f (by kernel_rfl) ?_
 refine CP.skip ?_
 refine NX.then_n ?_
 refine CP.seq ?_
 replace hs := Option.bind_eq_some_iff.1 hs
 obtain ⟨q1, hk1, hs⟩ := hs
 refine CP.drawL (by kernel_rfl) [3, 7, 8] N.notary_Book_Same_0 [⟨none, [], [], fun l g => Box g m0 b1 84 [[.slice a1 n1 c1], [.map (some b2)]] [1, 1]⟩, ⟨none, [], [], fun l g => RdS k_S_notary_entry g 86 a1 n1 c1 l1⟩, ⟨none, [], [], fun l g => Box g m2 b3 84 [[.slice a2 n2 c2], [.map (some b4)]] [1, 1]⟩, ⟨none, [], [], fun l g => RdS k_S_notary_entry g 86 a2 n2 c2 l2⟩, ⟨some 0, [], [0], fun l g => l.getD 0 undef = .slice a1 n1 c1⟩, ⟨some 1, [], [1], fun l g => l.getD 0 undef = .slice a2 n2 c2⟩, ⟨some 2, [], [2], fun l g => l.getD 0 undef = .bool q1⟩] [[], [], []] [] [0, 1, 2, 4, 5, 6] [9] (by kernel_rfl) (by simp) (by simp) ⟨fun _ _ _ _ st h0 hl hj hB2 => (hB2.mono st (fun h => absurd (hl _ h) (by simp))), fun _ _ _ _ st h0 hl hj hR1 => (RdS.mono (e := 86) hR1 st h0), fun _ _ _ _ st h0 hl hj hB4 => (hB4.mono st (fun h => absurd (hl _ h) (by simp))), fun _ _ _ _ st h0 hl hj hR2 => (RdS.mono (e := 86) hR2 st h0), fun _ _ _ _ st h0 hl hj e0 => e0, fun _ _ _ _ st h0 hl hj e1 => e1, fun _ _ _ _ st h0 hl hj e2 => e2, tv⟩ ⟨hB2, hR1, hB4, hR2, tv, tv, tv, tv⟩ (by kernel_rfl) (fun vs => by kernel_rfl) ?_ ?_ ?_
 ·intro j hj
  have hq : j = 0 := by have h : j < 1 := hj; omega
  rcases hq with rfl
  ·intro vs gq stq hl hf
   obtain ⟨v0, v1, v2, rfl⟩ := len_k3 hl
   have e2 := (show v2 = .bool q1 from hf _ (memI 6 rfl) (by kernel_rfl))
   subst e2
   show Option.isSome _ = true
   kernel_rfl
 ·intro j hj
  have hq : j = 0 ∨ j = 1 ∨ j = 2 := by have h : j < 3 := hj; omega
  rcases hq with rfl | rfl | rfl
  ·intro vs gq stq hl hf
   obtain ⟨v0, v1, v2, rfl⟩ := len_k3 hl
   have hB2 := (show Box gq m0 b1 84 [[.slice a1 n1 c1], [.map (some b2)]] [1, 1] from hf _ (memI 0 rfl) (by kernel_rfl))
   refine WP.loadB (v := .slice a1 n1 c1) hB2 (by kernel_rfl) (by kernel_rfl) ?_
   refine WP.dn (Shown.ok (v := .slice a1 n1 c1) (by kernel_rfl) (Step.refl _ _) ?_)
   exact ⟨tv, tv, tv, tv, rfl, tv, tv, tv⟩
  ·intro vs gq stq hl hf
   obtain ⟨v0, v1, v2, rfl⟩ := len_k3 hl
   have hB4 := (show Box gq m2 b3 84 [[.slice a2 n2 c2], [.map (some b4)]] [1, 1] from hf _ (memI 2 rfl) (by kernel_rfl))
   refine WP.loadB (v := .slice a2 n2 c2) hB4 (by kernel_rfl) (by kernel_rfl) ?_
   refine WP.dn (Shown.ok (v := .slice a2 n2 c2) (by kernel_rfl) (Step.refl _ _) ?_)
   exact ⟨tv, tv, tv, tv, tv, rfl, tv, tv⟩
  ·intro vs gq stq hl hf
   obtain ⟨v0, v1, v2, rfl⟩ := len_k3 hl
   have hR1 := (show RdS k_S_notary_entry gq 86 a1 n1 c1 l1 from hf _ (memI 1 rfl) (by kernel_rfl))
   have hR2 := (show RdS k_S_notary_entry gq 86 a2 n2 c2 l2 from hf _ (memI 3 rfl) (by kernel_rfl))
   have e0 := (show v0 = .slice a1 n1 c1 from hf _ (memI 4 rfl) (by kernel_rfl))
   subst e0
   have e1 := (show v1 = .slice a2 n2 c2 from hf _ (memI 5 rfl) (by kernel_rfl))
   subst e1
   have hcal1 := P.slices_Equal_notary_entry_notary_entry gq l1 l2 a1 n1 c1 a2 n2 c2 hR1 hR2 q1 hk1
   refine WP.callC hcal1 (by kernel_rfl) ?_
   rintro _ g1 st1 rfl
   refine WP.dn (Shown.o (v := .bool q1) st1.pure ?_)
   exact ⟨tv, tv, tv, tv, tv, tv, rfl, tv⟩
 intro vs g2 st2 hl hf
 obtain ⟨v0, v1, v2, rfl⟩ := len_k3 hl
 have e2 := (show v2 = .bool q1 from hf _ (memI 6 rfl) (by kernel_rfl))
 subst e2
 replace tot := tot.trans st2.toNo.pure
 refine NX.then_n ?_
 refine CP.refr 26 [(4, .bool q1)] (by kernel_rfl) (by kernel_rfl) ?_
 clear ds
 intro ds
 refine CP.ret ?_
 replace hs := Option.some.inj hs
 obtain rfl := hs
 exact NX.fin (v := .bool q1) (Res.still (by kernel_rfl)) tot htL rfl
def N.notary_Book_Verify_0 : List (List Nat) := [[], [0], [0, 1], [0, 1, 2], [], [], [4, 5], [0, 1, 2, 3, 4, 5, 6], [0, 1, 2, 3, 4, 5, 6, 7], [0, 1, 2, 3, 4, 5, 6, 7, 8], [0, 1, 2, 3, 4, 5, 6, 7, 8], [0, 1, 2, 3, 4, 5, 6, 7, 8, 9], [0, 1, 2, 3, 4, 5, 6, 7, 8, 9, 10, 11]]
def F.notary_Book_Verify.c1 (q1 : Bool) : Option (Bool) := (some q1)
def N.notary_Book_Verify_1 : List (List Nat) := [[], [0], [0, 1], [0, 1], [0, 1, 3], [0, 1, 3, 4], [0, 1, 3, 4, 5], [0, 1], [0, 1, 7], [0, 1, 7, 8], [0, 1, 7, 8, 9], [0, 1, 7, 8, 9, 10], [0, 1, 3, 4, 5, 6, 7, 8, 9, 10, 11], [0, 1, 2, 3, 4, 5, 6, 7, 8, 9, 10, 11, 12], [0, 1, 2, 3, 4, 5, 6, 7, 8, 9, 10, 11, 12, 13], [0, 1, 2, 3, 4, 5, 6, 7, 8, 9, 10, 11, 12, 13, 14]]
def F.notary_Book_Verify (l1 : List S_notary_entry) (w1 : (List (S_notary_entry × Int))) (d1 : Arr Int 8) (d2 : Arr Int 8) (l2 : List Int) : Option (Bool) := (if ((l2.length : Int) != 2) = true then (some false) else (if (mapGet eqk_S_notary_entry 0 w1 (⟨d1, d2⟩ : S_notary_entry)).2 = true then (if (0 : Int) ≤ 0 ∧ 0 < (l2.length : Int) then (if (0 : Int) ≤ 1 ∧ 1 < (l2.length : Int) then (F.notary_Book_Verify.c1 (((mapGet eqk_S_notary_entry 0 w1 (⟨d1, d2⟩ : S_notary_entry)).1) == (bitOr .i64 (IntKind.i64.wrap (getI l2 0)) (shV true .i64 (IntKind.i64.wrap (getI l2 1)) 8)))) else none) else none) else (F.notary_Book_Verify.c1 false)))
theorem P.notary_Book_Verify (g0 : GW) (m0 : Nat) (m1 : Nat) (l1 : List S_notary_entry) (w1 : (List (S_notary_entry × Int))) (d1 : Arr Int 8) (d2 : Arr Int 8) (l2 : List Int) (a1 : Option Addr) (n1 : Nat) (c1 : Nat) (a2 : Option Addr) (n2 : Nat) (c2 : Nat) (b1 : Nat) (b2 : Nat) (hR1 : RdS k_S_notary_entry g0 86 a1 n1 c1 l1) (hR2 : RdS (Kd.int .u8) g0 5 a2 n2 c2 l2) (hB1 : MapB g0 m1 b2 kv_S_notary_entry (Value.int .i64) w1) (hB2 : Box g0 m0 b1 84 [[.slice a1 n1 c1], [.map (some b2)]] [1, 1]) (hm1_0 : m1 ≠ m0) (hm0 : m0 ≠ 0) (hm1 : m1 ≠ 0) (o1 : Bool) (hs : F.notary_Book_Verify l1 w1 d1 d2 l2 = some o1) :
  Calls Try.prog 14 #[.pointer (some ⟨b1, 0, none⟩), AG [encA .u8 d1], AG [encA .u8 d2], .slice a2 n2 c2] g0.w (Ret NoM g0 fun v g => v = .bool o1) := by
 refine calls_of (args := [.pointer (some ⟨b1, 0, none⟩), AG [encA .u8 d1], AG [encA .u8 d2], .slice a2 n2 c2]) Try.func14 rfl (m0 + m1 + 0) ?_
 intro t ht htL
 refine ⟨_, rfl, ?_⟩
 refine CP.refr 44 [(0, .pointer (some ⟨b1, 0, none⟩)), (1, AG [encA .u8 d1]), (2, AG [encA .u8 d2]), (3, .slice a2 n2 c2)] (by kernel_rfl) (by kernel_rfl) ?_
 intro ds
 have tot : Step (fun l => NoM l ∨ t ≤ l) g0 g0 := Step.refl _ _
 unfold F.notary_Book_Verify at hs
 refine CP.seqR ?_
 refine WP.alloc (T := 32) (t + 1) [encA .u8 d1] [8] (by kernel_rfl) (by simp [len_encA]) ?_
 intro g1 b3 st1 hB3
 replace hB2 := hB2.mono st1 (fun x => x)
 replace hR1 := hR1.mono st1 (fun x => x)
 replace hB1 := hB1.mono st1 (fun x => x)
 replace hR2 := hR2.mono st1 (fun x => x)
 replace tot := tot.trans st1.pure
 refine WP.alloc (T := 32) (t + 2) [encA .u8 d2] [8] (by kernel_rfl) (by simp [len_encA]) ?_
 intro g2 b4 st2 hB4
 replace hB2 := hB2.mono st2 (fun x => x)
 replace hR1 := hR1.mono st2 (fun x => x)
 replace hB1 := hB1.mono st2 (fun x => x)
 replace hR2 := hR2.mono st2 (fun x => x)
 replace hB3 := hB3.mono st2 (fun x => x)
 replace tot := tot.trans st2.pure
 refine WP.stl 1 ?_
 refine WP.dn ?_
 refine NX.then_n ?_
 refine CP.seq ?_
 refine CP.seq ?_
 refine CP.region ?_
 refine WP.stl 4 ?_
 refine WP.len (a := a2) (cp := c2) hR2.len (by kernel_rfl) ?_
 refine WP.stl 2 ?_
 refine WP.dn ?_
 refine NX.then_n ?_
 refine CP.cond (b := ((l2.length : Int) != 2)) (by kernel_rfl) (fun h1 => ?_) (fun h1 => ?_)
 ·replace hs := of_if_t hs h1
  refine CP.seqR ?_
  refine WP.stl 1 ?_
  refine WP.dn ?_
  refine NX.then_n ?_
  refine CP.ret ?_
  refine NX.then_r ?_
  replace hs := Option.some.inj hs
  obtain rfl := hs
  exact NX.fin (v := .bool false) (Res.still (by kernel_rfl)) tot htL rfl
 replace hs := of_if_f hs h1
 refine CP.skip ?_
 refine NX.then_n ?_
 refine CP.seq ?_
 refine CP.drawL (by kernel_rfl) [3, 4, 5, 6, 7] N.notary_Book_Verify_0 [⟨none, [], [], fun l g => Box g m0 b1 84 [[.slice a1 n1 c1], [.map (some b2)]] [1, 1]⟩, ⟨none, [], [], fun l g => MapB g m1 b2 kv_S_notary_entry (Value.int .i64) w1⟩, ⟨none, [], [], fun l g => Box g (t + 1) b3 32 [encA .u8 d1] [8]⟩, ⟨none, [], [], fun l g => Box g (t + 2) b4 32 [encA .u8 d2] [8]⟩, ⟨some 0, [], [0], fun l g => l.getD 0 undef = .map (some b2)⟩, ⟨some 1, [], [1], fun l g => l.getD 0 undef = AG [encA .u8 d1]⟩, ⟨some 2, [], [2], fun l g => l.getD 0 undef = AG [encA .u8 d2]⟩, ⟨some 3, [], [3], fun l g => l.getD 0 undef = AG [encA .u8 d1, encA .u8 d2]⟩, ⟨some 4, [], [4], fun l g => l.getD 0 undef = .tuple #[.int .i64 ((mapGet eqk_S_notary_entry 0 w1 (⟨d1, d2⟩ : S_notary_entry)).1), .bool ((mapGet eqk_S_notary_entry 0 w1 (⟨d1, d2⟩ : S_notary_entry)).2)]⟩] [[], [], [], [], []] [] [0, 1, 2] [8, 9, 10, 11, 12] (by kernel_rfl) (by simp) (by simp) ⟨fun _ _ _ _ st h0 hl hj hB2 => (hB2.mono st (fun h => absurd (hl _ h) (by simp))), fun _ _ _ _ st h0 hl hj hB1 => (hB1.mono st (fun h => absurd (hl _ h) (by simp))), fun _ _ _ _ st h0 hl hj hB3 => (hB3.mono st (fun h => absurd (hl _ h) (by simp))), fun _ _ _ _ st h0 hl hj hB4 => (hB4.mono st (fun h => absurd (hl _ h) (by simp))), fun _ _ _ _ st h0 hl hj e0 => e0, fun _ _ _ _ st h0 hl hj e1 => e1, fun _ _ _ _ st h0 hl hj e2 => e2, fun _ _ _ _ st h0 hl hj e3 => e3, fun _ _ _ _ st h0 hl hj e4 => e4, tv⟩ ⟨hB2, hB1, hB3, hB4, tv, tv, tv, tv, tv, tv⟩ (by kernel_rfl) (fun vs => by kernel_rfl) ?_ ?_ ?_
 ·intro j hj
  have hq : j = 0 ∨ j = 1 ∨ j = 2 ∨ j = 3 ∨ j = 4 := by have h : j < 5 := hj; omega
  rcases hq with rfl | rfl | rfl | rfl | rfl
  ·intro vs gq stq hl hf
   obtain ⟨v0, v1, v2, v3, v4, rfl⟩ := len_k5 hl
   have e4 := (show v4 = .tuple #[.int .i64 ((mapGet eqk_S_notary_entry 0 w1 (⟨d1, d2⟩ : S_notary_entry)).1), .bool ((mapGet eqk_S_notary_entry 0 w1 (⟨d1, d2⟩ : S_notary_entry)).2)] from hf _ (memI 8 rfl) (by kernel_rfl))
   subst e4
   show Option.isSome _ = true
   kernel_rfl
  ·intro vs gq stq hl hf
   obtain ⟨v0, v1, v2, v3, v4, rfl⟩ := len_k5 hl
   have e4 := (show v4 = .tuple #[.int .i64 ((mapGet eqk_S_notary_entry 0 w1 (⟨d1, d2⟩ : S_notary_entry)).1), .bool ((mapGet eqk_S_notary_entry 0 w1 (⟨d1, d2⟩ : S_notary_entry)).2)] from hf _ (memI 8 rfl) (by kernel_rfl))
   subst e4
   show Option.isSome _ = true
   kernel_rfl
  ·intro vs gq stq hl hf
   obtain ⟨v0, v1, v2, v3, v4, rfl⟩ := len_k5 hl
   have e4 := (show v4 = .tuple #[.int .i64 ((mapGet eqk_S_notary_entry 0 w1 (⟨d1, d2⟩ : S_notary_entry)).1), .bool ((mapGet eqk_S_notary_entry 0 w1 (⟨d1, d2⟩ : S_notary_entry)).2)] from hf _ (memI 8 rfl) (by kernel_rfl))
   subst e4
   show Option.isSome _ = true
   kernel_rfl
  ·intro vs gq stq hl hf
   obtain ⟨v0, v1, v2, v3, v4, rfl⟩ := len_k5 hl
   have e4 := (show v4 = .tuple #[.int .i64 ((mapGet eqk_S_notary_entry 0 w1 (⟨d1, d2⟩ : S_notary_entry)).1), .bool ((mapGet eqk_S_notary_entry 0 w1 (⟨d1, d2⟩ : S_notary_entry)).2)] from hf _ (memI 8 rfl) (by kernel_rfl))
   subst e4
   show Option.isSome _ = true
   kernel_rfl
  ·intro vs gq stq hl hf
   obtain ⟨v0, v1, v2, v3, v4, rfl⟩ := len_k5 hl
   have e4 := (show v4 = .tuple #[.int .i64 ((mapGet eqk_S_notary_entry 0 w1 (⟨d1, d2⟩ : S_notary_entry)).1), .bool ((mapGet eqk_S_notary_entry 0 w1 (⟨d1, d2⟩ : S_notary_entry)).2)] from hf _ (memI 8 rfl) (by kernel_rfl))
   subst e4
   show Option.isSome _ = true
   kernel_rfl
 ·intro j hj
  have hq : j = 0 ∨ j = 1 ∨ j = 2 ∨ j = 3 ∨ j = 4 := by have h : j < 5 := hj; omega
  rcases hq with rfl | rfl | rfl | rfl | rfl
  ·intro vs gq stq hl hf
   obtain ⟨v0, v1, v2, v3, v4, rfl⟩ := len_k5 hl
   have hB2 := (show Box gq m0 b1 84 [[.slice a1 n1 c1], [.map (some b2)]] [1, 1] from hf _ (memI 0 rfl) (by kernel_rfl))
   refine WP.loadB (v := .map (some b2)) hB2 (by kernel_rfl) (by kernel_rfl) ?_
   refine WP.dn (Shown.ok (v := .map (some b2)) (by kernel_rfl) (Step.refl _ _) ?_)
   exact ⟨tv, tv, tv, tv, rfl, tv, tv, tv, tv, tv⟩
  ·intro vs gq stq hl hf
   obtain ⟨v0, v1, v2, v3, v4, rfl⟩ := len_k5 hl
   have hB3 := (show Box gq (t + 1) b3 32 [encA .u8 d1] [8] from hf _ (memI 2 rfl) (by kernel_rfl))
   refine WP.loadB (v := AG [encA .u8 d1]) hB3 (by kernel_rfl) (by kernel_rfl) ?_
   refine WP.dn (Shown.ok (v := AG [encA .u8 d1]) (by kernel_rfl) (Step.refl _ _) ?_)
   exact ⟨tv, tv, tv, tv, tv, rfl, tv, tv, tv, tv⟩
  ·intro vs gq stq hl hf
   obtain ⟨v0, v1, v2, v3, v4, rfl⟩ := len_k5 hl
   have hB4 := (show Box gq (t + 2) b4 32 [encA .u8 d2] [8] from hf _ (memI 3 rfl) (by kernel_rfl))
   refine WP.loadB (v := AG [encA .u8 d2]) hB4 (by kernel_rfl) (by kernel_rfl) ?_
   refine WP.dn (Shown.ok (v := AG [encA .u8 d2]) (by kernel_rfl) (Step.refl _ _) ?_)
   exact ⟨tv, tv, tv, tv, tv, tv, rfl, tv, tv, tv⟩
  ·intro vs gq stq hl hf
   obtain ⟨v0, v1, v2, v3, v4, rfl⟩ := len_k5 hl
   have e1 := (show v1 = AG [encA .u8 d1] from hf _ (memI 5 rfl) (by kernel_rfl))
   subst e1
   have e2 := (show v2 = AG [encA .u8 d2] from hf _ (memI 6 rfl) (by kernel_rfl))
   subst e2
   refine WP.buildS (places := #[(0, 8), (8, 8)]) (t := 86) [encA .u8 (zA 8), encA .u8 (zA 8)] [8, 8] (by kernel_rfl) (by kernel_rfl) (by simp [len_encA]) (by kernel_rfl) ((.cons (i := 0) (off := 0) (v := AG [encA .u8 d1]) (mid := [encA .u8 d1, encA .u8 (zA 8)]) [encA .u8 d1] [8] (by kernel_rfl) (by kernel_rfl) (by simp [len_encA]) (by kernel_rfl) (.cons (i := 1) (off := 8) (v := AG [encA .u8 d2]) (mid := [encA .u8 d1, encA .u8 d2]) [encA .u8 d2] [8] (by kernel_rfl) (by kernel_rfl) (by simp [len_encA]) (by kernel_rfl) .nil))) ?_
   refine WP.dn (Shown.ok (v := AG [encA .u8 d1, encA .u8 d2]) (by kernel_rfl) (Step.refl _ _) ?_)
   exact ⟨tv, tv, tv, tv, tv, tv, tv, rfl, tv, tv⟩
  ·intro vs gq stq hl hf
   obtain ⟨v0, v1, v2, v3, v4, rfl⟩ := len_k5 hl
   have hB1 := (show MapB gq m1 b2 kv_S_notary_entry (Value.int .i64) w1 from hf _ (memI 1 rfl) (by kernel_rfl))
   have e0 := (show v0 = .map (some b2) from hf _ (memI 4 rfl) (by kernel_rfl))
   subst e0
   have e3 := (show v3 = AG [encA .u8 d1, encA .u8 d2] from hf _ (memI 7 rfl) (by kernel_rfl))
   subst e3
   refine WP.mapGet (et := 3) (z := 0) (k := (⟨d1, d2⟩ : S_notary_entry)) hB1 keyOk_S_notary_entry (by kernel_rfl) (by kernel_rfl) ?_
   refine WP.dn (Shown.ok (v := .tuple #[.int .i64 ((mapGet eqk_S_notary_entry 0 w1 (⟨d1, d2⟩ : S_notary_entry)).1), .bool ((mapGet eqk_S_notary_entry 0 w1 (⟨d1, d2⟩ : S_notary_entry)).2)]) (by kernel_rfl) (Step.refl _ _) ?_)
   exact ⟨tv, tv, tv, tv, tv, tv, tv, tv, rfl, tv⟩
 intro vs g3 st3 hl hf
 obtain ⟨v0, v1, v2, v3, v4, rfl⟩ := len_k5 hl
 have e4 := (show v4 = .tuple #[.int .i64 ((mapGet eqk_S_notary_entry 0 w1 (⟨d1, d2⟩ : S_notary_entry)).1), .bool ((mapGet eqk_S_notary_entry 0 w1 (⟨d1, d2⟩ : S_notary_entry)).2)] from hf _ (memI 8 rfl) (by kernel_rfl))
 subst e4
 replace hR2 := hR2.mono st3.toNo (fun x => x)
 replace tot := tot.trans st3.toNo.pure
 refine NX.then_n ?_
 refine CP.refr 44 [(3, .slice a2 n2 c2), (9, .int .i64 ((mapGet eqk_S_notary_entry 0 w1 (⟨d1, d2⟩ : S_notary_entry)).1)), (10, .bool ((mapGet eqk_S_notary_entry 0 w1 (⟨d1, d2⟩ : S_notary_entry)).2))] (by kernel_rfl) (by kernel_rfl) ?_
 clear ds
 intro ds
 refine CP.cut (fun tm g => ∃ (q1 : Bool), Fr 44 [(8, .bool q1)] tm ∧ Step (fun l => NoM l ∨ t ≤ l) g0 g ∧ (F.notary_Book_Verify.c1 q1) = some o1) ?_ ?_
 ·refine bool_split (b := (mapGet eqk_S_notary_entry 0 w1 (⟨d1, d2⟩ : S_notary_entry)).2) (fun h3 => ?_) (fun h3 => ?_)
  ·replace hs := of_if_t hs h3
   by_cases hc3 : (0 : Int) ≤ 0 ∧ 0 < (l2.length : Int)
   case neg => rw [if_neg hc3] at hs; cases hs
   replace hs := of_if_p hs hc3
   by_cases hc4 : (0 : Int) ≤ 1 ∧ 1 < (l2.length : Int)
   case neg => rw [if_neg hc4] at hs; cases hs
   replace hs := of_if_p hs hc4
   obtain ⟨b7, u3, ha3⟩ := hR2.at hc3
   obtain ⟨b8, u4, ha4⟩ := hR2.at hc4
   refine CP.drawL (by kernel_rfl) [1, 4, 5, 8, 9] N.notary_Book_Verify_1 [⟨none, [], [], fun l g => RdS (Kd.int .u8) g 5 a2 n2 c2 l2⟩, ⟨some 0, [], [0], fun l g => l.getD 0 undef = .bool true⟩, ⟨some 1, [], [1], fun l g => l.getD 0 undef = .pointer (some ⟨b7, u3 + (0 : Int).toNat * 1, none⟩)⟩, ⟨some 2, [], [2], fun l g => l.getD 0 undef = .int .u8 (getI l2 0)⟩, ⟨some 3, [], [3], fun l g => l.getD 0 undef = .pointer (some ⟨b8, u4 + (1 : Int).toNat * 1, none⟩)⟩, ⟨some 4, [], [4], fun l g => l.getD 0 undef = .int .u8 (getI l2 1)⟩] [[], [], [], [], []] [] [0] [2, 3, 6, 7, 10, 11, 12, 13, 14, 15] (by kernel_rfl) (by simp) (by simp) ⟨fun _ _ _ _ st h0 hl hj hR2 => (RdS.mono (e := 5) hR2 st h0), fun _ _ _ _ st h0 hl hj e0 => e0, fun _ _ _ _ st h0 hl hj e1 => e1, fun _ _ _ _ st h0 hl hj e2 => e2, fun _ _ _ _ st h0 hl hj e3 => e3, fun _ _ _ _ st h0 hl hj e4 => e4, tv⟩ ⟨hR2, tv, tv, tv, tv, tv, tv⟩ (by kernel_rfl) (fun vs => by kernel_rfl) ?_ ?_ ?_
   ·intro j hj
    have hq : j = 0 ∨ j = 1 ∨ j = 2 ∨ j = 3 ∨ j = 4 ∨ j = 5 ∨ j = 6 ∨ j = 7 ∨ j = 8 ∨ j = 9 := by have h : j < 10 := hj; omega
    rcases hq with rfl | rfl | rfl | rfl | rfl | rfl | rfl | rfl | rfl | rfl
    ·intro vs gq stq hl hf
     obtain ⟨v0, v1, v2, v3, v4, rfl⟩ := len_k5 hl
     have e0 := (show v0 = .bool true from hf _ (memI 1 rfl) (by kernel_rfl))
     subst e0
     show Option.isSome _ = true
     kernel_rfl
    ·intro vs gq stq hl hf
     obtain ⟨v0, v1, v2, v3, v4, rfl⟩ := len_k5 hl
     have e0 := (show v0 = .bool true from hf _ (memI 1 rfl) (by kernel_rfl))
     subst e0
     show Option.isSome _ = true
     kernel_rfl
    ·intro vs gq stq hl hf
     obtain ⟨v0, v1, v2, v3, v4, rfl⟩ := len_k5 hl
     have e0 := (show v0 = .bool true from hf _ (memI 1 rfl) (by kernel_rfl))
     subst e0
     have e2 := (show v2 = .int .u8 (getI l2 0) from hf _ (memI 3 rfl) (by kernel_rfl))
     subst e2
     show Option.isSome _ = true
     kernel_rfl
    ·intro vs gq stq hl hf
     obtain ⟨v0, v1, v2, v3, v4, rfl⟩ := len_k5 hl
     have e0 := (show v0 = .bool true from hf _ (memI 1 rfl) (by kernel_rfl))
     subst e0
     show Option.isSome _ = true
     kernel_rfl
    ·intro vs gq stq hl hf
     obtain ⟨v0, v1, v2, v3, v4, rfl⟩ := len_k5 hl
     have e0 := (show v0 = .bool true from hf _ (memI 1 rfl) (by kernel_rfl))
     subst e0
     have e4 := (show v4 = .int .u8 (getI l2 1) from hf _ (memI 5 rfl) (by kernel_rfl))
     subst e4
     show Option.isSome _ = true
     kernel_rfl
    ·intro vs gq stq hl hf
     obtain ⟨v0, v1, v2, v3, v4, rfl⟩ := len_k5 hl
     have e0 := (show v0 = .bool true from hf _ (memI 1 rfl) (by kernel_rfl))
     subst e0
     have e4 := (show v4 = .int .u8 (getI l2 1) from hf _ (memI 5 rfl) (by kernel_rfl))
     subst e4
     show Option.isSome _ = true
     kernel_rfl
    ·intro vs gq stq hl hf
     obtain ⟨v0, v1, v2, v3, v4, rfl⟩ := len_k5 hl
     have e0 := (show v0 = .bool true from hf _ (memI 1 rfl) (by kernel_rfl))
     subst e0
     have e2 := (show v2 = .int .u8 (getI l2 0) from hf _ (memI 3 rfl) (by kernel_rfl))
     subst e2
     have e4 := (show v4 = .int .u8 (getI l2 1) from hf _ (memI 5 rfl) (by kernel_rfl))
     subst e4
     show Option.isSome _ = true
     kernel_rfl
    ·intro vs gq stq hl hf
     obtain ⟨v0, v1, v2, v3, v4, rfl⟩ := len_k5 hl
     have e0 := (show v0 = .bool true from hf _ (memI 1 rfl) (by kernel_rfl))
     subst e0
     have e2 := (show v2 = .int .u8 (getI l2 0) from hf _ (memI 3 rfl) (by kernel_rfl))
     subst e2
     have e4 := (show v4 = .int .u8 (getI l2 1) from hf _ (memI 5 rfl) (by kernel_rfl))
     subst e4
     show Option.isSome _ = true
     kernel_rfl
    ·intro vs gq stq hl hf
     obtain ⟨v0, v1, v2, v3, v4, rfl⟩ := len_k5 hl
     have e0 := (show v0 = .bool true from hf _ (memI 1 rfl) (by kernel_rfl))
     subst e0
     have e2 := (show v2 = .int .u8 (getI l2 0) from hf _ (memI 3 rfl) (by kernel_rfl))
     subst e2
     have e4 := (show v4 = .int .u8 (getI l2 1) from hf _ (memI 5 rfl) (by kernel_rfl))
     subst e4
     show Option.isSome _ = true
     kernel_rfl
    ·intro vs gq stq hl hf
     obtain ⟨v0, v1, v2, v3, v4, rfl⟩ := len_k5 hl
     have e0 := (show v0 = .bool true from hf _ (memI 1 rfl) (by kernel_rfl))
     subst e0
     have e2 := (show v2 = .int .u8 (getI l2 0) from hf _ (memI 3 rfl) (by kernel_rfl))
     subst e2
     have e4 := (show v4 = .int .u8 (getI l2 1) from hf _ (memI 5 rfl) (by kernel_rfl))
     subst e4
     show Option.isSome _ = true
     kernel_rfl
   ·intro j hj
    have hq : j = 0 ∨ j = 1 ∨ j = 2 ∨ j = 3 ∨ j = 4 := by have h : j < 5 := hj; omega
    rcases hq with rfl | rfl | rfl | rfl | rfl
    ·intro vs gq stq hl hf
     obtain ⟨v0, v1, v2, v3, v4, rfl⟩ := len_k5 hl
     refine WP.stl 1 ?_
     refine WP.dn (Shown.ok (v := .bool ((mapGet eqk_S_notary_entry 0 w1 (⟨d1, d2⟩ : S_notary_entry)).2)) (by kernel_rfl) (Step.refl _ _) ?_)
     exact ⟨tv, congrArg Value.bool h3, tv, tv, tv, tv, tv⟩
    ·intro vs gq stq hl hf
     obtain ⟨v0, v1, v2, v3, v4, rfl⟩ := len_k5 hl
     have hR2 := (show RdS (Kd.int .u8) gq 5 a2 n2 c2 l2 from hf _ (memI 0 rfl) (by kernel_rfl))
     have e0 := (show v0 = .bool true from hf _ (memI 1 rfl) (by kernel_rfl))
     subst e0
     refine WP.indexA (t := 37) (e := 5) (sz := 1) (cap := c2) (k := .i64) (i := 0) hR2.len ha3 (by kernel_rfl) (by kernel_rfl) hc3 ?_
     refine WP.dn (Shown.ok (v := .pointer (some ⟨b7, u3 + (0 : Int).toNat * 1, none⟩)) (by kernel_rfl) (Step.refl _ _) ?_)
     exact ⟨tv, tv, rfl, tv, tv, tv, tv⟩
    ·intro vs gq stq hl hf
     obtain ⟨v0, v1, v2, v3, v4, rfl⟩ := len_k5 hl
     have hR2 := (show RdS (Kd.int .u8) gq 5 a2 n2 c2 l2 from hf _ (memI 0 rfl) (by kernel_rfl))
     have e0 := (show v0 = .bool true from hf _ (memI 1 rfl) (by kernel_rfl))
     subst e0
     have e1 := (show v1 = .pointer (some ⟨b7, u3 + (0 : Int).toNat * 1, none⟩) from hf _ (memI 2 rfl) (by kernel_rfl))
     subst e1
     obtain ⟨cs3, hcR3, hcV3⟩ := hR2.src.view (getI_some hc3) ha3
     replace hcR3 := Kd.o_int hcR3
     refine WP.loadV [[.int .u8 (getI l2 0)]] [1] hcV3 hcR3 rfl (f := 0) (ty := 5) (agg := false) (size := 1) (rs := [[.int .u8 (getI l2 0)]]) (v := .int .u8 (getI l2 0)) (by kernel_rfl) (by kernel_rfl) (by kernel_rfl) (by kernel_rfl) ?_
     refine WP.dn (Shown.ok (v := .int .u8 (getI l2 0)) (by kernel_rfl) (Step.refl _ _) ?_)
     exact ⟨tv, tv, tv, rfl, tv, tv, tv⟩
    ·intro vs gq stq hl hf
     obtain ⟨v0, v1, v2, v3, v4, rfl⟩ := len_k5 hl
     have hR2 := (show RdS (Kd.int .u8) gq 5 a2 n2 c2 l2 from hf _ (memI 0 rfl) (by kernel_rfl))
     have e0 := (show v0 = .bool true from hf _ (memI 1 rfl) (by kernel_rfl))
     subst e0
     refine WP.indexA (t := 37) (e := 5) (sz := 1) (cap := c2) (k := .i64) (i := 1) hR2.len ha4 (by kernel_rfl) (by kernel_rfl) hc4 ?_
     refine WP.dn (Shown.ok (v := .pointer (some ⟨b8, u4 + (1 : Int).toNat * 1, none⟩)) (by kernel_rfl) (Step.refl _ _) ?_)
     exact ⟨tv, tv, tv, tv, rfl, tv, tv⟩
    ·intro vs gq stq hl hf
     obtain ⟨v0, v1, v2, v3, v4, rfl⟩ := len_k5 hl
     have hR2 := (show RdS (Kd.int .u8) gq 5 a2 n2 c2 l2 from hf _ (memI 0 rfl) (by kernel_rfl))
     have e0 := (show v0 = .bool true from hf _ (memI 1 rfl) (by kernel_rfl))
     subst e0
     have e3 := (show v3 = .pointer (some ⟨b8, u4 + (1 : Int).toNat * 1, none⟩) from hf _ (memI 4 rfl) (by kernel_rfl))
     subst e3
     obtain ⟨cs4, hcR4, hcV4⟩ := hR2.src.view (getI_some hc4) ha4
     replace hcR4 := Kd.o_int hcR4
     refine WP.loadV [[.int .u8 (getI l2 1)]] [1] hcV4 hcR4 rfl (f := 0) (ty := 5) (agg := false) (size := 1) (rs := [[.int .u8 (getI l2 1)]]) (v := .int .u8 (getI l2 1)) (by kernel_rfl) (by kernel_rfl) (by kernel_rfl) (by kernel_rfl) ?_
     refine WP.dn (Shown.ok (v := .int .u8 (getI l2 1)) (by kernel_rfl) (Step.refl _ _) ?_)
     exact ⟨tv, tv, tv, tv, tv, rfl, tv⟩
   intro vs g4 st4 hl hf
   obtain ⟨v0, v1, v2, v3, v4, rfl⟩ := len_k5 hl
   have e0 := (show v0 = .bool true from hf _ (memI 1 rfl) (by kernel_rfl))
   subst e0
   have e2 := (show v2 = .int .u8 (getI l2 0) from hf _ (memI 3 rfl) (by kernel_rfl))
   subst e2
   have e4 := (show v4 = .int .u8 (getI l2 1) from hf _ (memI 5 rfl) (by kernel_rfl))
   subst e4
   replace tot := tot.trans st4.toNo.pure
   refine NX.post ?_
   exact ⟨(((mapGet eqk_S_notary_entry 0 w1 (⟨d1, d2⟩ : S_notary_entry)).1) == (bitOr .i64 (IntKind.i64.wrap (getI l2 0)) (shV true .i64 (IntKind.i64.wrap (getI l2 1)) 8))), ⟨by kernel_rfl, by kernel_rfl⟩, tot, hs⟩
  replace hs := of_if_f hs h3
  refine CP.drawL (by kernel_rfl) [1] N.notary_Book_Verify_1 [⟨some 0, [], [0], fun l g => l.getD 0 undef = .bool false⟩] [[]] [] [0] [2, 3, 4, 5, 6, 7, 8, 9, 10, 11, 12, 13, 14, 15] (by kernel_rfl) (by simp) (by simp) ⟨fun _ _ _ _ st h0 hl hj e0 => e0, tv⟩ ⟨tv, tv⟩ (by kernel_rfl) (fun vs => by kernel_rfl) ?_ ?_ ?_
  ·intro j hj
   have hq : j = 0 ∨ j = 1 ∨ j = 2 ∨ j = 3 ∨ j = 4 ∨ j = 5 ∨ j = 6 ∨ j = 7 ∨ j = 8 ∨ j = 9 ∨ j = 10 ∨ j = 11 ∨ j = 12 ∨ j = 13 := by have h : j < 14 := hj; omega
   rcases hq with rfl | rfl | rfl | rfl | rfl | rfl | rfl | rfl | rfl | rfl | rfl | rfl | rfl | rfl
   ·intro vs gq stq hl hf
    obtain ⟨v0, rfl⟩ := len_k1 hl
    have e0 := (show v0 = .bool false from hf _ (memI 0 rfl) (by kernel_rfl))
    subst e0
    show Option.isSome _ = true
    kernel_rfl
   ·intro vs gq stq hl hf
    obtain ⟨v0, rfl⟩ := len_k1 hl
    have e0 := (show v0 = .bool false from hf _ (memI 0 rfl) (by kernel_rfl))
    subst e0
    show Option.isSome _ = true
    kernel_rfl
   ·intro vs gq stq hl hf
    obtain ⟨v0, rfl⟩ := len_k1 hl
    have e0 := (show v0 = .bool false from hf _ (memI 0 rfl) (by kernel_rfl))
    subst e0
    show Option.isSome _ = true
    kernel_rfl
   ·intro vs gq stq hl hf
    obtain ⟨v0, rfl⟩ := len_k1 hl
    have e0 := (show v0 = .bool false from hf _ (memI 0 rfl) (by kernel_rfl))
    subst e0
    show Option.isSome _ = true
    kernel_rfl
   ·intro vs gq stq hl hf
    obtain ⟨v0, rfl⟩ := len_k1 hl
    have e0 := (show v0 = .bool false from hf _ (memI 0 rfl) (by kernel_rfl))
    subst e0
    show Option.isSome _ = true
    kernel_rfl
   ·intro vs gq stq hl hf
    obtain ⟨v0, rfl⟩ := len_k1 hl
    have e0 := (show v0 = .bool false from hf _ (memI 0 rfl) (by kernel_rfl))
    subst e0
    show Option.isSome _ = true
    kernel_rfl
   ·intro vs gq stq hl hf
    obtain ⟨v0, rfl⟩ := len_k1 hl
    have e0 := (show v0 = .bool false from hf _ (memI 0 rfl) (by kernel_rfl))
    subst e0
    show Option.isSome _ = true
    kernel_rfl
   ·intro vs gq stq hl hf
    obtain ⟨v0, rfl⟩ := len_k1 hl
    have e0 := (show v0 = .bool false from hf _ (memI 0 rfl) (by kernel_rfl))
    subst e0
    show Option.isSome _ = true
    kernel_rfl
   ·intro vs gq stq hl hf
    obtain ⟨v0, rfl⟩ := len_k1 hl
    have e0 := (show v0 = .bool false from hf _ (memI 0 rfl) (by kernel_rfl))
    subst e0
    show Option.isSome _ = true
    kernel_rfl
   ·intro vs gq stq hl hf
    obtain ⟨v0, rfl⟩ := len_k1 hl
    have e0 := (show v0 = .bool false from hf _ (memI 0 rfl) (by kernel_rfl))
    subst e0
    show Option.isSome _ = true
    kernel_rfl
   ·intro vs gq stq hl hf
    obtain ⟨v0, rfl⟩ := len_k1 hl
    have e0 := (show v0 = .bool false from hf _ (memI 0 rfl) (by kernel_rfl))
    subst e0
    show Option.isSome _ = true
    kernel_rfl
   ·intro vs gq stq hl hf
    obtain ⟨v0, rfl⟩ := len_k1 hl
    have e0 := (show v0 = .bool false from hf _ (memI 0 rfl) (by kernel_rfl))
    subst e0
    show Option.isSome _ = true
    kernel_rfl
   ·intro vs gq stq hl hf
    obtain ⟨v0, rfl⟩ := len_k1 hl
    have e0 := (show v0 = .bool false from hf _ (memI 0 rfl) (by kernel_rfl))
    subst e0
    show Option.isSome _ = true
    kernel_rfl
   ·intro vs gq stq hl hf
    obtain ⟨v0, rfl⟩ := len_k1 hl
    have e0 := (show v0 = .bool false from hf _ (memI 0 rfl) (by kernel_rfl))
    subst e0
    show Option.isSome _ = true
    kernel_rfl
  ·intro j hj
   have hq : j = 0 := by have h : j < 1 := hj; omega
   rcases hq with rfl
   ·intro vs gq stq hl hf
    obtain ⟨v0, rfl⟩ := len_k1 hl
    refine WP.stl 1 ?_
    refine WP.dn (Shown.ok (v := .bool ((mapGet eqk_S_notary_entry 0 w1 (⟨d1, d2⟩ : S_notary_entry)).2)) (by kernel_rfl) (Step.refl _ _) ?_)
    exact ⟨congrArg Value.bool h3, tv⟩
  intro vs g5 st5 hl hf
  obtain ⟨v0, rfl⟩ := len_k1 hl
  have e0 := (show v0 = .bool false from hf _ (memI 0 rfl) (by kernel_rfl))
  subst e0
  replace tot := tot.trans st5.toNo.pure
  refine NX.post ?_
  exact ⟨false, ⟨by kernel_rfl, by kernel_rfl⟩, tot, hs⟩
 clear tot hs hR2
 rintro tm g ⟨q1, hF, tot, hs⟩
 clear ds
 obtain ⟨ds, rfl⟩ := hF.open
 clear hF
 unfold F.notary_Book_Verify.c1 at hs
 refine CP.ret ?_
 replace hs := Option.some.inj hs
 obtain rfl := hs
 exact NX.fin (v := .bool q1) (Res.still (by kernel_rfl)) tot htL rfl
end Go.Proofs.Ytmdkjjdfbjgaoaa
