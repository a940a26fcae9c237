/-
  Walks, written by program: each Go function computes the plain function of its name, in whatever world its arguments' facts hold.
-/
import Derived.Test.YthfmgobnanifnaaRows
import Derived.Test.YthfmgobnanifnaaLabN
namespace Go.Proofs.Ythfmgobnanifnaa
open Go.RowKit Go.Lab
attribute [local irreducible] WP CP NX wpList Code.wp Calls
set_option maxRecDepth 100000
set_option maxHeartbeats 4000000
set_option linter.unusedVariables false
def str_0 : ByteArray := ⟨#[0, 1, 2, 2, 3, 3, 3, 3, 4, 4, 4, 4, 4, 4, 4, 4, 5, 5, 5, 5, 5, 5, 5, 5, 5, 5, 5, 5, 5, 5, 5, 5, 6, 6, 6, 6, 6, 6, 6, 6, 6, 6, 6, 6, 6, 6, 6, 6, 6, 6, 6, 6, 6, 6, 6, 6, 6, 6, 6, 6, 6, 6, 6, 6, 7, 7, 7, 7, 7, 7, 7, 7, 7, 7, 7, 7, 7, 7, 7, 7, 7, 7, 7, 7, 7, 7, 7, 7, 7, 7, 7, 7, 7, 7, 7, 7, 7, 7, 7, 7, 7, 7, 7, 7, 7, 7, 7, 7, 7, 7, 7, 7, 7, 7, 7, 7, 7, 7, 7, 7, 7, 7, 7, 7, 7, 7, 7, 7, 8, 8, 8, 8, 8, 8, 8, 8, 8, 8, 8, 8, 8, 8, 8, 8, 8, 8, 8, 8, 8, 8, 8, 8, 8, 8, 8, 8, 8, 8, 8, 8, 8, 8, 8, 8, 8, 8, 8, 8, 8, 8, 8, 8, 8, 8, 8, 8, 8, 8, 8, 8, 8, 8, 8, 8, 8, 8, 8, 8, 8, 8, 8, 8, 8, 8, 8, 8, 8, 8, 8, 8, 8, 8, 8, 8, 8, 8, 8, 8, 8, 8, 8, 8, 8, 8, 8, 8, 8, 8, 8, 8, 8, 8, 8, 8, 8, 8, 8, 8, 8, 8, 8, 8, 8, 8, 8, 8, 8, 8, 8, 8, 8, 8, 8, 8, 8, 8, 8, 8, 8, 8, 8, 8, 8, 8, 8, 8]⟩
def str_1 : ByteArray := ⟨#[115, 116, 97, 116, 101]⟩
def str_2 : ByteArray := ⟨#[108, 101, 110, 32, 111, 117, 116, 32, 111, 102, 32, 114, 97, 110, 103, 101]⟩
def str_3 : ByteArray := ⟨#[99, 97, 110, 110, 111, 116, 32, 98, 101, 32, 110, 101, 103, 97, 116, 105, 118, 101]⟩
structure S_notary_entry where
  f1 : (Arr Int 8)
  f2 : (Arr Int 8)
  deriving Inhabited
def k_S_notary_entry : Kd S_notary_entry := Kd.pull (Kd.pair (Kd.arrI 8 .u8) (Kd.arrI 8 .u8)) (fun x => (x.f1, x.f2))
theorem k_S_notary_entry.opn {g : GW} {cs : List Value} {x : S_notary_entry} (h : k_S_notary_entry.R g cs x) : cs = [encA .u8 x.f1, encA .u8 x.f2].flatten := by
  obtain ⟨q0, d0, rfl, h0, h1⟩ := h
  replace h0 : q0 = encA .u8 x.f1 := h0
  subst h0
  replace h1 : d0 = encA .u8 x.f2 := h1
  subst h1
  exact by simp
theorem k_S_notary_entry.mk {g : GW} {s0 s1 : List Value} {f0 : (Arr Int 8)} {f1 : (Arr Int 8)} (h0 : ((Kd.arrI 8 .u8)).R g s0 f0) (h1 : ((Kd.arrI 8 .u8)).R g s1 f1) : k_S_notary_entry.R g [s0, s1].flatten ⟨f0, f1⟩ := by
  refine ⟨_, _, rfl, h0, (by simpa using h1)⟩
def kv_S_notary_entry (x : S_notary_entry) : Value := AG [encA .u8 x.f1, encA .u8 x.f2]
def eqk_S_notary_entry (x y : S_notary_entry) : Bool := ((x.f1.1 == y.f1.1) && (x.f2.1 == y.f2.1))
theorem keyOk_S_notary_entry : KeyOk Try.prog 173 kv_S_notary_entry eqk_S_notary_entry where
  eqv := fun x y => (EqV.struct (d := 9999) (t := 173) (xs := [encA .u8 x.f1, encA .u8 x.f2]) (ys := [encA .u8 y.f1, encA .u8 y.f2]) (by kernel_rfl) (by kernel_rfl) (EqFi.cons (ns := [8, 8]) (ms := [8, 8]) (t' := 23) (x := AG [encA .u8 x.f1]) (y := AG [encA .u8 y.f1]) (by simp [len_encA]) (by simp [len_encA]) (by kernel_rfl) (by kernel_rfl) (EqV.arr (d := 9997) (t := 23) (e := 5) (m := 8) (k := .u8) (x := x.f1) (y := y.f1) (by kernel_rfl) (by kernel_rfl)) (EqFi.one (ns := [8, 8]) (ms := [8, 8]) (t' := 23) (x := AG [encA .u8 x.f2]) (y := AG [encA .u8 y.f2]) (by simp [len_encA]) (by simp [len_encA]) (by kernel_rfl) (by kernel_rfl) (EqV.arr (d := 9997) (t := 23) (e := 5) (m := 8) (k := .u8) (x := x.f2) (y := y.f2) (by kernel_rfl) (by kernel_rfl)) (Nat.le_of_ble_eq_true rfl))))
  chk := fun w b x => by
    obtain ⟨a0_0, a0_1, a0_2, a0_3, a0_4, a0_5, a0_6, a0_7, h0⟩ := Arr.ex8 x.f1
    obtain ⟨a1_0, a1_1, a1_2, a1_3, a1_4, a1_5, a1_6, a1_7, h1⟩ := Arr.ex8 x.f2
    obtain ⟨x0, x1⟩ := x
    simp only [] at h0 h1
    subst h0; subst h1
    exact evalS_run (a := ()) (by kernel_rfl) w
  inj := fun x y h => by
    obtain ⟨x0, x1⟩ := x
    obtain ⟨y0, y1⟩ := y
    simp only [eqk_S_notary_entry, Bool.and_eq_true, beq_iff_eq] at h
    simp only [kv_S_notary_entry, encA, h]
  bits := fun x => sameBits_ints 9999 _ (by intro c hc; simp only [List.flatten_cons, List.flatten_nil, encA, List.mem_append, List.mem_map, List.not_mem_nil, or_false] at hc; rcases hc with ⟨_, _, rfl⟩ | ⟨_, _, rfl⟩ <;> exact ⟨_, _, rfl⟩)
  now := ⟨.struct (Try.prog.fieldsOf 173), by kernel_rfl, fun _ _ => rfl⟩

def F.baizelaw32_few (l1 : List Int) : Option ((List Int)) := (if (0 : Int) ≤ 0 ∧ 0 ≤ (imin (l1.length : Int) 5000) ∧ (imin (l1.length : Int) 5000) ≤ (l1.length : Int) then (some (sliceI l1 0 (imin (l1.length : Int) 5000))) else none)
theorem P.baizelaw32_few (g0 : GW) (l1 : List Int) (a1 : Option Addr) (n1 : Nat) (c1 : Nat) (hR1 : RdS (Kd.int .u8) g0 5 a1 n1 c1 l1) (o1 : List Int) (hs : F.baizelaw32_few l1 = some o1) :
  Calls Try.prog 11 #[.slice a1 n1 c1] g0.w (Ret NoM g0 fun v g => ∃ (a_1 : Option Addr) (n_1 : Nat) (c_1 : Nat), v = .slice a_1 n_1 c_1 ∧ RdS (Kd.int .u8) g 5 a_1 n_1 c_1 o1) := by
 refine calls_of (args := [.slice a1 n1 c1]) Try.func11 rfl (0) ?_
 intro t ht htL
 refine ⟨_, rfl, ?_⟩
 refine CP.refr 8 [(0, .slice a1 n1 c1)] (by kernel_rfl) (by kernel_rfl) ?_
 intro ds
 have tot : Step (fun l => NoM l ∨ t ≤ l) g0 g0 := Step.refl _ _
 unfold F.baizelaw32_few at hs
 refine CP.seqR ?_
 refine WP.stl 1 ?_
 refine WP.dn ?_
 refine NX.then_n ?_
 refine CP.seqR ?_
 refine WP.stl 2 ?_
 refine WP.len (a := a1) (cp := c1) hR1.len (by kernel_rfl) ?_
 refine WP.stl 1 ?_
 by_cases hc1 : (0 : Int) ≤ 0 ∧ 0 ≤ (imin (l1.length : Int) 5000) ∧ (imin (l1.length : Int) 5000) ≤ (l1.length : Int)
 case neg => rw [if_neg hc1] at hs; cases hs
 replace hs := of_if_p hs hc1
 refine WP.sliceR (lo := none) (hi := some (.int .i64 (imin (l1.length : Int) 5000))) hR1 0 (imin (l1.length : Int) 5000) (by kernel_rfl) (.inl ⟨rfl, rfl⟩) (.inr ⟨_, rfl⟩) hc1 ?_
 intro a2 c2 hR2
 refine WP.stl 1 ?_
 refine WP.dn ?_
 refine NX.then_n ?_
 refine CP.ret ?_
 replace hs := Option.some.inj hs
 obtain rfl := hs
 exact NX.fin (v := .slice a2 ((imin (l1.length : Int) 5000).toNat - (0 : Int).toNat) c2) (Res.still (by kernel_rfl)) tot htL ⟨a2, ((imin (l1.length : Int) 5000).toNat - (0 : Int).toNat), c2, rfl, hR2⟩
def F.slices_Clone_byte_byte_nil : Option ((List Int)) := (some ([]))
theorem P.slices_Clone_byte_byte_nil (g0 : GW) (r0 : Nat) (o1 : List Int) (hs : F.slices_Clone_byte_byte_nil = some o1) :
  Calls Try.prog 45 #[.slice none 0 0] g0.w (Ret NoM g0 fun v g => ∃ (a_1 : Option Addr) (n_1 : Nat) (c_1 : Nat), v = .slice a_1 n_1 c_1 ∧ OwnS (Kd.int .u8) g r0 5 a_1 n_1 c_1 o1) := by
 refine calls_of (args := [.slice none 0 0]) Try.func45 rfl (r0 + 0) ?_
 intro t ht htL
 refine ⟨_, rfl, ?_⟩
 refine CP.refr 8 [(0, .slice none 0 0)] (by kernel_rfl) (by kernel_rfl) ?_
 intro ds
 have tot : Step (fun l => NoM l ∨ t ≤ l) g0 g0 := Step.refl _ _
 unfold F.slices_Clone_byte_byte_nil at hs
 refine CP.seqR ?_
 refine WP.stl 1 ?_
 refine WP.dn ?_
 refine NX.then_n ?_
 refine CP.seq ?_
 refine CP.seqR ?_
 refine WP.stl 2 ?_
 refine WP.dn ?_
 refine NX.then_n ?_
 refine CP.cond_t (by kernel_rfl) ?_
 refine CP.seqR ?_
 refine WP.stl 1 ?_
 refine WP.dn ?_
 refine NX.then_n ?_
 refine CP.ret ?_
 refine NX.then_r ?_
 replace hs := Option.some.inj hs
 obtain rfl := hs
 exact NX.fin (v := .slice none 0 0) (Res.still (by kernel_rfl)) tot htL ⟨none, 0, 0, rfl, (OwnS.nil _ _ _ _)⟩
def F.slices_Clone_byte_byte_some (l1 : List Int) : Option ((List Int)) := (if ([] : List Int).length + l1.length ≤ 140737488355328 then (some (([] : List Int) ++ l1)) else none)
theorem P.slices_Clone_byte_byte_some (g0 : GW) (r0 : Nat) (l1 : List Int) (n1 : Nat) (c1 : Nat) (p1 : Addr) (hR1 : RdS (Kd.int .u8) g0 5 (some p1) n1 c1 l1) (o1 : List Int) (hs : F.slices_Clone_byte_byte_some l1 = some o1) :
  Calls Try.prog 45 #[.slice (some p1) n1 c1] g0.w (Ret NoM g0 fun v g => ∃ (a_1 : Option Addr) (n_1 : Nat) (c_1 : Nat), v = .slice a_1 n_1 c_1 ∧ OwnS (Kd.int .u8) g r0 5 a_1 n_1 c_1 o1) := by
 refine calls_of (args := [.slice (some p1) n1 c1]) Try.func45 rfl (r0 + 0) ?_
 intro t ht htL
 refine ⟨_, rfl, ?_⟩
 refine CP.refr 8 [(0, .slice (some p1) n1 c1)] (by kernel_rfl) (by kernel_rfl) ?_
 intro ds
 have tot : Step (fun l => NoM l ∨ t ≤ l) g0 g0 := Step.refl _ _
 unfold F.slices_Clone_byte_byte_some at hs
 refine CP.seqR ?_
 refine WP.stl 1 ?_
 refine WP.dn ?_
 refine NX.then_n ?_
 refine CP.seq ?_
 refine CP.seqR ?_
 refine WP.stl 2 ?_
 refine WP.dn ?_
 refine NX.then_n ?_
 refine CP.cond_f (by kernel_rfl) ?_
 refine CP.skip ?_
 refine NX.then_n ?_
 refine CP.seqR ?_
 refine WP.mkSl (kd := (Kd.int .u8)) (t := 24) (e := 5) (bytes := 1) (t + 1) [] ([] : List Int) (by kernel_rfl) (by kernel_rfl) (Nat.le_of_ble_eq_true rfl) (Nat.le_of_ble_eq_true rfl) all_nil (rfl) rfl ?_
 intro g1 a1 st1 hR2
 replace hR1 := hR1.mono st1 (fun x => x)
 replace tot := tot.trans st1.pure
 refine WP.stl 1 ?_
 by_cases hc1 : ([] : List Int).length + l1.length ≤ 140737488355328
 case neg => rw [if_neg hc1] at hs; cases hs
 replace hs := of_if_p hs hc1
 refine WP.append (kd := (Kd.int .u8)) (t := 24) (e := 5) (bytes := 1) (a2 := (some p1)) (c2 := c1) hR2 hR1.src hR1.len (by kernel_rfl) (by kernel_rfl) (by omega) (by simp only [maxLen]; omega) (by omega) ?_
 intro g2 a2 c2 st2 hR3
 replace hR1 := hR1.mono st2 (WL.no1 (by omega))
 replace tot := tot.trans (st2.up1 (.inr (by omega)))
 refine WP.stl 1 ?_
 refine WP.dn ?_
 refine NX.then_n ?_
 refine CP.ret ?_
 obtain ⟨g3, hw1, st3, hnew⟩ := hR3.relab (by omega) r0
 refine NX.regw hw1 ?_
 replace tot := tot.trans (st3.up1 (.inr (by omega)))
 clear hR3
 have hR3 := hnew
 clear hnew
 replace hs := Option.some.inj hs
 obtain rfl := hs
 exact NX.fin (v := .slice a2 (0 + n1) c2) (Res.still (by kernel_rfl)) tot htL ⟨a2, (0 + n1), c2, rfl, hR3⟩
def F.slices_Clone_byte_byte (l1 : List Int) : Option ((List Int)) := F.slices_Clone_byte_byte_some l1
theorem P.slices_Clone_byte_byte (g0 : GW) (r0 : Nat) (l1 : List Int) (a1 : Option Addr) (n1 : Nat) (c1 : Nat) (hR1 : RdS (Kd.int .u8) g0 5 a1 n1 c1 l1) (o1 : List Int) (hs : F.slices_Clone_byte_byte l1 = some o1) :
  Calls Try.prog 45 #[.slice a1 n1 c1] g0.w (Ret NoM g0 fun v g => ∃ (a_1 : Option Addr) (n_1 : Nat) (c_1 : Nat), v = .slice a_1 n_1 c_1 ∧ OwnS (Kd.int .u8) g r0 5 a_1 n_1 c_1 o1) := by
 rcases hR1.nilOr with ⟨rfl, rfl, rfl, rfl⟩ | ⟨b, rfl⟩
 ·exact P.slices_Clone_byte_byte_nil _ _ _ hs
 ·exact P.slices_Clone_byte_byte_some _ _ _ _ _ _ hR1 _ hs
def F.octet_NewReader (l1 : List Int) : Option ((List Int) × Int) := ((F.slices_Clone_byte_byte l1).bind fun l2 => (some (l2, 0)))
theorem P.octet_NewReader (g0 : GW) (r0 : Nat) (l1 : List Int) (a1 : Option Addr) (n1 : Nat) (c1 : Nat) (hR1 : RdS (Kd.int .u8) g0 5 a1 n1 c1 l1) (o1 : List Int) (o2 : Int) (hs : F.octet_NewReader l1 = some (o1, o2)) :
  Calls Try.prog 49 #[.slice a1 n1 c1] g0.w (Ret NoM g0 fun v g => ∃ (b_1 : Nat) (a_2 : Option Addr) (n_2 : Nat) (c_2 : Nat), v = .pointer (some ⟨b_1, 0, none⟩) ∧ Box g r0 b_1 126 [[.slice a_2 n_2 c_2], [.int .i64 o2]] [1, 1] ∧ RdS (Kd.int .u8) g 5 a_2 n_2 c_2 o1) := by
 refine calls_of (args := [.slice a1 n1 c1]) Try.func49 rfl (r0 + 0) ?_
 intro t ht htL
 refine ⟨_, rfl, ?_⟩
 refine CP.refr 7 [(0, .slice a1 n1 c1)] (by kernel_rfl) (by kernel_rfl) ?_
 intro ds
 have tot : Step (fun l => NoM l ∨ t ≤ l) g0 g0 := Step.refl _ _
 unfold F.octet_NewReader at hs
 refine CP.seqR ?_
 refine WP.stl 1 ?_
 refine WP.dn ?_
 refine NX.then_n ?_
 refine CP.seqR ?_
 refine WP.stl 1 ?_
 replace hs := Option.bind_eq_some_iff.1 hs
 obtain ⟨l2, hk1, hs⟩ := hs
 have hcal1 := P.slices_Clone_byte_byte g0 (t + 1) l1 a1 n1 c1 hR1 l2 hk1
 refine WP.callC hcal1 (by kernel_rfl) ?_
 rintro _ g1 st1 ⟨a2, n2, c2, rfl, hR2⟩
 replace hR1 := hR1.mono st1 (fun x => x)
 replace tot := tot.trans st1.pure
 refine WP.stl 1 ?_
 refine WP.alloc (T := 126) (t + 2) [[.slice a2 n2 c2], [.int .i64 0]] [1, 1] (by kernel_rfl) rfl ?_
 intro g2 b1 st2 hB1
 replace hR1 := hR1.mono st2 (fun x => x)
 replace hR2 := hR2.mono st2 (fun x => x) (fun x => x)
 replace tot := tot.trans st2.pure
 refine WP.stl 1 ?_
 refine WP.dn ?_
 refine NX.then_n ?_
 refine CP.ret ?_
 obtain ⟨g3, hw1, st3, hnew⟩ := hB1.relab r0
 refine NX.regw hw1 ?_
 replace hR2 := hR2.mono st3 (WL.no1 (by omega)) (WL.no1 (by omega))
 replace tot := tot.trans (st3.up1 (.inr (by omega)))
 clear hB1
 have hB1 := hnew
 clear hnew
 obtain ⟨g4, hw2, st4, hnew⟩ := hR2.freeze (by omega)
 refine NX.regw hw2 ?_
 replace hB1 := hB1.mono st4 (WL.no1 (by omega))
 replace tot := tot.trans (st4.up1 (.inr (by omega)))
 clear hR2
 have hR2 := hnew
 clear hnew
 replace hs := Option.some.inj hs
 obtain ⟨rfl, rfl⟩ := Prod.mk.inj hs
 exact NX.fin (v := .pointer (some ⟨b1, 0, none⟩)) (Res.still (by kernel_rfl)) tot htL ⟨b1, a2, n2, c2, rfl, hB1, hR2⟩
def F.math_bits_Len8 (x1 : Int) : Option (Int) := (if (0 : Int) ≤ x1 ∧ x1 < (str_0.size : Int) then (some (IntKind.i64.wrap (getI (strBytes str_0) x1))) else none)
theorem P.math_bits_Len8 (g0 : GW) (x1 : Int) (o1 : Int) (hs : F.math_bits_Len8 x1 = some o1) :
  Calls Try.prog 91 #[.int .u8 x1] g0.w (Ret NoM g0 fun v g => v = .int .i64 o1) := by
 refine calls_of (args := [.int .u8 x1]) Try.func91 rfl (0) ?_
 intro t ht htL
 refine ⟨_, rfl, ?_⟩
 refine CP.refr 6 [(0, .int .u8 x1)] (by kernel_rfl) (by kernel_rfl) ?_
 intro ds
 have tot : Step (fun l => NoM l ∨ t ≤ l) g0 g0 := Step.refl _ _
 unfold F.math_bits_Len8 at hs
 refine CP.seqR ?_
 refine WP.stl 1 ?_
 refine WP.dn ?_
 refine NX.then_n ?_
 refine CP.seqR ?_
 refine WP.stl 1 ?_
 by_cases hc1 : (0 : Int) ≤ x1 ∧ x1 < (str_0.size : Int)
 case neg => rw [if_neg hc1] at hs; cases hs
 replace hs := of_if_p hs hc1
 refine WP.indexS (s := str_0) (k := .u8) (i := x1) (by kernel_rfl) hc1 ?_
 refine WP.stl 2 ?_
 refine WP.dn ?_
 refine NX.then_n ?_
 refine CP.ret ?_
 replace hs := Option.some.inj hs
 obtain rfl := hs
 exact NX.fin (v := .int .i64 (IntKind.i64.wrap (getI (strBytes str_0) x1))) (Res.still (by kernel_rfl)) tot htL rfl
def F.octet_number.c1 (l1 : List Int) : Option (Int × Int × Int) := (if decide ((l1.length : Int) < 10) = true then (some (0, 0, 4)) else (some (0, 0, 3)))
def F.octet_number.c2 (nx1 : Int → Int → Option (Int × Int × Int)) (l1 : List Int) (x8 : Int) (x9 : Int) (q5 : Bool) : Option (Int × Int × Int) := (if q5 = true then (some (0, 0, 3)) else ((F.math_bits_Len8 (bitAnd .u8 (getI l1 x9) 127)).bind fun x13 => (if decide ((IntKind.i64.wrap (x13 + (IntKind.i64.wrap (7 * x9)))) > 64) = true then (some (0, 0, 3)) else (if (0 : Int) ≤ (IntKind.i64.wrap (7 * x9)) then (if decide ((getI l1 x9) < 128) = true then (some ((bitOr .u64 x8 (shV true .u64 (IntKind.u64.wrap (bitAnd .u8 (getI l1 x9) 127)) (IntKind.i64.wrap (7 * x9)))), (IntKind.i64.wrap (x9 + 1)), 0)) else (nx1 (bitOr .u64 x8 (shV true .u64 (IntKind.u64.wrap (bitAnd .u8 (getI l1 x9) 127)) (IntKind.i64.wrap (7 * x9)))) (IntKind.i64.wrap (x9 + 1)))) else none))))
def F.octet_number.l1 (l1 : List Int) : Nat → Int → Int → Option (Int × Int × Int)
 | 0, _, _ => none
 | k + 1, x8, x9 => (if decide (x9 < (l1.length : Int)) = true then (if (0 : Int) ≤ x9 ∧ x9 < (l1.length : Int) then (if (x9 == 10) = true then (F.octet_number.c1 l1) else (if decide ((getI l1 x9) < 128) = true then (if ((getI l1 x9) == 0) = true then (F.octet_number.c2 (F.octet_number.l1 l1 k) l1 x8 x9 (decide (x9 > 0))) else (F.octet_number.c2 (F.octet_number.l1 l1 k) l1 x8 x9 false)) else (F.octet_number.c2 (F.octet_number.l1 l1 k) l1 x8 x9 false))) else none) else (F.octet_number.c1 l1))
def F.octet_number (l1 : List Int) : Option (Int × Int × Int) := (F.octet_number.l1 l1 fuel 0 0)
theorem P.octet_number (g0 : GW) (l1 : List Int) (a1 : Option Addr) (n1 : Nat) (c1 : Nat) (hR1 : RdS (Kd.int .u8) g0 5 a1 n1 c1 l1) (o1 : Int) (o2 : Int) (o3 : Int) (hs : F.octet_number l1 = some (o1, o2, o3)) :
  Calls Try.prog 75 #[.slice a1 n1 c1] g0.w (Ret NoM g0 fun v g => v = .tuple #[.int .u64 o1, .int .i64 o2, .int .i64 o3]) := by
 refine calls_of (args := [.slice a1 n1 c1]) Try.func75 rfl (0) ?_
 intro t ht htL
 refine ⟨_, rfl, ?_⟩
 refine CP.refr 54 [(0, .slice a1 n1 c1)] (by kernel_rfl) (by kernel_rfl) ?_
 intro ds
 have tot : Step (fun l => NoM l ∨ t ≤ l) g0 g0 := Step.refl _ _
 unfold F.octet_number at hs
 refine CP.seqR ?_
 refine WP.stl 3 ?_
 refine WP.dn ?_
 refine NX.then_n ?_
 refine CP.scope ?_
 refine CP.seqR ?_
 refine WP.stl 1 ?_
 refine WP.dn ?_
 refine NX.then_n ?_
 refine CP.seq ?_
 refine CP.label ?_
 refine NX.then_n ?_
 refine CP.cut (fun tm g => Fr 54 [(0, .slice a1 n1 c1)] tm ∧ Step (fun l => NoM l ∨ t ≤ l) g0 g ∧ RdS (Kd.int .u8) g 5 a1 n1 c1 l1 ∧ (F.octet_number.c1 l1) = some (o1, o2, o3)) ?_ ?_
 ·refine CP.seqR ?_
  refine WP.stl 1 ?_
  refine WP.len (a := a1) (cp := c1) hR1.len (by kernel_rfl) ?_
  refine WP.stl 1 ?_
  refine WP.dn ?_
  refine NX.then_n ?_
  refine CP.block ?_
  generalize fuel = k1 at hs
  refine CP.loop (fun k1 tm g => ∃ (x8 : Int) (x9 : Int), Fr 54 [(0, .slice a1 n1 c1), (5, .int .u64 x8), (8, .slice a1 n1 c1), (9, .int .i64 (l1.length : Int)), (10, .int .i64 x9)] tm ∧ Step (fun l => NoM l ∨ t ≤ l) g0 g ∧ RdS (Kd.int .u8) g 5 a1 n1 c1 l1 ∧ F.octet_number.l1 l1 k1 x8 x9 = some (o1, o2, o3)) k1 ?_ ?_ ?_
  ·exact ⟨0, 0, ⟨by kernel_rfl, by kernel_rfl⟩, tot, hR1, hs⟩
  ·rintro tm g ⟨x8, x9, hF, tot, hR1, hs⟩
   exact absurd hs (by simp [F.octet_number.l1])
  clear tot hs hR1
  rintro k1 tm g ⟨x8, x9, hF, tot, hR1, hs⟩
  clear ds
  obtain ⟨ds, rfl⟩ := hF.open
  clear hF
  unfold F.octet_number.l1 at hs
  refine CP.seqR ?_
  refine WP.stl 1 ?_
  refine WP.dn ?_
  refine NX.then_n ?_
  refine CP.seq ?_
  refine CP.cond (b := decide (x9 < (l1.length : Int))) (by kernel_rfl) (fun h30 => ?_) (fun h30 => ?_)
  ·replace hs := of_if_t hs h30
   refine CP.skip ?_
   refine NX.then_n ?_
   refine CP.seq ?_
   refine CP.block ?_
   refine CP.seqR ?_
   refine WP.stl 1 ?_
   by_cases hc9 : (0 : Int) ≤ x9 ∧ x9 < (l1.length : Int)
   case neg => rw [if_neg hc9] at hs; cases hs
   replace hs := of_if_p hs hc9
   obtain ⟨b5, u5, ha5⟩ := hR1.at hc9
   refine WP.indexA (t := 24) (e := 5) (sz := 1) (cap := c1) (k := .i64) (i := x9) hR1.len ha5 (by kernel_rfl) (by kernel_rfl) hc9 ?_
   obtain ⟨cs5, hcR5, hcV5⟩ := hR1.src.view (getI_some hc9) ha5
   replace hcR5 := Kd.o_int hcR5
   refine WP.loadV [[.int .u8 (getI l1 x9)]] [1] hcV5 hcR5 rfl (f := 0) (ty := 5) (agg := false) (size := 1) (rs := [[.int .u8 (getI l1 x9)]]) (v := .int .u8 (getI l1 x9)) (by kernel_rfl) (by kernel_rfl) (by kernel_rfl) (by kernel_rfl) ?_
   refine WP.stl 2 ?_
   refine WP.dn ?_
   refine NX.then_n ?_
   refine CP.seq ?_
   refine CP.block ?_
   refine CP.seqR ?_
   refine WP.stl 3 ?_
   refine WP.dn ?_
   refine NX.then_n ?_
   refine CP.cond (b := (x9 == 10)) (by kernel_rfl) (fun h31 => ?_) (fun h31 => ?_)
   ·replace hs := of_if_t hs h31
    refine CP.exit ?_
    refine NX.block_o (by rfl) ?_
    refine NX.then_e ?_
    refine NX.block_o (by rfl) ?_
    refine NX.then_e ?_
    refine NX.then_e ?_
    refine NX.block_s ?_
    refine NX.post ?_
    exact ⟨⟨by kernel_rfl, by kernel_rfl⟩, tot, hR1, hs⟩
   replace hs := of_if_f hs h31
   refine CP.cut (fun tm g => ∃ (q5 : Bool), Fr 54 [(0, .slice a1 n1 c1), (5, .int .u64 x8), (6, .int .i64 x9), (7, .int .u8 (getI l1 x9)), (8, .slice a1 n1 c1), (9, .int .i64 (l1.length : Int)), (10, .int .i64 x9), (18, .bool q5)] tm ∧ Step (fun l => NoM l ∨ t ≤ l) g0 g ∧ RdS (Kd.int .u8) g 5 a1 n1 c1 l1 ∧ (F.octet_number.c2 (F.octet_number.l1 l1 k1) l1 x8 x9 q5) = some (o1, o2, o3)) ?_ ?_
   ·refine CP.region ?_
    refine WP.stl 3 ?_
    refine WP.guard 21 (b := decide ((getI l1 x9) < 128)) (by kernel_rfl) (fun h37 => ?_) (fun h37 => ?_)
    ·replace hs := of_if_t hs h37
     refine WP.stl 4 ?_
     refine WP.guard 25 (b := ((getI l1 x9) == 0)) (by kernel_rfl) (fun h38 => ?_) (fun h38 => ?_)
     ·replace hs := of_if_t hs h38
      refine WP.stl 4 ?_
      refine WP.dn ?_
      refine NX.post ?_
      exact ⟨decide (x9 > 0), ⟨by kernel_rfl, by kernel_rfl⟩, tot, hR1, hs⟩
     replace hs := of_if_f hs h38
     refine WP.stl 4 ?_
     refine WP.dn ?_
     refine NX.post ?_
     exact ⟨false, ⟨by kernel_rfl, by kernel_rfl⟩, tot, hR1, hs⟩
    replace hs := of_if_f hs h37
    refine WP.stl 8 ?_
    refine WP.dn ?_
    refine NX.post ?_
    exact ⟨false, ⟨by kernel_rfl, by kernel_rfl⟩, tot, hR1, hs⟩
   clear tot hs hR1
   rintro tm g ⟨q5, hF, tot, hR1, hs⟩
   clear ds
   obtain ⟨ds, rfl⟩ := hF.open
   clear hF
   unfold F.octet_number.c2 at hs
   refine CP.cond (b := q5) (by kernel_rfl) (fun h34 => ?_) (fun h34 => ?_)
   ·replace hs := of_if_t hs h34
    refine CP.seqR ?_
    refine WP.stl 3 ?_
    refine WP.dn ?_
    refine NX.then_n ?_
    refine CP.ret ?_
    refine NX.block_r ?_
    refine NX.then_r ?_
    refine NX.block_r ?_
    refine NX.then_r ?_
    refine NX.then_r ?_
    refine NX.block_r ?_
    refine NX.then_r ?_
    refine NX.scope_r ?_
    replace hs := Option.some.inj hs
    simp only [Prod.mk.injEq] at hs
    obtain ⟨rfl, rfl, rfl⟩ := hs
    exact NX.fin (v := .tuple #[.int .u64 0, .int .i64 0, .int .i64 3]) (Res.still (by kernel_rfl)) tot htL rfl
   replace hs := of_if_f hs h34
   refine CP.seqR ?_
   refine WP.stl 2 ?_
   replace hs := Option.bind_eq_some_iff.1 hs
   obtain ⟨x13, hk5, hs⟩ := hs
   have hcal5 := P.math_bits_Len8 g (bitAnd .u8 (getI l1 x9) 127) x13 hk5
   refine WP.callC hcal5 (by kernel_rfl) ?_
   rintro _ g5 st5 rfl
   replace hR1 := hR1.mono st5 (fun x => x)
   replace tot := tot.trans st5.pure
   refine WP.stl 5 ?_
   refine WP.dn ?_
   refine NX.then_n ?_
   refine CP.cond (b := decide ((IntKind.i64.wrap (x13 + (IntKind.i64.wrap (7 * x9)))) > 64)) (by kernel_rfl) (fun h35 => ?_) (fun h35 => ?_)
   ·replace hs := of_if_t hs h35
    refine CP.seqR ?_
    refine WP.stl 3 ?_
    refine WP.dn ?_
    refine NX.then_n ?_
    refine CP.ret ?_
    refine NX.block_r ?_
    refine NX.then_r ?_
    refine NX.block_r ?_
    refine NX.then_r ?_
    refine NX.then_r ?_
    refine NX.block_r ?_
    refine NX.then_r ?_
    refine NX.scope_r ?_
    replace hs := Option.some.inj hs
    simp only [Prod.mk.injEq] at hs
    obtain ⟨rfl, rfl, rfl⟩ := hs
    exact NX.fin (v := .tuple #[.int .u64 0, .int .i64 0, .int .i64 3]) (Res.still (by kernel_rfl)) tot htL rfl
   replace hs := of_if_f hs h35
   refine CP.skip ?_
   refine NX.block_n ?_
   refine NX.then_n ?_
   refine CP.seqR ?_
   refine WP.stl 6 ?_
   by_cases hc10 : (0 : Int) ≤ (IntKind.i64.wrap (7 * x9))
   case neg => rw [if_neg hc10] at hs; cases hs
   replace hs := of_if_p hs hc10
   refine WP.shift (left := true) (k := .u64) (yk := .i64) (x := (IntKind.u64.wrap (bitAnd .u8 (getI l1 x9) 127))) (y := (IntKind.i64.wrap (7 * x9))) (by kernel_rfl) hc10 ?_
   refine WP.stl 2 ?_
   refine WP.dn ?_
   refine NX.then_n ?_
   refine CP.refr 54 [(0, .slice a1 n1 c1), (5, .int .u64 (bitOr .u64 x8 (shV true .u64 (IntKind.u64.wrap (bitAnd .u8 (getI l1 x9) 127)) (IntKind.i64.wrap (7 * x9))))), (6, .int .i64 x9), (7, .int .u8 (getI l1 x9)), (8, .slice a1 n1 c1), (9, .int .i64 (l1.length : Int)), (10, .int .i64 x9)] (by kernel_rfl) (by kernel_rfl) ?_
   clear ds
   intro ds
   refine CP.seqR ?_
   refine WP.stl 2 ?_
   refine WP.dn ?_
   refine NX.then_n ?_
   refine CP.cond (b := decide ((getI l1 x9) < 128)) (by kernel_rfl) (fun h36 => ?_) (fun h36 => ?_)
   ·replace hs := of_if_t hs h36
    refine CP.seqR ?_
    refine WP.stl 6 ?_
    refine WP.dn ?_
    refine NX.then_n ?_
    refine CP.ret ?_
    refine NX.block_r ?_
    refine NX.then_r ?_
    refine NX.then_r ?_
    refine NX.block_r ?_
    refine NX.then_r ?_
    refine NX.scope_r ?_
    replace hs := Option.some.inj hs
    simp only [Prod.mk.injEq] at hs
    obtain ⟨rfl, rfl, rfl⟩ := hs
    exact NX.fin (v := .tuple #[.int .u64 (bitOr .u64 x8 (shV true .u64 (IntKind.u64.wrap (bitAnd .u8 (getI l1 x9) 127)) (IntKind.i64.wrap (7 * x9)))), .int .i64 (IntKind.i64.wrap (x9 + 1)), .int .i64 0]) (Res.still (by kernel_rfl)) tot htL rfl
   replace hs := of_if_f hs h36
   refine CP.skip ?_
   refine NX.block_n ?_
   refine NX.then_n ?_
   refine CP.region ?_
   refine WP.stl 2 ?_
   refine WP.dn ?_
   refine NX.post ?_
   exact ⟨(bitOr .u64 x8 (shV true .u64 (IntKind.u64.wrap (bitAnd .u8 (getI l1 x9) 127)) (IntKind.i64.wrap (7 * x9)))), (IntKind.i64.wrap (x9 + 1)), ⟨by kernel_rfl, by kernel_rfl⟩, tot, hR1, hs⟩
  replace hs := of_if_f hs h30
  refine CP.exit ?_
  refine NX.then_e ?_
  refine NX.then_e ?_
  refine NX.block_s ?_
  refine NX.post ?_
  exact ⟨⟨by kernel_rfl, by kernel_rfl⟩, tot, hR1, hs⟩
 clear tot hs hR1
 rintro tm g ⟨hF, tot, hR1, hs⟩
 clear ds
 obtain ⟨ds, rfl⟩ := hF.open
 clear hF
 unfold F.octet_number.c1 at hs
 refine CP.seq ?_
 refine CP.seqR ?_
 refine WP.stl 1 ?_
 refine WP.len (a := a1) (cp := c1) hR1.len (by kernel_rfl) ?_
 refine WP.stl 1 ?_
 refine WP.dn ?_
 refine NX.then_n ?_
 refine CP.cond (b := decide ((l1.length : Int) < 10)) (by kernel_rfl) (fun h15 => ?_) (fun h15 => ?_)
 ·replace hs := of_if_t hs h15
  refine CP.seqR ?_
  refine WP.stl 3 ?_
  refine WP.dn ?_
  refine NX.then_n ?_
  refine CP.ret ?_
  refine NX.then_r ?_
  refine NX.scope_r ?_
  replace hs := Option.some.inj hs
  simp only [Prod.mk.injEq] at hs
  obtain ⟨rfl, rfl, rfl⟩ := hs
  exact NX.fin (v := .tuple #[.int .u64 0, .int .i64 0, .int .i64 4]) (Res.still (by kernel_rfl)) tot htL rfl
 replace hs := of_if_f hs h15
 refine CP.skip ?_
 refine NX.then_n ?_
 refine CP.seqR ?_
 refine WP.stl 3 ?_
 refine WP.dn ?_
 refine NX.then_n ?_
 refine CP.ret ?_
 refine NX.scope_r ?_
 replace hs := Option.some.inj hs
 simp only [Prod.mk.injEq] at hs
 obtain ⟨rfl, rfl, rfl⟩ := hs
 exact NX.fin (v := .tuple #[.int .u64 0, .int .i64 0, .int .i64 3]) (Res.still (by kernel_rfl)) tot htL rfl
def F.octet_Reader_Bytes_1_2 (l1 : List Int) (x1 : Int) (l2 : List Int) : Option (Int × Int × (List Int)) := ((F.octet_number l1).bind fun (x2, x3, x4) => (if (x4 != 0) = true then (some (0, x4, l2)) else (if decide (x2 > (IntKind.u64.wrap (imax x1 0))) = true then (some (0, 2, l2)) else (if decide (x2 > (IntKind.u64.wrap (IntKind.i64.wrap ((l1.length : Int) - x3)))) = true then (some (0, 4, l2)) else (if (0 : Int) ≤ x3 ∧ x3 ≤ (IntKind.i64.wrap (x3 + (IntKind.i64.wrap x2))) ∧ (IntKind.i64.wrap (x3 + (IntKind.i64.wrap x2))) ≤ (l1.length : Int) then ((F.slices_Clone_byte_byte (sliceI l1 x3 (IntKind.i64.wrap (x3 + (IntKind.i64.wrap x2))))).bind fun l3 => (some ((IntKind.i64.wrap (x3 + (IntKind.i64.wrap x2))), 0, l3))) else none)))))
theorem P.octet_Reader_Bytes_1_2 (g0 : GW) (m0 : Nat) (m1 : Nat) (m2 : Nat) (l1 : List Int) (x1 : Int) (l2 : List Int) (a1 : Option Addr) (n1 : Nat) (c1 : Nat) (a2 : Option Addr) (n2 : Nat) (c2 : Nat) (b1 : Nat) (b2 : Nat) (hR1 : RdS (Kd.int .u8) g0 5 a1 n1 c1 l1) (hR2 : OwnS (Kd.int .u8) g0 m2 5 a2 n2 c2 l2) (hB1 : Box g0 m0 b1 3 [[.int .i64 x1]] [1]) (hB2 : Box g0 m1 b2 24 [[.slice a2 n2 c2]] [1]) (hm1_0 : m1 ≠ m0) (hm2_0 : m2 ≠ m0) (hm2_1 : m2 ≠ m1) (hm0 : m0 ≠ 0) (hm1 : m1 ≠ 0) (hm2 : m2 ≠ 0) (o1 : Int) (o2 : Int) (o3 : (List Int)) (hs : F.octet_Reader_Bytes_1_2 l1 x1 l2 = some (o1, o2, o3)) :
  Calls Try.prog 74 #[.slice a1 n1 c1, .pointer (some ⟨b1, 0, none⟩), .pointer (some ⟨b2, 0, none⟩)] g0.w (Ret (WL [m1, m2]) g0 fun v g => ∃ (a_1 : Option Addr) (n_1 : Nat) (c_1 : Nat), v = .tuple #[.int .i64 o1, .int .i64 o2] ∧ OwnS (Kd.int .u8) g m2 5 a_1 n_1 c_1 o3 ∧ Box g m1 b2 24 [[.slice a_1 n_1 c_1]] [1]) := by
 refine calls_of (args := [.slice a1 n1 c1, .pointer (some ⟨b1, 0, none⟩), .pointer (some ⟨b2, 0, none⟩)]) Try.func74 rfl (m0 + m1 + m2 + 0) ?_
 intro t ht htL
 refine ⟨_, rfl, ?_⟩
 refine CP.refr 44 [(0, .slice a1 n1 c1), (1, .pointer (some ⟨b1, 0, none⟩)), (2, .pointer (some ⟨b2, 0, none⟩))] (by kernel_rfl) (by kernel_rfl) ?_
 intro ds
 have tot : Step (fun l => (WL [m1, m2]) l ∨ t ≤ l) g0 g0 := Step.refl _ _
 unfold F.octet_Reader_Bytes_1_2 at hs
 refine CP.seqR ?_
 refine WP.stl 2 ?_
 refine WP.dn ?_
 refine NX.then_n ?_
 refine CP.seqR ?_
 refine WP.stl 1 ?_
 replace hs := Option.bind_eq_some_iff.1 hs
 obtain ⟨⟨x2, x3, x4⟩, hk1, hs⟩ := hs
 dsimp only at hs
 have hcal1 := P.octet_number g0 l1 a1 n1 c1 hR1 x2 x3 x4 hk1
 refine WP.callC hcal1 (by kernel_rfl) ?_
 rintro _ g1 st1 rfl
 replace hR1 := hR1.mono st1 (fun x => x)
 replace hB1 := hB1.mono st1 (fun x => x)
 replace hB2 := hB2.mono st1 (fun x => x)
 replace hR2 := hR2.mono st1 (fun x => x) (fun x => x)
 replace tot := tot.trans st1.pure
 refine WP.stl 7 ?_
 refine WP.dn ?_
 refine NX.then_n ?_
 refine CP.seq ?_
 refine CP.block ?_
 refine CP.seqR ?_
 refine WP.stl 3 ?_
 refine WP.dn ?_
 refine NX.then_n ?_
 refine CP.refr 44 [(0, .slice a1 n1 c1), (1, .pointer (some ⟨b1, 0, none⟩)), (2, .pointer (some ⟨b2, 0, none⟩)), (6, .int .u64 x2), (7, .int .i64 x3), (8, .int .i64 x4), (16, .bool (x4 != 0))] (by kernel_rfl) (by kernel_rfl) ?_
 clear ds
 intro ds
 refine CP.cond (b := (x4 != 0)) (by kernel_rfl) (fun h1 => ?_) (fun h1 => ?_)
 ·replace hs := of_if_t hs h1
  refine CP.seqR ?_
  refine WP.stl 3 ?_
  refine WP.dn ?_
  refine NX.then_n ?_
  refine CP.ret ?_
  refine NX.block_r ?_
  refine NX.then_r ?_
  replace hs := Option.some.inj hs
  simp only [Prod.mk.injEq] at hs
  obtain ⟨rfl, rfl, rfl⟩ := hs
  exact NX.fin (v := .tuple #[.int .i64 0, .int .i64 x4]) (Res.still (by kernel_rfl)) tot htL ⟨a2, n2, c2, rfl, hR2, hB2⟩
 replace hs := of_if_f hs h1
 refine CP.seqR ?_
 refine WP.stl 1 ?_
 refine WP.loadB (v := .int .i64 x1) hB1 (by kernel_rfl) (by kernel_rfl) ?_
 refine WP.stl 4 ?_
 refine WP.dn ?_
 refine NX.then_n ?_
 refine CP.cond (b := decide (x2 > (IntKind.u64.wrap (imax x1 0)))) (by kernel_rfl) (fun h2 => ?_) (fun h2 => ?_)
 ·replace hs := of_if_t hs h2
  refine CP.seqR ?_
  refine WP.stl 2 ?_
  refine WP.dn ?_
  refine NX.then_n ?_
  refine CP.ret ?_
  refine NX.block_r ?_
  refine NX.then_r ?_
  replace hs := Option.some.inj hs
  simp only [Prod.mk.injEq] at hs
  obtain ⟨rfl, rfl, rfl⟩ := hs
  exact NX.fin (v := .tuple #[.int .i64 0, .int .i64 2]) (Res.still (by kernel_rfl)) tot htL ⟨a2, n2, c2, rfl, hR2, hB2⟩
 replace hs := of_if_f hs h2
 refine CP.seqR ?_
 refine WP.stl 2 ?_
 refine WP.len (a := a1) (cp := c1) hR1.len (by kernel_rfl) ?_
 refine WP.stl 5 ?_
 refine WP.dn ?_
 refine NX.then_n ?_
 refine CP.refr 44 [(0, .slice a1 n1 c1), (2, .pointer (some ⟨b2, 0, none⟩)), (6, .int .u64 x2), (7, .int .i64 x3), (26, .bool (decide (x2 > (IntKind.u64.wrap (IntKind.i64.wrap ((l1.length : Int) - x3))))))] (by kernel_rfl) (by kernel_rfl) ?_
 clear ds
 intro ds
 refine CP.cond (b := decide (x2 > (IntKind.u64.wrap (IntKind.i64.wrap ((l1.length : Int) - x3))))) (by kernel_rfl) (fun h3 => ?_) (fun h3 => ?_)
 ·replace hs := of_if_t hs h3
  refine CP.seqR ?_
  refine WP.stl 2 ?_
  refine WP.dn ?_
  refine NX.then_n ?_
  refine CP.ret ?_
  refine NX.block_r ?_
  refine NX.then_r ?_
  replace hs := Option.some.inj hs
  simp only [Prod.mk.injEq] at hs
  obtain ⟨rfl, rfl, rfl⟩ := hs
  exact NX.fin (v := .tuple #[.int .i64 0, .int .i64 4]) (Res.still (by kernel_rfl)) tot htL ⟨a2, n2, c2, rfl, hR2, hB2⟩
 replace hs := of_if_f hs h3
 refine CP.skip ?_
 refine NX.block_n ?_
 refine NX.then_n ?_
 refine CP.seqR ?_
 refine WP.stl 5 ?_
 refine WP.dn ?_
 refine NX.then_n ?_
 refine CP.seqR ?_
 refine WP.stl 3 ?_
 by_cases hc1 : (0 : Int) ≤ x3 ∧ x3 ≤ (IntKind.i64.wrap (x3 + (IntKind.i64.wrap x2))) ∧ (IntKind.i64.wrap (x3 + (IntKind.i64.wrap x2))) ≤ (l1.length : Int)
 case neg => rw [if_neg hc1] at hs; cases hs
 replace hs := of_if_p hs hc1
 refine WP.sliceR (lo := some (.int .i64 x3)) (hi := some (.int .i64 (IntKind.i64.wrap (x3 + (IntKind.i64.wrap x2))))) hR1 x3 (IntKind.i64.wrap (x3 + (IntKind.i64.wrap x2))) (by kernel_rfl) (.inr ⟨_, rfl⟩) (.inr ⟨_, rfl⟩) hc1 ?_
 intro a3 c3 hR3
 replace hs := Option.bind_eq_some_iff.1 hs
 obtain ⟨l3, hk2, hs⟩ := hs
 have hcal2 := P.slices_Clone_byte_byte g1 (t + 1) (sliceI l1 x3 (IntKind.i64.wrap (x3 + (IntKind.i64.wrap x2)))) a3 ((IntKind.i64.wrap (x3 + (IntKind.i64.wrap x2))).toNat - x3.toNat) c3 hR3 l3 hk2
 refine WP.callC hcal2 (by kernel_rfl) ?_
 rintro _ g2 st2 ⟨a4, n3, c4, rfl, hR4⟩
 replace hR1 := hR1.mono st2 (fun x => x)
 replace hB2 := hB2.mono st2 (fun x => x)
 replace hR2 := hR2.mono st2 (fun x => x) (fun x => x)
 replace hR3 := hR3.mono st2 (fun x => x)
 replace tot := tot.trans st2.pure
 refine WP.storeB (ty := 24) (off := 0) (v := .slice a4 n3 c4) hB2 [[.slice a4 n3 c4]] [1] (by kernel_rfl) (by kernel_rfl) rfl (by kernel_rfl) [[.slice a4 n3 c4]] (by kernel_rfl) (.one rfl .nil) ?_
 intro g3 st3 hB3
 replace hR1 := hR1.mono st3 (WL.no1 (by omega))
 replace hR4 := hR4.mono st3 (WL.no1 (by omega)) (WL.no1 (by omega))
 replace hR3 := hR3.mono st3 (WL.no1 (by omega))
 replace tot := tot.trans (st3.up1 (.inl (by simp [WL])))
 clear hB2
 have hB2 := hB3
 clear hB3
 refine WP.dn ?_
 refine NX.then_n ?_
 refine CP.seqR ?_
 refine WP.stl 3 ?_
 refine WP.dn ?_
 refine NX.then_n ?_
 refine CP.refr 44 [(4, .int .i64 (IntKind.i64.wrap (x3 + (IntKind.i64.wrap x2)))), (5, .int .i64 0)] (by kernel_rfl) (by kernel_rfl) ?_
 clear ds
 intro ds
 refine CP.ret ?_
 obtain ⟨g4, hw1, st4, hnew⟩ := hR4.relab (by omega) m2
 refine NX.regw hw1 ?_
 replace hB2 := hB2.mono st4 (WL.no1 (by omega))
 replace tot := tot.trans (st4.up1 (.inr (by omega)))
 clear hR4
 have hR4 := hnew
 clear hnew
 replace hs := Option.some.inj hs
 simp only [Prod.mk.injEq] at hs
 obtain ⟨rfl, rfl, rfl⟩ := hs
 exact NX.fin (v := .tuple #[.int .i64 (IntKind.i64.wrap (x3 + (IntKind.i64.wrap x2))), .int .i64 0]) (Res.still (by kernel_rfl)) tot htL ⟨a4, n3, c4, rfl, hR4, hB2⟩
def F.octet_Reader_read_2 (l1 : List Int) (x1 : Int) (x2 : Int) (l2 : List Int) : Option (Bool × (List Int) × Int × (List Int)) := (if (x1 != 0) = true then (some (false, l1, x1, l2)) else ((F.octet_Reader_Bytes_1_2 l1 x2 l2).bind fun (x3, x4, d1) => (if (x4 != 0) = true then (some (false, l1, x4, d1)) else (if (0 : Int) ≤ x3 ∧ x3 ≤ (l1.length : Int) ∧ (l1.length : Int) ≤ (l1.length : Int) then (some (true, (sliceI l1 x3 (l1.length : Int)), x1, d1)) else none))))
theorem P.octet_Reader_read_2 (g0 : GW) (m0 : Nat) (m1 : Nat) (m2 : Nat) (m3 : Nat) (l1 : List Int) (x1 : Int) (x2 : Int) (l2 : List Int) (a1 : Option Addr) (n1 : Nat) (c1 : Nat) (a2 : Option Addr) (n2 : Nat) (c2 : Nat) (b1 : Nat) (b2 : Nat) (b3 : Nat) (hR1 : RdS (Kd.int .u8) g0 5 a1 n1 c1 l1) (hR2 : OwnS (Kd.int .u8) g0 m3 5 a2 n2 c2 l2) (hB1 : Box g0 m0 b1 126 [[.slice a1 n1 c1], [.int .i64 x1]] [1, 1]) (hB2 : Box g0 m1 b2 3 [[.int .i64 x2]] [1]) (hB3 : Box g0 m2 b3 24 [[.slice a2 n2 c2]] [1]) (hm1_0 : m1 ≠ m0) (hm2_0 : m2 ≠ m0) (hm2_1 : m2 ≠ m1) (hm3_0 : m3 ≠ m0) (hm3_1 : m3 ≠ m1) (hm3_2 : m3 ≠ m2) (hm0 : m0 ≠ 0) (hm1 : m1 ≠ 0) (hm2 : m2 ≠ 0) (hm3 : m3 ≠ 0) (o1 : Bool) (o2 : (List Int)) (o3 : Int) (o4 : (List Int)) (hs : F.octet_Reader_read_2 l1 x1 x2 l2 = some (o1, o2, o3, o4)) :
  Calls Try.prog 73 #[.pointer (some ⟨b1, 0, none⟩), .func (.func 74) #[] #[.pointer (some ⟨b2, 0, none⟩), .pointer (some ⟨b3, 0, none⟩)]] g0.w (Ret (WL [m0, m2, m3]) g0 fun v g => ∃ (a_1 : Option Addr) (n_1 : Nat) (c_1 : Nat) (a_4 : Option Addr) (n_4 : Nat) (c_4 : Nat), v = .bool o1 ∧ RdS (Kd.int .u8) g 5 a_1 n_1 c_1 o2 ∧ Box g m0 b1 126 [[.slice a_1 n_1 c_1], [.int .i64 o3]] [1, 1] ∧ OwnS (Kd.int .u8) g m3 5 a_4 n_4 c_4 o4 ∧ Box g m2 b3 24 [[.slice a_4 n_4 c_4]] [1]) := by
 refine calls_of (args := [.pointer (some ⟨b1, 0, none⟩), .func (.func 74) #[] #[.pointer (some ⟨b2, 0, none⟩), .pointer (some ⟨b3, 0, none⟩)]]) Try.func73 rfl (m0 + m1 + m2 + m3 + 0) ?_
 intro t ht htL
 refine ⟨_, rfl, ?_⟩
 refine CP.refr 40 [(0, .pointer (some ⟨b1, 0, none⟩)), (1, .func (.func 74) #[] #[.pointer (some ⟨b2, 0, none⟩), .pointer (some ⟨b3, 0, none⟩)])] (by kernel_rfl) (by kernel_rfl) ?_
 intro ds
 have tot : Step (fun l => (WL [m0, m2, m3]) l ∨ t ≤ l) g0 g0 := Step.refl _ _
 unfold F.octet_Reader_read_2 at hs
 refine CP.seqR ?_
 refine WP.stl 1 ?_
 refine WP.dn ?_
 refine NX.then_n ?_
 refine CP.seq ?_
 refine CP.seq ?_
 refine CP.region ?_
 refine WP.stl 6 ?_
 refine WP.loadB (v := .int .i64 x1) hB1 (by kernel_rfl) (by kernel_rfl) ?_
 refine WP.stl 2 ?_
 refine WP.dn ?_
 refine NX.then_n ?_
 refine CP.cond (b := (x1 != 0)) (by kernel_rfl) (fun h1 => ?_) (fun h1 => ?_)
 ·replace hs := of_if_t hs h1
  refine CP.seqR ?_
  refine WP.stl 1 ?_
  refine WP.dn ?_
  refine NX.then_n ?_
  refine CP.ret ?_
  refine NX.then_r ?_
  replace hs := Option.some.inj hs
  simp only [Prod.mk.injEq] at hs
  obtain ⟨rfl, rfl, rfl, rfl⟩ := hs
  exact NX.fin (v := .bool false) (Res.still (by kernel_rfl)) tot htL ⟨a1, n1, c1, a2, n2, c2, rfl, hR1, hB1, hR2, hB3⟩
 replace hs := of_if_f hs h1
 refine CP.skip ?_
 refine NX.then_n ?_
 refine CP.seqR ?_
 refine WP.stl 4 ?_
 refine WP.loadB (v := .slice a1 n1 c1) hB1 (by kernel_rfl) (by kernel_rfl) ?_
 replace hs := Option.bind_eq_some_iff.1 hs
 obtain ⟨⟨x3, x4, d1⟩, hk1, hs⟩ := hs
 dsimp only at hs
 have hcal1 := P.octet_Reader_Bytes_1_2 g0 m1 m2 m3 l1 x2 l2 a1 n1 c1 a2 n2 c2 b2 b3 hR1 hR2 hB2 hB3 (by omega) (by omega) (by omega) (by omega) (by omega) (by omega) x3 x4 d1 hk1
 refine WP.callC hcal1 (by kernel_rfl) ?_
 rintro _ g1 st1 ⟨a3, n3, c3, rfl, hR3, hB4⟩
 replace hB1 := hB1.mono st1 (WL.no2 (by omega) (by omega))
 replace hR1 := hR1.mono st1 (WL.no2 (by omega) (by omega))
 replace hB2 := hB2.mono st1 (WL.no2 (by omega) (by omega))
 replace tot := tot.trans (st1.up2 (.inl (by simp [WL])) (.inl (by simp [WL])))
 clear hB3
 have hB3 := hB4
 clear hB4
 refine WP.stl 5 ?_
 refine WP.dn ?_
 refine NX.then_n ?_
 refine CP.refr 40 [(0, .pointer (some ⟨b1, 0, none⟩)), (5, .int .i64 x3), (6, .int .i64 x4)] (by kernel_rfl) (by kernel_rfl) ?_
 clear ds
 intro ds
 refine CP.seq ?_
 refine CP.seqR ?_
 refine WP.stl 2 ?_
 refine WP.dn ?_
 refine NX.then_n ?_
 refine CP.cond (b := (x4 != 0)) (by kernel_rfl) (fun h2 => ?_) (fun h2 => ?_)
 ·replace hs := of_if_t hs h2
  refine CP.seqR ?_
  refine WP.stl 4 ?_
  refine WP.storeB (ty := 43) (off := 1) (v := .int .i64 x4) hB1 [[.int .i64 x4]] [1] (by kernel_rfl) (by kernel_rfl) rfl (by kernel_rfl) [[.slice a1 n1 c1], [.int .i64 x4]] (by kernel_rfl) (.one rfl .nil) ?_
  intro g2 st2 hB5
  replace hR1 := hR1.mono st2 (WL.no1 (by omega))
  replace hB3 := hB3.mono st2 (WL.no1 (by omega))
  replace hR3 := hR3.mono st2 (WL.no1 (by omega)) (WL.no1 (by omega))
  replace tot := tot.trans (st2.up1 (.inl (by simp [WL])))
  clear hB1
  have hB1 := hB5
  clear hB5
  refine WP.dn ?_
  refine NX.then_n ?_
  refine CP.seqR ?_
  refine WP.stl 1 ?_
  refine WP.dn ?_
  refine NX.then_n ?_
  refine CP.ret ?_
  refine NX.then_r ?_
  replace hs := Option.some.inj hs
  simp only [Prod.mk.injEq] at hs
  obtain ⟨rfl, rfl, rfl, rfl⟩ := hs
  exact NX.fin (v := .bool false) (Res.still (by kernel_rfl)) tot htL ⟨a1, n1, c1, a3, n3, c3, rfl, hR1, hB1, hR3, hB3⟩
 replace hs := of_if_f hs h2
 refine CP.skip ?_
 refine NX.then_n ?_
 refine CP.seqR ?_
 refine WP.stl 4 ?_
 refine WP.loadB (v := .slice a1 n1 c1) hB1 (by kernel_rfl) (by kernel_rfl) ?_
 refine WP.stl 1 ?_
 by_cases hc1 : (0 : Int) ≤ x3 ∧ x3 ≤ (l1.length : Int) ∧ (l1.length : Int) ≤ (l1.length : Int)
 case neg => rw [if_neg hc1] at hs; cases hs
 replace hs := of_if_p hs hc1
 refine WP.sliceR (lo := some (.int .i64 x3)) (hi := none) hR1 x3 (l1.length : Int) (by kernel_rfl) (.inr ⟨_, rfl⟩) (.inl ⟨rfl, rfl⟩) hc1 ?_
 intro a4 c4 hR4
 refine WP.stl 2 ?_
 refine WP.storeB (ty := 24) (off := 0) (v := .slice a4 ((l1.length : Int).toNat - x3.toNat) c4) hB1 [[.slice a4 ((l1.length : Int).toNat - x3.toNat) c4]] [1] (by kernel_rfl) (by kernel_rfl) rfl (by kernel_rfl) [[.slice a4 ((l1.length : Int).toNat - x3.toNat) c4], [.int .i64 x1]] (by kernel_rfl) (.one rfl .nil) ?_
 intro g3 st3 hB6
 replace hR4 := hR4.mono st3 (WL.no1 (by omega))
 replace hB3 := hB3.mono st3 (WL.no1 (by omega))
 replace hR3 := hR3.mono st3 (WL.no1 (by omega)) (WL.no1 (by omega))
 replace hR1 := hR1.mono st3 (WL.no1 (by omega))
 replace tot := tot.trans (st3.up1 (.inl (by simp [WL])))
 clear hB1
 have hB1 := hB6
 clear hB6
 refine WP.dn ?_
 refine NX.then_n ?_
 refine CP.seqR ?_
 refine WP.stl 1 ?_
 refine WP.dn ?_
 refine NX.then_n ?_
 refine CP.refr 40 [(4, .bool true)] (by kernel_rfl) (by kernel_rfl) ?_
 clear ds
 intro ds
 refine CP.ret ?_
 replace hs := Option.some.inj hs
 simp only [Prod.mk.injEq] at hs
 obtain ⟨rfl, rfl, rfl, rfl⟩ := hs
 exact NX.fin (v := .bool true) (Res.still (by kernel_rfl)) tot htL ⟨a4, ((l1.length : Int).toNat - x3.toNat), c4, a3, n3, c3, rfl, hR4, hB1, hR3, hB3⟩
def F.octet_Reader_Bytes (l1 : List Int) (x1 : Int) (x2 : Int) : Option ((List Int) × (List Int) × Int) := ((F.octet_Reader_read_2 l1 x1 x2 ([])).bind fun (q1, d1, x3, d2) => (if (!q1) = true then (some ([], d1, x3)) else (some (d2, d1, x3))))
theorem P.octet_Reader_Bytes (g0 : GW) (m0 : Nat) (r0 : Nat) (l1 : List Int) (x1 : Int) (x2 : Int) (a1 : Option Addr) (n1 : Nat) (c1 : Nat) (b1 : Nat) (hR1 : RdS (Kd.int .u8) g0 5 a1 n1 c1 l1) (hB1 : Box g0 m0 b1 126 [[.slice a1 n1 c1], [.int .i64 x1]] [1, 1]) (hm0 : m0 ≠ 0) (o1 : List Int) (o2 : (List Int)) (o3 : Int) (hs : F.octet_Reader_Bytes l1 x1 x2 = some (o1, o2, o3)) :
  Calls Try.prog 53 #[.pointer (some ⟨b1, 0, none⟩), .int .i64 x2] g0.w (Ret (WL [m0]) g0 fun v g => ∃ (a_1 : Option Addr) (n_1 : Nat) (c_1 : Nat) (a_4 : Option Addr) (n_4 : Nat) (c_4 : Nat), v = .slice a_1 n_1 c_1 ∧ OwnS (Kd.int .u8) g r0 5 a_1 n_1 c_1 o1 ∧ RdS (Kd.int .u8) g 5 a_4 n_4 c_4 o2 ∧ Box g m0 b1 126 [[.slice a_4 n_4 c_4], [.int .i64 o3]] [1, 1]) := by
 refine calls_of (args := [.pointer (some ⟨b1, 0, none⟩), .int .i64 x2]) Try.func53 rfl (m0 + r0 + 0) ?_
 intro t ht htL
 refine ⟨_, rfl, ?_⟩
 refine CP.refr 13 [(0, .pointer (some ⟨b1, 0, none⟩)), (1, .int .i64 x2)] (by kernel_rfl) (by kernel_rfl) ?_
 intro ds
 have tot : Step (fun l => (WL [m0]) l ∨ t ≤ l) g0 g0 := Step.refl _ _
 unfold F.octet_Reader_Bytes at hs
 refine CP.seqR ?_
 refine WP.alloc (T := 3) (t + 1) [[.int .i64 x2]] [1] (by kernel_rfl) rfl ?_
 intro g1 b2 st1 hB2
 replace hB1 := hB1.mono st1 (fun x => x)
 replace hR1 := hR1.mono st1 (fun x => x)
 replace tot := tot.trans st1.pure
 refine WP.stl 1 ?_
 refine WP.dn ?_
 refine NX.then_n ?_
 refine CP.seqR ?_
 refine WP.alloc (T := 24) (t + 2) [[.slice none 0 0]] [1] (by kernel_rfl) rfl ?_
 intro g2 b3 st2 hB3
 replace hB1 := hB1.mono st2 (fun x => x)
 replace hR1 := hR1.mono st2 (fun x => x)
 replace hB2 := hB2.mono st2 (fun x => x)
 replace tot := tot.trans st2.pure
 refine WP.dn ?_
 refine NX.then_n ?_
 refine CP.seqR ?_
 refine WP.stl 2 ?_
 replace hs := Option.bind_eq_some_iff.1 hs
 obtain ⟨⟨q1, d1, x3, d2⟩, hk1, hs⟩ := hs
 dsimp only at hs
 have hcal1 := P.octet_Reader_read_2 g2 m0 (t + 1) (t + 2) (t + 3) l1 x1 x2 ([]) a1 n1 c1 none 0 0 b1 b2 b3 hR1 (OwnS.nil _ _ _ _) hB1 hB2 hB3 (by omega) (by omega) (by omega) (by omega) (by omega) (by omega) (by omega) (by omega) (by omega) (by omega) q1 d1 x3 d2 hk1
 refine WP.callC hcal1 (by kernel_rfl) ?_
 rintro _ g3 st3 ⟨a2, n2, c2, a3, n3, c3, rfl, hR2, hB4, hR3, hB5⟩
 replace hB2 := hB2.mono st3 (WL.no3 (by omega) (by omega) (by omega))
 replace tot := tot.trans (st3.up3 (.inl (by simp [WL])) (.inr (by omega)) (.inr (by omega)))
 clear hB1
 have hB1 := hB4
 clear hB4
 clear hB3
 have hB3 := hB5
 clear hB5
 refine WP.stl 1 ?_
 refine WP.dn ?_
 refine NX.then_n ?_
 refine CP.seq ?_
 refine CP.seqR ?_
 refine WP.stl 2 ?_
 refine WP.dn ?_
 refine NX.then_n ?_
 refine CP.cond (b := (!q1)) (by kernel_rfl) (fun h1 => ?_) (fun h1 => ?_)
 ·replace hs := of_if_t hs h1
  refine CP.seqR ?_
  refine WP.stl 1 ?_
  refine WP.dn ?_
  refine NX.then_n ?_
  refine CP.ret ?_
  refine NX.then_r ?_
  replace hs := Option.some.inj hs
  simp only [Prod.mk.injEq] at hs
  obtain ⟨rfl, rfl, rfl⟩ := hs
  exact NX.fin (v := .slice none 0 0) (Res.still (by kernel_rfl)) tot htL ⟨none, 0, 0, a2, n2, c2, rfl, (OwnS.nil _ _ _ _), hR2, hB1⟩
 replace hs := of_if_f hs h1
 refine CP.skip ?_
 refine NX.then_n ?_
 refine CP.seqR ?_
 refine WP.loadB (v := .slice a3 n3 c3) hB3 (by kernel_rfl) (by kernel_rfl) ?_
 refine WP.stl 1 ?_
 refine WP.dn ?_
 refine NX.then_n ?_
 refine CP.ret ?_
 obtain ⟨g4, hw1, st4, hnew⟩ := hR3.relab (by omega) r0
 refine NX.regw hw1 ?_
 replace hB1 := hB1.mono st4 (WL.no1 (by omega))
 replace hR2 := hR2.mono st4 (WL.no1 (by omega))
 replace tot := tot.trans (st4.up1 (.inr (by omega)))
 clear hR3
 have hR3 := hnew
 clear hnew
 replace hs := Option.some.inj hs
 simp only [Prod.mk.injEq] at hs
 obtain ⟨rfl, rfl, rfl⟩ := hs
 exact NX.fin (v := .slice a3 n3 c3) (Res.still (by kernel_rfl)) tot htL ⟨a3, n3, c3, a2, n2, c2, rfl, hR3, hR2, hB1⟩
def F.octet_Reader_Err (l1 : List Int) (x1 : Int) : Option (Int) := (some x1)
theorem P.octet_Reader_Err (g0 : GW) (m0 : Nat) (l1 : List Int) (x1 : Int) (a1 : Option Addr) (n1 : Nat) (c1 : Nat) (b1 : Nat) (hR1 : RdS (Kd.int .u8) g0 5 a1 n1 c1 l1) (hB1 : Box g0 m0 b1 126 [[.slice a1 n1 c1], [.int .i64 x1]] [1, 1]) (hm0 : m0 ≠ 0) (o1 : Int) (hs : F.octet_Reader_Err l1 x1 = some o1) :
  Calls Try.prog 51 #[.pointer (some ⟨b1, 0, none⟩)] g0.w (Ret NoM g0 fun v g => v = .int .i64 o1) := by
 refine calls_of (args := [.pointer (some ⟨b1, 0, none⟩)]) Try.func51 rfl (m0 + 0) ?_
 intro t ht htL
 refine ⟨_, rfl, ?_⟩
 refine CP.refr 9 [(0, .pointer (some ⟨b1, 0, none⟩))] (by kernel_rfl) (by kernel_rfl) ?_
 intro ds
 have tot : Step (fun l => NoM l ∨ t ≤ l) g0 g0 := Step.refl _ _
 unfold F.octet_Reader_Err at hs
 refine CP.seqR ?_
 refine WP.stl 1 ?_
 refine WP.dn ?_
 refine NX.then_n ?_
 refine CP.seq ?_
 refine CP.seqR ?_
 refine WP.stl 2 ?_
 refine WP.dn ?_
 refine NX.then_n ?_
 refine CP.cond_f (by kernel_rfl) ?_
 refine CP.skip ?_
 refine NX.then_n ?_
 refine CP.seqR ?_
 refine WP.stl 3 ?_
 refine WP.loadB (v := .int .i64 x1) hB1 (by kernel_rfl) (by kernel_rfl) ?_
 refine WP.stl 1 ?_
 refine WP.dn ?_
 refine NX.then_n ?_
 refine CP.ret ?_
 replace hs := Option.some.inj hs
 obtain rfl := hs
 exact NX.fin (v := .int .i64 x1) (Res.still (by kernel_rfl)) tot htL rfl
def F.state_Decode_2_2 (l1 : List Int) (x1 : Int) (d1 : Arr Int 8) (x2 : Int) (l2 : List Int) (l3 : List (List Int)) : Option (Bool × (List Int) × Int × (Arr Int 8) × Int × (List Int) × (List (List Int))) := ((F.octet_Reader_Bytes l1 x1 8).bind fun (l4, d2, x3) => (some (((l4.length : Int) == 8), d2, x3, (copyA d1 l4), x2, l2, l3)))
theorem P.state_Decode_2_2 (g0 : GW) (m0 : Nat) (m1 : Nat) (m2 : Nat) (m3 : Nat) (m4 : Nat) (l1 : List Int) (x1 : Int) (d1 : Arr Int 8) (x2 : Int) (l2 : List Int) (l3 : List (List Int)) (a1 : Option Addr) (n1 : Nat) (c1 : Nat) (a2 : Option Addr) (n2 : Nat) (c2 : Nat) (a3 : Option Addr) (n3 : Nat) (c3 : Nat) (b1 : Nat) (b2 : Nat) (b3 : Nat) (hR1 : RdS (Kd.int .u8) g0 5 a1 n1 c1 l1) (hR2 : OwnS (Kd.int .u8) g0 m3 5 a2 n2 c2 l2) (hR3 : OwnS (Kd.slice 5 (Kd.int .u8)) g0 m4 24 a3 n3 c3 l3) (hB1 : Box g0 m1 b2 126 [[.slice a1 n1 c1], [.int .i64 x1]] [1, 1]) (hB2 : Box g0 m0 b1 101 [[.pointer (some ⟨b2, 0, none⟩)]] [1]) (hB3 : Box g0 m2 b3 61 [encA .u8 d1, [.int .i64 x2], [.slice a2 n2 c2], [.slice a3 n3 c3]] [8, 1, 1, 1]) (hm1_0 : m1 ≠ m0) (hm2_0 : m2 ≠ m0) (hm2_1 : m2 ≠ m1) (hm3_0 : m3 ≠ m0) (hm3_1 : m3 ≠ m1) (hm3_2 : m3 ≠ m2) (hm4_0 : m4 ≠ m0) (hm4_1 : m4 ≠ m1) (hm4_2 : m4 ≠ m2) (hm4_3 : m4 ≠ m3) (hm0 : m0 ≠ 0) (hm1 : m1 ≠ 0) (hm2 : m2 ≠ 0) (hm3 : m3 ≠ 0) (hm4 : m4 ≠ 0) (o1 : Bool) (o2 : (List Int)) (o3 : Int) (o4 : (Arr Int 8)) (o5 : Int) (o6 : (List Int)) (o7 : (List (List Int))) (hs : F.state_Decode_2_2 l1 x1 d1 x2 l2 l3 = some (o1, o2, o3, o4, o5, o6, o7)) :
  Calls Try.prog 52 #[.pointer (some ⟨b1, 0, none⟩), .pointer (some ⟨b3, 0, none⟩)] g0.w (Ret (WL [m1, m2, m3, m4]) g0 fun v g => ∃ (a_1 : Option Addr) (n_1 : Nat) (c_1 : Nat) (a_4 : Option Addr) (n_4 : Nat) (c_4 : Nat) (a_7 : Option Addr) (n_7 : Nat) (c_7 : Nat), v = .bool o1 ∧ RdS (Kd.int .u8) g 5 a_1 n_1 c_1 o2 ∧ Box g m1 b2 126 [[.slice a_1 n_1 c_1], [.int .i64 o3]] [1, 1] ∧ OwnS (Kd.int .u8) g m3 5 a_4 n_4 c_4 o6 ∧ OwnS (Kd.slice 5 (Kd.int .u8)) g m4 24 a_7 n_7 c_7 o7 ∧ Box g m2 b3 61 [encA .u8 o4, [.int .i64 o5], [.slice a_4 n_4 c_4], [.slice a_7 n_7 c_7]] [8, 1, 1, 1]) := by
 refine calls_of (args := [.pointer (some ⟨b1, 0, none⟩), .pointer (some ⟨b3, 0, none⟩)]) Try.func52 rfl (m0 + m1 + m2 + m3 + m4 + 0) ?_
 intro t ht htL
 refine ⟨_, rfl, ?_⟩
 refine CP.refr 14 [(0, .pointer (some ⟨b1, 0, none⟩)), (1, .pointer (some ⟨b3, 0, none⟩))] (by kernel_rfl) (by kernel_rfl) ?_
 intro ds
 have tot : Step (fun l => (WL [m1, m2, m3, m4]) l ∨ t ≤ l) g0 g0 := Step.refl _ _
 unfold F.state_Decode_2_2 at hs
 refine CP.seqR ?_
 refine WP.stl 1 ?_
 refine WP.dn ?_
 refine NX.then_n ?_
 refine CP.seqR ?_
 refine WP.loadB (v := .pointer (some ⟨b2, 0, none⟩)) hB2 (by kernel_rfl) (by kernel_rfl) ?_
 replace hs := Option.bind_eq_some_iff.1 hs
 obtain ⟨⟨l4, d2, x3⟩, hk1, hs⟩ := hs
 dsimp only at hs
 have hcal1 := P.octet_Reader_Bytes g0 m1 (t + 1) l1 x1 8 a1 n1 c1 b2 hR1 hB1 (by omega) l4 d2 x3 hk1
 refine WP.callC hcal1 (by kernel_rfl) ?_
 rintro _ g1 st1 ⟨a4, n4, c4, a5, n5, c5, rfl, hR4, hR5, hB4⟩
 replace hB2 := hB2.mono st1 (WL.no1 (by omega))
 replace hB3 := hB3.mono st1 (WL.no1 (by omega))
 replace hR2 := hR2.mono st1 (WL.no1 (by omega)) (WL.no1 (by omega))
 replace hR3 := hR3.mono st1 (WL.no1 (by omega)) (WL.no1 (by omega))
 replace tot := tot.trans (st1.up1 (.inl (by simp [WL])))
 clear hB1
 have hB1 := hB4
 clear hB4
 refine WP.stl 1 ?_
 refine WP.dn ?_
 refine NX.then_n ?_
 refine CP.seqR ?_
 refine WP.stl 2 ?_
 refine WP.sliceN (t := 23) (e := 5) (m := 8) (size := 1) (b := b3) (o := 0) (by kernel_rfl) ?_
 refine WP.stl 1 ?_
 refine WP.copyB (o := 0) (m := 8) (k := .u8) (d := d1) hB3 (by kernel_rfl) (t := 24) (e := 5) (bytes := 1) (a := a4) (c2 := c4) hR4.src hR4.len (by kernel_rfl) (by kernel_rfl) hR4.none0 [encA .u8 (copyA d1 l4), [.int .i64 x2], [.slice a2 n2 c2], [.slice a3 n3 c3]] (by kernel_rfl) ?_
 intro g2 st2 hB5
 replace hR2 := hR2.mono st2 (WL.no1 (by omega)) (WL.no1 (by omega))
 replace hR3 := hR3.mono st2 (WL.no1 (by omega)) (WL.no1 (by omega))
 replace hB1 := hB1.mono st2 (WL.no1 (by omega))
 replace hR5 := hR5.mono st2 (WL.no1 (by omega))
 replace hR4 := hR4.mono st2 (WL.no1 (by omega)) (WL.no1 (by omega))
 replace tot := tot.trans (st2.up1 (.inl (by simp [WL])))
 clear hB3
 have hB3 := hB5
 clear hB5
 refine WP.dn ?_
 refine NX.then_n ?_
 refine CP.seqR ?_
 refine WP.stl 1 ?_
 refine WP.len (a := a4) (cp := c4) hR4.len (by kernel_rfl) ?_
 refine WP.stl 2 ?_
 refine WP.dn ?_
 refine NX.then_n ?_
 refine CP.refr 14 [(2, .bool ((l4.length : Int) == 8))] (by kernel_rfl) (by kernel_rfl) ?_
 clear ds
 intro ds
 refine CP.ret ?_
 replace hs := Option.some.inj hs
 simp only [Prod.mk.injEq] at hs
 obtain ⟨rfl, rfl, rfl, rfl, rfl, rfl, rfl⟩ := hs
 exact NX.fin (v := .bool ((l4.length : Int) == 8)) (Res.still (by kernel_rfl)) tot htL ⟨a5, n5, c5, a2, n2, c2, a3, n3, c3, rfl, hR5, hB1, hR2, hR3, hB3⟩
def F.state_Decode_1_2 (l1 : List Int) (x1 : Int) (d1 : Arr Int 8) (x2 : Int) (l2 : List Int) (l3 : List (List Int)) (x3 : Int) : Option ((List Int) × Int × (Arr Int 8) × Int × (List Int) × (List (List Int)) × Int) := (if (x3 != 0) = true then (some (l1, x1, d1, x2, l2, l3, x3)) else ((F.state_Decode_2_2 l1 x1 d1 x2 l2 l3).bind fun (q1, d2, x4, d3, x5, d4, d5) => ((F.octet_Reader_Err d2 x4).bind fun x6 => (if (x6 != 0) = true then ((F.octet_Reader_Err d2 x4).bind fun x7 => (some (d2, x4, d3, x5, d4, d5, x7))) else (if (!q1) = true then (some (d2, x4, d3, x5, d4, d5, 3)) else (some (d2, x4, d3, x5, d4, d5, x3)))))))
theorem P.state_Decode_1_2 (g0 : GW) (m0 : Nat) (m1 : Nat) (m2 : Nat) (m3 : Nat) (m4 : Nat) (m5 : Nat) (l1 : List Int) (x1 : Int) (d1 : Arr Int 8) (x2 : Int) (l2 : List Int) (l3 : List (List Int)) (x3 : Int) (a1 : Option Addr) (n1 : Nat) (c1 : Nat) (a2 : Option Addr) (n2 : Nat) (c2 : Nat) (a3 : Option Addr) (n3 : Nat) (c3 : Nat) (b1 : Nat) (b2 : Nat) (b3 : Nat) (b4 : Nat) (hR1 : RdS (Kd.int .u8) g0 5 a1 n1 c1 l1) (hR2 : OwnS (Kd.int .u8) g0 m3 5 a2 n2 c2 l2) (hR3 : OwnS (Kd.slice 5 (Kd.int .u8)) g0 m4 24 a3 n3 c3 l3) (hB1 : Box g0 m1 b2 126 [[.slice a1 n1 c1], [.int .i64 x1]] [1, 1]) (hB2 : Box g0 m0 b1 101 [[.pointer (some ⟨b2, 0, none⟩)]] [1]) (hB3 : Box g0 m2 b3 61 [encA .u8 d1, [.int .i64 x2], [.slice a2 n2 c2], [.slice a3 n3 c3]] [8, 1, 1, 1]) (hB4 : Box g0 m5 b4 43 [[.int .i64 x3]] [1]) (hm1_0 : m1 ≠ m0) (hm2_0 : m2 ≠ m0) (hm2_1 : m2 ≠ m1) (hm3_0 : m3 ≠ m0) (hm3_1 : m3 ≠ m1) (hm3_2 : m3 ≠ m2) (hm4_0 : m4 ≠ m0) (hm4_1 : m4 ≠ m1) (hm4_2 : m4 ≠ m2) (hm4_3 : m4 ≠ m3) (hm5_0 : m5 ≠ m0) (hm5_1 : m5 ≠ m1) (hm5_2 : m5 ≠ m2) (hm5_3 : m5 ≠ m3) (hm5_4 : m5 ≠ m4) (hm0 : m0 ≠ 0) (hm1 : m1 ≠ 0) (hm2 : m2 ≠ 0) (hm3 : m3 ≠ 0) (hm4 : m4 ≠ 0) (hm5 : m5 ≠ 0) (o1 : (List Int)) (o2 : Int) (o3 : (Arr Int 8)) (o4 : Int) (o5 : (List Int)) (o6 : (List (List Int))) (o7 : Int) (hs : F.state_Decode_1_2 l1 x1 d1 x2 l2 l3 x3 = some (o1, o2, o3, o4, o5, o6, o7)) :
  Calls Try.prog 50 #[.func (.func 52) #[] #[.pointer (some ⟨b1, 0, none⟩), .pointer (some ⟨b3, 0, none⟩)], .pointer (some ⟨b4, 0, none⟩), .pointer (some ⟨b1, 0, none⟩)] g0.w (Ret (WL [m1, m2, m5, m3, m4]) g0 fun v g => ∃ (a_1 : Option Addr) (n_1 : Nat) (c_1 : Nat) (a_4 : Option Addr) (n_4 : Nat) (c_4 : Nat) (a_7 : Option Addr) (n_7 : Nat) (c_7 : Nat), v = .tuple #[] ∧ RdS (Kd.int .u8) g 5 a_1 n_1 c_1 o1 ∧ Box g m1 b2 126 [[.slice a_1 n_1 c_1], [.int .i64 o2]] [1, 1] ∧ OwnS (Kd.int .u8) g m3 5 a_4 n_4 c_4 o5 ∧ OwnS (Kd.slice 5 (Kd.int .u8)) g m4 24 a_7 n_7 c_7 o6 ∧ Box g m2 b3 61 [encA .u8 o3, [.int .i64 o4], [.slice a_4 n_4 c_4], [.slice a_7 n_7 c_7]] [8, 1, 1, 1] ∧ Box g m5 b4 43 [[.int .i64 o7]] [1]) := by
 refine calls_of (args := [.func (.func 52) #[] #[.pointer (some ⟨b1, 0, none⟩), .pointer (some ⟨b3, 0, none⟩)], .pointer (some ⟨b4, 0, none⟩), .pointer (some ⟨b1, 0, none⟩)]) Try.func50 rfl (m0 + m1 + m2 + m3 + m4 + m5 + 0) ?_
 intro t ht htL
 refine ⟨_, rfl, ?_⟩
 refine CP.refr 18 [(0, .func (.func 52) #[] #[.pointer (some ⟨b1, 0, none⟩), .pointer (some ⟨b3, 0, none⟩)]), (1, .pointer (some ⟨b4, 0, none⟩)), (2, .pointer (some ⟨b1, 0, none⟩))] (by kernel_rfl) (by kernel_rfl) ?_
 intro ds
 have tot : Step (fun l => (WL [m1, m2, m5, m3, m4]) l ∨ t ≤ l) g0 g0 := Step.refl _ _
 unfold F.state_Decode_1_2 at hs
 refine CP.seq ?_
 refine CP.seqR ?_
 refine WP.loadB (v := .int .i64 x3) hB4 (by kernel_rfl) (by kernel_rfl) ?_
 refine WP.stl 1 ?_
 refine WP.dn ?_
 refine NX.then_n ?_
 refine CP.cond (b := (x3 != 0)) (by kernel_rfl) (fun h1 => ?_) (fun h1 => ?_)
 ·replace hs := of_if_t hs h1
  refine CP.ret ?_
  refine NX.then_r ?_
  replace hs := Option.some.inj hs
  simp only [Prod.mk.injEq] at hs
  obtain ⟨rfl, rfl, rfl, rfl, rfl, rfl, rfl⟩ := hs
  exact NX.fin (v := .tuple #[]) (Res.still (by kernel_rfl)) tot htL ⟨a1, n1, c1, a2, n2, c2, a3, n3, c3, rfl, hR1, hB1, hR2, hR3, hB3, hB4⟩
 replace hs := of_if_f hs h1
 refine CP.skip ?_
 refine NX.then_n ?_
 refine CP.seqR ?_
 refine WP.stl 1 ?_
 replace hs := Option.bind_eq_some_iff.1 hs
 obtain ⟨⟨q1, d2, x4, d3, x5, d4, d5⟩, hk1, hs⟩ := hs
 dsimp only at hs
 have hcal1 := P.state_Decode_2_2 g0 m0 m1 m2 m3 m4 l1 x1 d1 x2 l2 l3 a1 n1 c1 a2 n2 c2 a3 n3 c3 b1 b2 b3 hR1 hR2 hR3 hB1 hB2 hB3 (by omega) (by omega) (by omega) (by omega) (by omega) (by omega) (by omega) (by omega) (by omega) (by omega) (by omega) (by omega) (by omega) (by omega) (by omega) q1 d2 x4 d3 x5 d4 d5 hk1
 refine WP.callC hcal1 (by kernel_rfl) ?_
 rintro _ g1 st1 ⟨a4, n4, c4, a5, n5, c5, a6, n6, c6, rfl, hR4, hB5, hR5, hR6, hB6⟩
 replace hB2 := hB2.mono st1 (WL.no (by simp <;> omega))
 replace hB4 := hB4.mono st1 (WL.no (by simp <;> omega))
 replace tot := tot.trans (st1.up (by intro l hl; simp at hl; rcases hl with rfl | rfl | rfl | rfl <;> first | exact .inr (by omega) | exact .inl (by simp [WL])))
 clear hB1
 have hB1 := hB5
 clear hB5
 clear hB3
 have hB3 := hB6
 clear hB6
 refine WP.stl 1 ?_
 refine WP.dn ?_
 refine NX.then_n ?_
 refine CP.block ?_
 refine CP.seqR ?_
 refine WP.loadB (v := .pointer (some ⟨b2, 0, none⟩)) hB2 (by kernel_rfl) (by kernel_rfl) ?_
 replace hs := Option.bind_eq_some_iff.1 hs
 obtain ⟨x6, hk2, hs⟩ := hs
 have hcal2 := P.octet_Reader_Err g1 m1 d2 x4 a4 n4 c4 b2 hR4 hB1 (by omega) x6 hk2
 refine WP.callC hcal2 (by kernel_rfl) ?_
 rintro _ g2 st2 rfl
 replace hB4 := hB4.mono st2 (fun x => x)
 replace hB2 := hB2.mono st2 (fun x => x)
 replace hB1 := hB1.mono st2 (fun x => x)
 replace hR4 := hR4.mono st2 (fun x => x)
 replace hB3 := hB3.mono st2 (fun x => x)
 replace hR5 := hR5.mono st2 (fun x => x) (fun x => x)
 replace hR6 := hR6.mono st2 (fun x => x) (fun x => x)
 replace tot := tot.trans st2.pure
 refine WP.stl 2 ?_
 refine WP.dn ?_
 refine NX.then_n ?_
 refine CP.cond (b := (x6 != 0)) (by kernel_rfl) (fun h2 => ?_) (fun h2 => ?_)
 ·replace hs := of_if_t hs h2
  refine CP.region ?_
  refine WP.loadB (v := .pointer (some ⟨b2, 0, none⟩)) hB2 (by kernel_rfl) (by kernel_rfl) ?_
  replace hs := Option.bind_eq_some_iff.1 hs
  obtain ⟨x7, hk3, hs⟩ := hs
  have hcal3 := P.octet_Reader_Err g2 m1 d2 x4 a4 n4 c4 b2 hR4 hB1 (by omega) x7 hk3
  refine WP.callC hcal3 (by kernel_rfl) ?_
  rintro _ g3 st3 rfl
  replace hB4 := hB4.mono st3 (fun x => x)
  replace hB2 := hB2.mono st3 (fun x => x)
  replace hB1 := hB1.mono st3 (fun x => x)
  replace hR4 := hR4.mono st3 (fun x => x)
  replace hB3 := hB3.mono st3 (fun x => x)
  replace hR5 := hR5.mono st3 (fun x => x) (fun x => x)
  replace hR6 := hR6.mono st3 (fun x => x) (fun x => x)
  replace tot := tot.trans st3.pure
  refine WP.storeB (ty := 43) (off := 0) (v := .int .i64 x7) hB4 [[.int .i64 x7]] [1] (by kernel_rfl) (by kernel_rfl) rfl (by kernel_rfl) [[.int .i64 x7]] (by kernel_rfl) (.one rfl .nil) ?_
  intro g4 st4 hB7
  replace hB2 := hB2.mono st4 (WL.no1 (by omega))
  replace hB1 := hB1.mono st4 (WL.no1 (by omega))
  replace hR4 := hR4.mono st4 (WL.no1 (by omega))
  replace hB3 := hB3.mono st4 (WL.no1 (by omega))
  replace hR5 := hR5.mono st4 (WL.no1 (by omega)) (WL.no1 (by omega))
  replace hR6 := hR6.mono st4 (WL.no1 (by omega)) (WL.no1 (by omega))
  replace tot := tot.trans (st4.up1 (.inl (by simp [WL])))
  clear hB4
  have hB4 := hB7
  clear hB7
  refine WP.dn ?_
  refine NX.block_n ?_
  replace hs := Option.some.inj hs
  simp only [Prod.mk.injEq] at hs
  obtain ⟨rfl, rfl, rfl, rfl, rfl, rfl, rfl⟩ := hs
  exact NX.finE (v := .tuple #[]) (Res.still (by kernel_rfl)) tot htL ⟨a4, n4, c4, a5, n5, c5, a6, n6, c6, rfl, hR4, hB1, hR5, hR6, hB3, hB4⟩
 replace hs := of_if_f hs h2
 refine CP.seqR ?_
 refine WP.stl 3 ?_
 refine WP.dn ?_
 refine NX.then_n ?_
 refine CP.cond (b := (!q1)) (by kernel_rfl) (fun h3 => ?_) (fun h3 => ?_)
 ·replace hs := of_if_t hs h3
  refine CP.region ?_
  refine WP.storeB (ty := 43) (off := 0) (v := .int .i64 3) hB4 [[.int .i64 3]] [1] (by kernel_rfl) (by kernel_rfl) rfl (by kernel_rfl) [[.int .i64 3]] (by kernel_rfl) (.one rfl .nil) ?_
  intro g5 st5 hB8
  replace hB1 := hB1.mono st5 (WL.no1 (by omega))
  replace hR4 := hR4.mono st5 (WL.no1 (by omega))
  replace hB3 := hB3.mono st5 (WL.no1 (by omega))
  replace hR5 := hR5.mono st5 (WL.no1 (by omega)) (WL.no1 (by omega))
  replace hR6 := hR6.mono st5 (WL.no1 (by omega)) (WL.no1 (by omega))
  replace tot := tot.trans (st5.up1 (.inl (by simp [WL])))
  clear hB4
  have hB4 := hB8
  clear hB8
  refine WP.dn ?_
  refine NX.block_n ?_
  replace hs := Option.some.inj hs
  simp only [Prod.mk.injEq] at hs
  obtain ⟨rfl, rfl, rfl, rfl, rfl, rfl, rfl⟩ := hs
  exact NX.finE (v := .tuple #[]) (Res.still (by kernel_rfl)) tot htL ⟨a4, n4, c4, a5, n5, c5, a6, n6, c6, rfl, hR4, hB1, hR5, hR6, hB3, hB4⟩
 replace hs := of_if_f hs h3
 refine CP.skip ?_
 refine NX.block_n ?_
 replace hs := Option.some.inj hs
 simp only [Prod.mk.injEq] at hs
 obtain ⟨rfl, rfl, rfl, rfl, rfl, rfl, rfl⟩ := hs
 exact NX.finE (v := .tuple #[]) (Res.still (by kernel_rfl)) tot htL ⟨a4, n4, c4, a5, n5, c5, a6, n6, c6, rfl, hR4, hB1, hR5, hR6, hB3, hB4⟩
def F.octet_Reader_Num_1.c1 (x3 : Int) (x4 : Int) (x6 : Int) : Option (Int × Int × Int) := (some (x4, x6, x3))
def F.octet_Reader_Num_1.c2 (x3 : Int) (x4 : Int) (x5 : Int) (q2 : Bool) : Option (Int × Int × Int) := (if q2 = true then (F.octet_Reader_Num_1.c1 x3 x4 2) else (F.octet_Reader_Num_1.c1 x3 x4 x5))
def F.octet_Reader_Num_1 (l1 : List Int) (x1 : Int) (x2 : Int) : Option (Int × Int × Int) := ((F.octet_number l1).bind fun (x3, x4, x5) => (if (x5 == 0) = true then (F.octet_Reader_Num_1.c2 x3 x4 x5 (decide (x3 > x1))) else (F.octet_Reader_Num_1.c2 x3 x4 x5 false)))
theorem P.octet_Reader_Num_1 (g0 : GW) (m0 : Nat) (m1 : Nat) (l1 : List Int) (x1 : Int) (x2 : Int) (a1 : Option Addr) (n1 : Nat) (c1 : Nat) (b1 : Nat) (b2 : Nat) (hR1 : RdS (Kd.int .u8) g0 5 a1 n1 c1 l1) (hB1 : Box g0 m0 b1 38 [[.int .u64 x1]] [1]) (hB2 : Box g0 m1 b2 38 [[.int .u64 x2]] [1]) (hm1_0 : m1 ≠ m0) (hm0 : m0 ≠ 0) (hm1 : m1 ≠ 0) (o1 : Int) (o2 : Int) (o3 : Int) (hs : F.octet_Reader_Num_1 l1 x1 x2 = some (o1, o2, o3)) :
  Calls Try.prog 76 #[.slice a1 n1 c1, .pointer (some ⟨b1, 0, none⟩), .pointer (some ⟨b2, 0, none⟩)] g0.w (Ret (WL [m1]) g0 fun v g => v = .tuple #[.int .i64 o1, .int .i64 o2] ∧ Box g m1 b2 38 [[.int .u64 o3]] [1]) := by
 refine calls_of (args := [.slice a1 n1 c1, .pointer (some ⟨b1, 0, none⟩), .pointer (some ⟨b2, 0, none⟩)]) Try.func76 rfl (m0 + m1 + 0) ?_
 intro t ht htL
 refine ⟨_, rfl, ?_⟩
 refine CP.refr 25 [(0, .slice a1 n1 c1), (1, .pointer (some ⟨b1, 0, none⟩)), (2, .pointer (some ⟨b2, 0, none⟩))] (by kernel_rfl) (by kernel_rfl) ?_
 intro ds
 have tot : Step (fun l => (WL [m1]) l ∨ t ≤ l) g0 g0 := Step.refl _ _
 unfold F.octet_Reader_Num_1 at hs
 refine CP.seqR ?_
 refine WP.stl 2 ?_
 refine WP.dn ?_
 refine NX.then_n ?_
 refine CP.seqR ?_
 refine WP.stl 1 ?_
 replace hs := Option.bind_eq_some_iff.1 hs
 obtain ⟨⟨x3, x4, x5⟩, hk1, hs⟩ := hs
 dsimp only at hs
 have hcal1 := P.octet_number g0 l1 a1 n1 c1 hR1 x3 x4 x5 hk1
 refine WP.callC hcal1 (by kernel_rfl) ?_
 rintro _ g1 st1 rfl
 replace hR1 := hR1.mono st1 (fun x => x)
 replace hB1 := hB1.mono st1 (fun x => x)
 replace hB2 := hB2.mono st1 (fun x => x)
 replace tot := tot.trans st1.pure
 refine WP.stl 7 ?_
 refine WP.dn ?_
 refine NX.then_n ?_
 refine CP.cut (fun tm g => ∃ (x6 : Int), Fr 25 [(2, .pointer (some ⟨b2, 0, none⟩)), (6, .int .u64 x3), (7, .int .i64 x4), (8, .int .i64 x6)] tm ∧ Step (fun l => (WL [m1]) l ∨ t ≤ l) g0 g ∧ Box g m1 b2 38 [[.int .u64 x2]] [1] ∧ (F.octet_Reader_Num_1.c1 x3 x4 x6) = some (o1, o2, o3)) ?_ ?_
 ·refine CP.cut (fun tm g => ∃ (q2 : Bool), Fr 25 [(2, .pointer (some ⟨b2, 0, none⟩)), (6, .int .u64 x3), (7, .int .i64 x4), (8, .int .i64 x5), (21, .bool q2)] tm ∧ Step (fun l => (WL [m1]) l ∨ t ≤ l) g0 g ∧ Box g m1 b2 38 [[.int .u64 x2]] [1] ∧ (F.octet_Reader_Num_1.c2 x3 x4 x5 q2) = some (o1, o2, o3)) ?_ ?_
  ·refine CP.region ?_
   refine WP.stl 3 ?_
   refine WP.guard 17 (b := (x5 == 0)) (by kernel_rfl) (fun h5 => ?_) (fun h5 => ?_)
   ·replace hs := of_if_t hs h5
    refine WP.stl 1 ?_
    refine WP.loadB (v := .int .u64 x1) hB1 (by kernel_rfl) (by kernel_rfl) ?_
    refine WP.stl 2 ?_
    refine WP.dn ?_
    refine NX.post ?_
    exact ⟨decide (x3 > x1), ⟨by kernel_rfl, by kernel_rfl⟩, tot, hB2, hs⟩
   replace hs := of_if_f hs h5
   refine WP.stl 4 ?_
   refine WP.dn ?_
   refine NX.post ?_
   exact ⟨false, ⟨by kernel_rfl, by kernel_rfl⟩, tot, hB2, hs⟩
  clear tot hs hB1 hB2
  rintro tm g ⟨q2, hF, tot, hB2, hs⟩
  clear ds
  obtain ⟨ds, rfl⟩ := hF.open
  clear hF
  unfold F.octet_Reader_Num_1.c2 at hs
  refine CP.cond (b := q2) (by kernel_rfl) (fun h4 => ?_) (fun h4 => ?_)
  ·replace hs := of_if_t hs h4
   refine CP.region ?_
   refine WP.stl 1 ?_
   refine WP.dn ?_
   refine NX.post ?_
   exact ⟨2, ⟨by kernel_rfl, by kernel_rfl⟩, tot, hB2, hs⟩
  replace hs := of_if_f hs h4
  refine CP.skip ?_
  refine NX.post ?_
  exact ⟨x5, ⟨by kernel_rfl, by kernel_rfl⟩, tot, hB2, hs⟩
 clear tot hs hB1 hB2
 rintro tm g ⟨x6, hF, tot, hB2, hs⟩
 clear ds
 obtain ⟨ds, rfl⟩ := hF.open
 clear hF
 unfold F.octet_Reader_Num_1.c1 at hs
 refine CP.seqR ?_
 refine WP.stl 1 ?_
 refine WP.storeB (ty := 38) (off := 0) (v := .int .u64 x3) hB2 [[.int .u64 x3]] [1] (by kernel_rfl) (by kernel_rfl) rfl (by kernel_rfl) [[.int .u64 x3]] (by kernel_rfl) (.one rfl .nil) ?_
 intro g2 st2 hB3
 replace tot := tot.trans (st2.up1 (.inl (by simp [WL])))
 clear hB2
 have hB2 := hB3
 clear hB3
 refine WP.dn ?_
 refine NX.then_n ?_
 refine CP.seqR ?_
 refine WP.stl 4 ?_
 refine WP.dn ?_
 refine NX.then_n ?_
 refine CP.ret ?_
 replace hs := Option.some.inj hs
 simp only [Prod.mk.injEq] at hs
 obtain ⟨rfl, rfl, rfl⟩ := hs
 exact NX.fin (v := .tuple #[.int .i64 x4, .int .i64 x6]) (Res.still (by kernel_rfl)) tot htL ⟨rfl, hB2⟩
def F.octet_Reader_read_3 (l1 : List Int) (x1 : Int) (x2 : Int) (x3 : Int) : Option (Bool × (List Int) × Int × Int) := (if (x1 != 0) = true then (some (false, l1, x1, x3)) else ((F.octet_Reader_Num_1 l1 x2 x3).bind fun (x4, x5, x6) => (if (x5 != 0) = true then (some (false, l1, x5, x6)) else (if (0 : Int) ≤ x4 ∧ x4 ≤ (l1.length : Int) ∧ (l1.length : Int) ≤ (l1.length : Int) then (some (true, (sliceI l1 x4 (l1.length : Int)), x1, x6)) else none))))
theorem P.octet_Reader_read_3 (g0 : GW) (m0 : Nat) (m1 : Nat) (m2 : Nat) (l1 : List Int) (x1 : Int) (x2 : Int) (x3 : Int) (a1 : Option Addr) (n1 : Nat) (c1 : Nat) (b1 : Nat) (b2 : Nat) (b3 : Nat) (hR1 : RdS (Kd.int .u8) g0 5 a1 n1 c1 l1) (hB1 : Box g0 m0 b1 126 [[.slice a1 n1 c1], [.int .i64 x1]] [1, 1]) (hB2 : Box g0 m1 b2 38 [[.int .u64 x2]] [1]) (hB3 : Box g0 m2 b3 38 [[.int .u64 x3]] [1]) (hm1_0 : m1 ≠ m0) (hm2_0 : m2 ≠ m0) (hm2_1 : m2 ≠ m1) (hm0 : m0 ≠ 0) (hm1 : m1 ≠ 0) (hm2 : m2 ≠ 0) (o1 : Bool) (o2 : (List Int)) (o3 : Int) (o4 : Int) (hs : F.octet_Reader_read_3 l1 x1 x2 x3 = some (o1, o2, o3, o4)) :
  Calls Try.prog 73 #[.pointer (some ⟨b1, 0, none⟩), .func (.func 76) #[] #[.pointer (some ⟨b2, 0, none⟩), .pointer (some ⟨b3, 0, none⟩)]] g0.w (Ret (WL [m0, m2]) g0 fun v g => ∃ (a_1 : Option Addr) (n_1 : Nat) (c_1 : Nat), v = .bool o1 ∧ RdS (Kd.int .u8) g 5 a_1 n_1 c_1 o2 ∧ Box g m0 b1 126 [[.slice a_1 n_1 c_1], [.int .i64 o3]] [1, 1] ∧ Box g m2 b3 38 [[.int .u64 o4]] [1]) := by
 refine calls_of (args := [.pointer (some ⟨b1, 0, none⟩), .func (.func 76) #[] #[.pointer (some ⟨b2, 0, none⟩), .pointer (some ⟨b3, 0, none⟩)]]) Try.func73 rfl (m0 + m1 + m2 + 0) ?_
 intro t ht htL
 refine ⟨_, rfl, ?_⟩
 refine CP.refr 40 [(0, .pointer (some ⟨b1, 0, none⟩)), (1, .func (.func 76) #[] #[.pointer (some ⟨b2, 0, none⟩), .pointer (some ⟨b3, 0, none⟩)])] (by kernel_rfl) (by kernel_rfl) ?_
 intro ds
 have tot : Step (fun l => (WL [m0, m2]) l ∨ t ≤ l) g0 g0 := Step.refl _ _
 unfold F.octet_Reader_read_3 at hs
 refine CP.seqR ?_
 refine WP.stl 1 ?_
 refine WP.dn ?_
 refine NX.then_n ?_
 refine CP.seq ?_
 refine CP.seq ?_
 refine CP.region ?_
 refine WP.stl 6 ?_
 refine WP.loadB (v := .int .i64 x1) hB1 (by kernel_rfl) (by kernel_rfl) ?_
 refine WP.stl 2 ?_
 refine WP.dn ?_
 refine NX.then_n ?_
 refine CP.cond (b := (x1 != 0)) (by kernel_rfl) (fun h1 => ?_) (fun h1 => ?_)
 ·replace hs := of_if_t hs h1
  refine CP.seqR ?_
  refine WP.stl 1 ?_
  refine WP.dn ?_
  refine NX.then_n ?_
  refine CP.ret ?_
  refine NX.then_r ?_
  replace hs := Option.some.inj hs
  simp only [Prod.mk.injEq] at hs
  obtain ⟨rfl, rfl, rfl, rfl⟩ := hs
  exact NX.fin (v := .bool false) (Res.still (by kernel_rfl)) tot htL ⟨a1, n1, c1, rfl, hR1, hB1, hB3⟩
 replace hs := of_if_f hs h1
 refine CP.skip ?_
 refine NX.then_n ?_
 refine CP.seqR ?_
 refine WP.stl 4 ?_
 refine WP.loadB (v := .slice a1 n1 c1) hB1 (by kernel_rfl) (by kernel_rfl) ?_
 replace hs := Option.bind_eq_some_iff.1 hs
 obtain ⟨⟨x4, x5, x6⟩, hk1, hs⟩ := hs
 dsimp only at hs
 have hcal1 := P.octet_Reader_Num_1 g0 m1 m2 l1 x2 x3 a1 n1 c1 b2 b3 hR1 hB2 hB3 (by omega) (by omega) (by omega) x4 x5 x6 hk1
 refine WP.callC hcal1 (by kernel_rfl) ?_
 rintro _ g1 st1 ⟨rfl, hB4⟩
 replace hB1 := hB1.mono st1 (WL.no1 (by omega))
 replace hR1 := hR1.mono st1 (WL.no1 (by omega))
 replace hB2 := hB2.mono st1 (WL.no1 (by omega))
 replace tot := tot.trans (st1.up1 (.inl (by simp [WL])))
 clear hB3
 have hB3 := hB4
 clear hB4
 refine WP.stl 5 ?_
 refine WP.dn ?_
 refine NX.then_n ?_
 refine CP.refr 40 [(0, .pointer (some ⟨b1, 0, none⟩)), (5, .int .i64 x4), (6, .int .i64 x5)] (by kernel_rfl) (by kernel_rfl) ?_
 clear ds
 intro ds
 refine CP.seq ?_
 refine CP.seqR ?_
 refine WP.stl 2 ?_
 refine WP.dn ?_
 refine NX.then_n ?_
 refine CP.cond (b := (x5 != 0)) (by kernel_rfl) (fun h2 => ?_) (fun h2 => ?_)
 ·replace hs := of_if_t hs h2
  refine CP.seqR ?_
  refine WP.stl 4 ?_
  refine WP.storeB (ty := 43) (off := 1) (v := .int .i64 x5) hB1 [[.int .i64 x5]] [1] (by kernel_rfl) (by kernel_rfl) rfl (by kernel_rfl) [[.slice a1 n1 c1], [.int .i64 x5]] (by kernel_rfl) (.one rfl .nil) ?_
  intro g2 st2 hB5
  replace hR1 := hR1.mono st2 (WL.no1 (by omega))
  replace hB3 := hB3.mono st2 (WL.no1 (by omega))
  replace tot := tot.trans (st2.up1 (.inl (by simp [WL])))
  clear hB1
  have hB1 := hB5
  clear hB5
  refine WP.dn ?_
  refine NX.then_n ?_
  refine CP.seqR ?_
  refine WP.stl 1 ?_
  refine WP.dn ?_
  refine NX.then_n ?_
  refine CP.ret ?_
  refine NX.then_r ?_
  replace hs := Option.some.inj hs
  simp only [Prod.mk.injEq] at hs
  obtain ⟨rfl, rfl, rfl, rfl⟩ := hs
  exact NX.fin (v := .bool false) (Res.still (by kernel_rfl)) tot htL ⟨a1, n1, c1, rfl, hR1, hB1, hB3⟩
 replace hs := of_if_f hs h2
 refine CP.skip ?_
 refine NX.then_n ?_
 refine CP.seqR ?_
 refine WP.stl 4 ?_
 refine WP.loadB (v := .slice a1 n1 c1) hB1 (by kernel_rfl) (by kernel_rfl) ?_
 refine WP.stl 1 ?_
 by_cases hc1 : (0 : Int) ≤ x4 ∧ x4 ≤ (l1.length : Int) ∧ (l1.length : Int) ≤ (l1.length : Int)
 case neg => rw [if_neg hc1] at hs; cases hs
 replace hs := of_if_p hs hc1
 refine WP.sliceR (lo := some (.int .i64 x4)) (hi := none) hR1 x4 (l1.length : Int) (by kernel_rfl) (.inr ⟨_, rfl⟩) (.inl ⟨rfl, rfl⟩) hc1 ?_
 intro a2 c2 hR2
 refine WP.stl 2 ?_
 refine WP.storeB (ty := 24) (off := 0) (v := .slice a2 ((l1.length : Int).toNat - x4.toNat) c2) hB1 [[.slice a2 ((l1.length : Int).toNat - x4.toNat) c2]] [1] (by kernel_rfl) (by kernel_rfl) rfl (by kernel_rfl) [[.slice a2 ((l1.length : Int).toNat - x4.toNat) c2], [.int .i64 x1]] (by kernel_rfl) (.one rfl .nil) ?_
 intro g3 st3 hB6
 replace hR2 := hR2.mono st3 (WL.no1 (by omega))
 replace hB3 := hB3.mono st3 (WL.no1 (by omega))
 replace hR1 := hR1.mono st3 (WL.no1 (by omega))
 replace tot := tot.trans (st3.up1 (.inl (by simp [WL])))
 clear hB1
 have hB1 := hB6
 clear hB6
 refine WP.dn ?_
 refine NX.then_n ?_
 refine CP.seqR ?_
 refine WP.stl 1 ?_
 refine WP.dn ?_
 refine NX.then_n ?_
 refine CP.refr 40 [(4, .bool true)] (by kernel_rfl) (by kernel_rfl) ?_
 clear ds
 intro ds
 refine CP.ret ?_
 replace hs := Option.some.inj hs
 simp only [Prod.mk.injEq] at hs
 obtain ⟨rfl, rfl, rfl, rfl⟩ := hs
 exact NX.fin (v := .bool true) (Res.still (by kernel_rfl)) tot htL ⟨a2, ((l1.length : Int).toNat - x4.toNat), c2, rfl, hR2, hB1, hB3⟩
def F.octet_Reader_Num (l1 : List Int) (x1 : Int) (x2 : Int) : Option (Int × (List Int) × Int) := ((F.octet_Reader_read_3 l1 x1 x2 0).bind fun (q1, d1, x3, x4) => (if (!q1) = true then (some (0, d1, x3)) else (some (x4, d1, x3))))
theorem P.octet_Reader_Num (g0 : GW) (m0 : Nat) (l1 : List Int) (x1 : Int) (x2 : Int) (a1 : Option Addr) (n1 : Nat) (c1 : Nat) (b1 : Nat) (hR1 : RdS (Kd.int .u8) g0 5 a1 n1 c1 l1) (hB1 : Box g0 m0 b1 126 [[.slice a1 n1 c1], [.int .i64 x1]] [1, 1]) (hm0 : m0 ≠ 0) (o1 : Int) (o2 : (List Int)) (o3 : Int) (hs : F.octet_Reader_Num l1 x1 x2 = some (o1, o2, o3)) :
  Calls Try.prog 55 #[.pointer (some ⟨b1, 0, none⟩), .int .u64 x2] g0.w (Ret (WL [m0]) g0 fun v g => ∃ (a_1 : Option Addr) (n_1 : Nat) (c_1 : Nat), v = .int .u64 o1 ∧ RdS (Kd.int .u8) g 5 a_1 n_1 c_1 o2 ∧ Box g m0 b1 126 [[.slice a_1 n_1 c_1], [.int .i64 o3]] [1, 1]) := by
 refine calls_of (args := [.pointer (some ⟨b1, 0, none⟩), .int .u64 x2]) Try.func55 rfl (m0 + 0) ?_
 intro t ht htL
 refine ⟨_, rfl, ?_⟩
 refine CP.refr 13 [(0, .pointer (some ⟨b1, 0, none⟩)), (1, .int .u64 x2)] (by kernel_rfl) (by kernel_rfl) ?_
 intro ds
 have tot : Step (fun l => (WL [m0]) l ∨ t ≤ l) g0 g0 := Step.refl _ _
 unfold F.octet_Reader_Num at hs
 refine CP.seqR ?_
 refine WP.alloc (T := 38) (t + 1) [[.int .u64 x2]] [1] (by kernel_rfl) rfl ?_
 intro g1 b2 st1 hB2
 replace hB1 := hB1.mono st1 (fun x => x)
 replace hR1 := hR1.mono st1 (fun x => x)
 replace tot := tot.trans st1.pure
 refine WP.stl 1 ?_
 refine WP.dn ?_
 refine NX.then_n ?_
 refine CP.seqR ?_
 refine WP.alloc (T := 38) (t + 2) [[.int .u64 0]] [1] (by kernel_rfl) rfl ?_
 intro g2 b3 st2 hB3
 replace hB1 := hB1.mono st2 (fun x => x)
 replace hR1 := hR1.mono st2 (fun x => x)
 replace hB2 := hB2.mono st2 (fun x => x)
 replace tot := tot.trans st2.pure
 refine WP.dn ?_
 refine NX.then_n ?_
 refine CP.seqR ?_
 refine WP.stl 2 ?_
 replace hs := Option.bind_eq_some_iff.1 hs
 obtain ⟨⟨q1, d1, x3, x4⟩, hk1, hs⟩ := hs
 dsimp only at hs
 have hcal1 := P.octet_Reader_read_3 g2 m0 (t + 1) (t + 2) l1 x1 x2 0 a1 n1 c1 b1 b2 b3 hR1 hB1 hB2 hB3 (by omega) (by omega) (by omega) (by omega) (by omega) (by omega) q1 d1 x3 x4 hk1
 refine WP.callC hcal1 (by kernel_rfl) ?_
 rintro _ g3 st3 ⟨a2, n2, c2, rfl, hR2, hB4, hB5⟩
 replace hB2 := hB2.mono st3 (WL.no2 (by omega) (by omega))
 replace tot := tot.trans (st3.up2 (.inl (by simp [WL])) (.inr (by omega)))
 clear hB1
 have hB1 := hB4
 clear hB4
 clear hB3
 have hB3 := hB5
 clear hB5
 refine WP.stl 1 ?_
 refine WP.dn ?_
 refine NX.then_n ?_
 refine CP.seq ?_
 refine CP.seqR ?_
 refine WP.stl 2 ?_
 refine WP.dn ?_
 refine NX.then_n ?_
 refine CP.cond (b := (!q1)) (by kernel_rfl) (fun h1 => ?_) (fun h1 => ?_)
 ·replace hs := of_if_t hs h1
  refine CP.seqR ?_
  refine WP.stl 1 ?_
  refine WP.dn ?_
  refine NX.then_n ?_
  refine CP.ret ?_
  refine NX.then_r ?_
  replace hs := Option.some.inj hs
  simp only [Prod.mk.injEq] at hs
  obtain ⟨rfl, rfl, rfl⟩ := hs
  exact NX.fin (v := .int .u64 0) (Res.still (by kernel_rfl)) tot htL ⟨a2, n2, c2, rfl, hR2, hB1⟩
 replace hs := of_if_f hs h1
 refine CP.skip ?_
 refine NX.then_n ?_
 refine CP.seqR ?_
 refine WP.loadB (v := .int .u64 x4) hB3 (by kernel_rfl) (by kernel_rfl) ?_
 refine WP.stl 1 ?_
 refine WP.dn ?_
 refine NX.then_n ?_
 refine CP.ret ?_
 replace hs := Option.some.inj hs
 simp only [Prod.mk.injEq] at hs
 obtain ⟨rfl, rfl, rfl⟩ := hs
 exact NX.fin (v := .int .u64 x4) (Res.still (by kernel_rfl)) tot htL ⟨a2, n2, c2, rfl, hR2, hB1⟩
def F.state_Decode_3_2 (l1 : List Int) (x1 : Int) (d1 : Arr Int 8) (x2 : Int) (l2 : List Int) (l3 : List (List Int)) : Option (Bool × (List Int) × Int × (Arr Int 8) × Int × (List Int) × (List (List Int))) := ((F.octet_Reader_Num l1 x1 1099511627776).bind fun (x3, d2, x4) => (some (true, d2, x4, d1, (IntKind.i64.wrap x3), l2, l3)))
theorem P.state_Decode_3_2 (g0 : GW) (m0 : Nat) (m1 : Nat) (m2 : Nat) (m3 : Nat) (m4 : Nat) (l1 : List Int) (x1 : Int) (d1 : Arr Int 8) (x2 : Int) (l2 : List Int) (l3 : List (List Int)) (a1 : Option Addr) (n1 : Nat) (c1 : Nat) (a2 : Option Addr) (n2 : Nat) (c2 : Nat) (a3 : Option Addr) (n3 : Nat) (c3 : Nat) (b1 : Nat) (b2 : Nat) (b3 : Nat) (hR1 : RdS (Kd.int .u8) g0 5 a1 n1 c1 l1) (hR2 : OwnS (Kd.int .u8) g0 m3 5 a2 n2 c2 l2) (hR3 : OwnS (Kd.slice 5 (Kd.int .u8)) g0 m4 24 a3 n3 c3 l3) (hB1 : Box g0 m1 b2 126 [[.slice a1 n1 c1], [.int .i64 x1]] [1, 1]) (hB2 : Box g0 m0 b1 101 [[.pointer (some ⟨b2, 0, none⟩)]] [1]) (hB3 : Box g0 m2 b3 61 [encA .u8 d1, [.int .i64 x2], [.slice a2 n2 c2], [.slice a3 n3 c3]] [8, 1, 1, 1]) (hm1_0 : m1 ≠ m0) (hm2_0 : m2 ≠ m0) (hm2_1 : m2 ≠ m1) (hm3_0 : m3 ≠ m0) (hm3_1 : m3 ≠ m1) (hm3_2 : m3 ≠ m2) (hm4_0 : m4 ≠ m0) (hm4_1 : m4 ≠ m1) (hm4_2 : m4 ≠ m2) (hm4_3 : m4 ≠ m3) (hm0 : m0 ≠ 0) (hm1 : m1 ≠ 0) (hm2 : m2 ≠ 0) (hm3 : m3 ≠ 0) (hm4 : m4 ≠ 0) (o1 : Bool) (o2 : (List Int)) (o3 : Int) (o4 : (Arr Int 8)) (o5 : Int) (o6 : (List Int)) (o7 : (List (List Int))) (hs : F.state_Decode_3_2 l1 x1 d1 x2 l2 l3 = some (o1, o2, o3, o4, o5, o6, o7)) :
  Calls Try.prog 54 #[.pointer (some ⟨b1, 0, none⟩), .pointer (some ⟨b3, 0, none⟩)] g0.w (Ret (WL [m1, m2, m3, m4]) g0 fun v g => ∃ (a_1 : Option Addr) (n_1 : Nat) (c_1 : Nat) (a_4 : Option Addr) (n_4 : Nat) (c_4 : Nat) (a_7 : Option Addr) (n_7 : Nat) (c_7 : Nat), v = .bool o1 ∧ RdS (Kd.int .u8) g 5 a_1 n_1 c_1 o2 ∧ Box g m1 b2 126 [[.slice a_1 n_1 c_1], [.int .i64 o3]] [1, 1] ∧ OwnS (Kd.int .u8) g m3 5 a_4 n_4 c_4 o6 ∧ OwnS (Kd.slice 5 (Kd.int .u8)) g m4 24 a_7 n_7 c_7 o7 ∧ Box g m2 b3 61 [encA .u8 o4, [.int .i64 o5], [.slice a_4 n_4 c_4], [.slice a_7 n_7 c_7]] [8, 1, 1, 1]) := by
 refine calls_of (args := [.pointer (some ⟨b1, 0, none⟩), .pointer (some ⟨b3, 0, none⟩)]) Try.func54 rfl (m0 + m1 + m2 + m3 + m4 + 0) ?_
 intro t ht htL
 refine ⟨_, rfl, ?_⟩
 refine CP.refr 8 [(0, .pointer (some ⟨b1, 0, none⟩)), (1, .pointer (some ⟨b3, 0, none⟩))] (by kernel_rfl) (by kernel_rfl) ?_
 intro ds
 have tot : Step (fun l => (WL [m1, m2, m3, m4]) l ∨ t ≤ l) g0 g0 := Step.refl _ _
 unfold F.state_Decode_3_2 at hs
 refine CP.seqR ?_
 refine WP.stl 1 ?_
 refine WP.dn ?_
 refine NX.then_n ?_
 refine CP.seqR ?_
 refine WP.loadB (v := .pointer (some ⟨b2, 0, none⟩)) hB2 (by kernel_rfl) (by kernel_rfl) ?_
 replace hs := Option.bind_eq_some_iff.1 hs
 obtain ⟨⟨x3, d2, x4⟩, hk1, hs⟩ := hs
 dsimp only at hs
 have hcal1 := P.octet_Reader_Num g0 m1 l1 x1 1099511627776 a1 n1 c1 b2 hR1 hB1 (by omega) x3 d2 x4 hk1
 refine WP.callC hcal1 (by kernel_rfl) ?_
 rintro _ g1 st1 ⟨a4, n4, c4, rfl, hR4, hB4⟩
 replace hB2 := hB2.mono st1 (WL.no1 (by omega))
 replace hB3 := hB3.mono st1 (WL.no1 (by omega))
 replace hR2 := hR2.mono st1 (WL.no1 (by omega)) (WL.no1 (by omega))
 replace hR3 := hR3.mono st1 (WL.no1 (by omega)) (WL.no1 (by omega))
 replace tot := tot.trans (st1.up1 (.inl (by simp [WL])))
 clear hB1
 have hB1 := hB4
 clear hB4
 refine WP.stl 3 ?_
 refine WP.storeB (ty := 3) (off := 8) (v := .int .i64 (IntKind.i64.wrap x3)) hB3 [[.int .i64 (IntKind.i64.wrap x3)]] [1] (by kernel_rfl) (by kernel_rfl) rfl (by kernel_rfl) [encA .u8 d1, [.int .i64 (IntKind.i64.wrap x3)], [.slice a2 n2 c2], [.slice a3 n3 c3]] (by kernel_rfl) (.one rfl .nil) ?_
 intro g2 st2 hB5
 replace hB2 := hB2.mono st2 (WL.no1 (by omega))
 replace hB1 := hB1.mono st2 (WL.no1 (by omega))
 replace hR4 := hR4.mono st2 (WL.no1 (by omega))
 replace hR2 := hR2.mono st2 (WL.no1 (by omega)) (WL.no1 (by omega))
 replace hR3 := hR3.mono st2 (WL.no1 (by omega)) (WL.no1 (by omega))
 replace tot := tot.trans (st2.up1 (.inl (by simp [WL])))
 clear hB3
 have hB3 := hB5
 clear hB5
 refine WP.dn ?_
 refine NX.then_n ?_
 refine CP.seqR ?_
 refine WP.stl 1 ?_
 refine WP.dn ?_
 refine NX.then_n ?_
 refine CP.ret ?_
 replace hs := Option.some.inj hs
 simp only [Prod.mk.injEq] at hs
 obtain ⟨rfl, rfl, rfl, rfl, rfl, rfl, rfl⟩ := hs
 exact NX.fin (v := .bool true) (Res.still (by kernel_rfl)) tot htL ⟨a4, n4, c4, a2, n2, c2, a3, n3, c3, rfl, hR4, hB1, hR2, hR3, hB3⟩
def F.state_Decode_1_4 (l1 : List Int) (x1 : Int) (d1 : Arr Int 8) (x2 : Int) (l2 : List Int) (l3 : List (List Int)) (x3 : Int) : Option ((List Int) × Int × (Arr Int 8) × Int × (List Int) × (List (List Int)) × Int) := (if (x3 != 0) = true then (some (l1, x1, d1, x2, l2, l3, x3)) else ((F.state_Decode_3_2 l1 x1 d1 x2 l2 l3).bind fun (q1, d2, x4, d3, x5, d4, d5) => ((F.octet_Reader_Err d2 x4).bind fun x6 => (if (x6 != 0) = true then ((F.octet_Reader_Err d2 x4).bind fun x7 => (some (d2, x4, d3, x5, d4, d5, x7))) else (if (!q1) = true then (some (d2, x4, d3, x5, d4, d5, 3)) else (some (d2, x4, d3, x5, d4, d5, x3)))))))
theorem P.state_Decode_1_4 (g0 : GW) (m0 : Nat) (m1 : Nat) (m2 : Nat) (m3 : Nat) (m4 : Nat) (m5 : Nat) (l1 : List Int) (x1 : Int) (d1 : Arr Int 8) (x2 : Int) (l2 : List Int) (l3 : List (List Int)) (x3 : Int) (a1 : Option Addr) (n1 : Nat) (c1 : Nat) (a2 : Option Addr) (n2 : Nat) (c2 : Nat) (a3 : Option Addr) (n3 : Nat) (c3 : Nat) (b1 : Nat) (b2 : Nat) (b3 : Nat) (b4 : Nat) (hR1 : RdS (Kd.int .u8) g0 5 a1 n1 c1 l1) (hR2 : OwnS (Kd.int .u8) g0 m3 5 a2 n2 c2 l2) (hR3 : OwnS (Kd.slice 5 (Kd.int .u8)) g0 m4 24 a3 n3 c3 l3) (hB1 : Box g0 m1 b2 126 [[.slice a1 n1 c1], [.int .i64 x1]] [1, 1]) (hB2 : Box g0 m0 b1 101 [[.pointer (some ⟨b2, 0, none⟩)]] [1]) (hB3 : Box g0 m2 b3 61 [encA .u8 d1, [.int .i64 x2], [.slice a2 n2 c2], [.slice a3 n3 c3]] [8, 1, 1, 1]) (hB4 : Box g0 m5 b4 43 [[.int .i64 x3]] [1]) (hm1_0 : m1 ≠ m0) (hm2_0 : m2 ≠ m0) (hm2_1 : m2 ≠ m1) (hm3_0 : m3 ≠ m0) (hm3_1 : m3 ≠ m1) (hm3_2 : m3 ≠ m2) (hm4_0 : m4 ≠ m0) (hm4_1 : m4 ≠ m1) (hm4_2 : m4 ≠ m2) (hm4_3 : m4 ≠ m3) (hm5_0 : m5 ≠ m0) (hm5_1 : m5 ≠ m1) (hm5_2 : m5 ≠ m2) (hm5_3 : m5 ≠ m3) (hm5_4 : m5 ≠ m4) (hm0 : m0 ≠ 0) (hm1 : m1 ≠ 0) (hm2 : m2 ≠ 0) (hm3 : m3 ≠ 0) (hm4 : m4 ≠ 0) (hm5 : m5 ≠ 0) (o1 : (List Int)) (o2 : Int) (o3 : (Arr Int 8)) (o4 : Int) (o5 : (List Int)) (o6 : (List (List Int))) (o7 : Int) (hs : F.state_Decode_1_4 l1 x1 d1 x2 l2 l3 x3 = some (o1, o2, o3, o4, o5, o6, o7)) :
  Calls Try.prog 50 #[.func (.func 54) #[] #[.pointer (some ⟨b1, 0, none⟩), .pointer (some ⟨b3, 0, none⟩)], .pointer (some ⟨b4, 0, none⟩), .pointer (some ⟨b1, 0, none⟩)] g0.w (Ret (WL [m1, m2, m5, m3, m4]) g0 fun v g => ∃ (a_1 : Option Addr) (n_1 : Nat) (c_1 : Nat) (a_4 : Option Addr) (n_4 : Nat) (c_4 : Nat) (a_7 : Option Addr) (n_7 : Nat) (c_7 : Nat), v = .tuple #[] ∧ RdS (Kd.int .u8) g 5 a_1 n_1 c_1 o1 ∧ Box g m1 b2 126 [[.slice a_1 n_1 c_1], [.int .i64 o2]] [1, 1] ∧ OwnS (Kd.int .u8) g m3 5 a_4 n_4 c_4 o5 ∧ OwnS (Kd.slice 5 (Kd.int .u8)) g m4 24 a_7 n_7 c_7 o6 ∧ Box g m2 b3 61 [encA .u8 o3, [.int .i64 o4], [.slice a_4 n_4 c_4], [.slice a_7 n_7 c_7]] [8, 1, 1, 1] ∧ Box g m5 b4 43 [[.int .i64 o7]] [1]) := by
 refine calls_of (args := [.func (.func 54) #[] #[.pointer (some ⟨b1, 0, none⟩), .pointer (some ⟨b3, 0, none⟩)], .pointer (some ⟨b4, 0, none⟩), .pointer (some ⟨b1, 0, none⟩)]) Try.func50 rfl (m0 + m1 + m2 + m3 + m4 + m5 + 0) ?_
 intro t ht htL
 refine ⟨_, rfl, ?_⟩
 refine CP.refr 18 [(0, .func (.func 54) #[] #[.pointer (some ⟨b1, 0, none⟩), .pointer (some ⟨b3, 0, none⟩)]), (1, .pointer (some ⟨b4, 0, none⟩)), (2, .pointer (some ⟨b1, 0, none⟩))] (by kernel_rfl) (by kernel_rfl) ?_
 intro ds
 have tot : Step (fun l => (WL [m1, m2, m5, m3, m4]) l ∨ t ≤ l) g0 g0 := Step.refl _ _
 unfold F.state_Decode_1_4 at hs
 refine CP.seq ?_
 refine CP.seqR ?_
 refine WP.loadB (v := .int .i64 x3) hB4 (by kernel_rfl) (by kernel_rfl) ?_
 refine WP.stl 1 ?_
 refine WP.dn ?_
 refine NX.then_n ?_
 refine CP.cond (b := (x3 != 0)) (by kernel_rfl) (fun h1 => ?_) (fun h1 => ?_)
 ·replace hs := of_if_t hs h1
  refine CP.ret ?_
  refine NX.then_r ?_
  replace hs := Option.some.inj hs
  simp only [Prod.mk.injEq] at hs
  obtain ⟨rfl, rfl, rfl, rfl, rfl, rfl, rfl⟩ := hs
  exact NX.fin (v := .tuple #[]) (Res.still (by kernel_rfl)) tot htL ⟨a1, n1, c1, a2, n2, c2, a3, n3, c3, rfl, hR1, hB1, hR2, hR3, hB3, hB4⟩
 replace hs := of_if_f hs h1
 refine CP.skip ?_
 refine NX.then_n ?_
 refine CP.seqR ?_
 refine WP.stl 1 ?_
 replace hs := Option.bind_eq_some_iff.1 hs
 obtain ⟨⟨q1, d2, x4, d3, x5, d4, d5⟩, hk1, hs⟩ := hs
 dsimp only at hs
 have hcal1 := P.state_Decode_3_2 g0 m0 m1 m2 m3 m4 l1 x1 d1 x2 l2 l3 a1 n1 c1 a2 n2 c2 a3 n3 c3 b1 b2 b3 hR1 hR2 hR3 hB1 hB2 hB3 (by omega) (by omega) (by omega) (by omega) (by omega) (by omega) (by omega) (by omega) (by omega) (by omega) (by omega) (by omega) (by omega) (by omega) (by omega) q1 d2 x4 d3 x5 d4 d5 hk1
 refine WP.callC hcal1 (by kernel_rfl) ?_
 rintro _ g1 st1 ⟨a4, n4, c4, a5, n5, c5, a6, n6, c6, rfl, hR4, hB5, hR5, hR6, hB6⟩
 replace hB2 := hB2.mono st1 (WL.no (by simp <;> omega))
 replace hB4 := hB4.mono st1 (WL.no (by simp <;> omega))
 replace tot := tot.trans (st1.up (by intro l hl; simp at hl; rcases hl with rfl | rfl | rfl | rfl <;> first | exact .inr (by omega) | exact .inl (by simp [WL])))
 clear hB1
 have hB1 := hB5
 clear hB5
 clear hB3
 have hB3 := hB6
 clear hB6
 refine WP.stl 1 ?_
 refine WP.dn ?_
 refine NX.then_n ?_
 refine CP.block ?_
 refine CP.seqR ?_
 refine WP.loadB (v := .pointer (some ⟨b2, 0, none⟩)) hB2 (by kernel_rfl) (by kernel_rfl) ?_
 replace hs := Option.bind_eq_some_iff.1 hs
 obtain ⟨x6, hk2, hs⟩ := hs
 have hcal2 := P.octet_Reader_Err g1 m1 d2 x4 a4 n4 c4 b2 hR4 hB1 (by omega) x6 hk2
 refine WP.callC hcal2 (by kernel_rfl) ?_
 rintro _ g2 st2 rfl
 replace hB4 := hB4.mono st2 (fun x => x)
 replace hB2 := hB2.mono st2 (fun x => x)
 replace hB1 := hB1.mono st2 (fun x => x)
 replace hR4 := hR4.mono st2 (fun x => x)
 replace hB3 := hB3.mono st2 (fun x => x)
 replace hR5 := hR5.mono st2 (fun x => x) (fun x => x)
 replace hR6 := hR6.mono st2 (fun x => x) (fun x => x)
 replace tot := tot.trans st2.pure
 refine WP.stl 2 ?_
 refine WP.dn ?_
 refine NX.then_n ?_
 refine CP.cond (b := (x6 != 0)) (by kernel_rfl) (fun h2 => ?_) (fun h2 => ?_)
 ·replace hs := of_if_t hs h2
  refine CP.region ?_
  refine WP.loadB (v := .pointer (some ⟨b2, 0, none⟩)) hB2 (by kernel_rfl) (by kernel_rfl) ?_
  replace hs := Option.bind_eq_some_iff.1 hs
  obtain ⟨x7, hk3, hs⟩ := hs
  have hcal3 := P.octet_Reader_Err g2 m1 d2 x4 a4 n4 c4 b2 hR4 hB1 (by omega) x7 hk3
  refine WP.callC hcal3 (by kernel_rfl) ?_
  rintro _ g3 st3 rfl
  replace hB4 := hB4.mono st3 (fun x => x)
  replace hB2 := hB2.mono st3 (fun x => x)
  replace hB1 := hB1.mono st3 (fun x => x)
  replace hR4 := hR4.mono st3 (fun x => x)
  replace hB3 := hB3.mono st3 (fun x => x)
  replace hR5 := hR5.mono st3 (fun x => x) (fun x => x)
  replace hR6 := hR6.mono st3 (fun x => x) (fun x => x)
  replace tot := tot.trans st3.pure
  refine WP.storeB (ty := 43) (off := 0) (v := .int .i64 x7) hB4 [[.int .i64 x7]] [1] (by kernel_rfl) (by kernel_rfl) rfl (by kernel_rfl) [[.int .i64 x7]] (by kernel_rfl) (.one rfl .nil) ?_
  intro g4 st4 hB7
  replace hB2 := hB2.mono st4 (WL.no1 (by omega))
  replace hB1 := hB1.mono st4 (WL.no1 (by omega))
  replace hR4 := hR4.mono st4 (WL.no1 (by omega))
  replace hB3 := hB3.mono st4 (WL.no1 (by omega))
  replace hR5 := hR5.mono st4 (WL.no1 (by omega)) (WL.no1 (by omega))
  replace hR6 := hR6.mono st4 (WL.no1 (by omega)) (WL.no1 (by omega))
  replace tot := tot.trans (st4.up1 (.inl (by simp [WL])))
  clear hB4
  have hB4 := hB7
  clear hB7
  refine WP.dn ?_
  refine NX.block_n ?_
  replace hs := Option.some.inj hs
  simp only [Prod.mk.injEq] at hs
  obtain ⟨rfl, rfl, rfl, rfl, rfl, rfl, rfl⟩ := hs
  exact NX.finE (v := .tuple #[]) (Res.still (by kernel_rfl)) tot htL ⟨a4, n4, c4, a5, n5, c5, a6, n6, c6, rfl, hR4, hB1, hR5, hR6, hB3, hB4⟩
 replace hs := of_if_f hs h2
 refine CP.seqR ?_
 refine WP.stl 3 ?_
 refine WP.dn ?_
 refine NX.then_n ?_
 refine CP.cond (b := (!q1)) (by kernel_rfl) (fun h3 => ?_) (fun h3 => ?_)
 ·replace hs := of_if_t hs h3
  refine CP.region ?_
  refine WP.storeB (ty := 43) (off := 0) (v := .int .i64 3) hB4 [[.int .i64 3]] [1] (by kernel_rfl) (by kernel_rfl) rfl (by kernel_rfl) [[.int .i64 3]] (by kernel_rfl) (.one rfl .nil) ?_
  intro g5 st5 hB8
  replace hB1 := hB1.mono st5 (WL.no1 (by omega))
  replace hR4 := hR4.mono st5 (WL.no1 (by omega))
  replace hB3 := hB3.mono st5 (WL.no1 (by omega))
  replace hR5 := hR5.mono st5 (WL.no1 (by omega)) (WL.no1 (by omega))
  replace hR6 := hR6.mono st5 (WL.no1 (by omega)) (WL.no1 (by omega))
  replace tot := tot.trans (st5.up1 (.inl (by simp [WL])))
  clear hB4
  have hB4 := hB8
  clear hB8
  refine WP.dn ?_
  refine NX.block_n ?_
  replace hs := Option.some.inj hs
  simp only [Prod.mk.injEq] at hs
  obtain ⟨rfl, rfl, rfl, rfl, rfl, rfl, rfl⟩ := hs
  exact NX.finE (v := .tuple #[]) (Res.still (by kernel_rfl)) tot htL ⟨a4, n4, c4, a5, n5, c5, a6, n6, c6, rfl, hR4, hB1, hR5, hR6, hB3, hB4⟩
 replace hs := of_if_f hs h3
 refine CP.skip ?_
 refine NX.block_n ?_
 replace hs := Option.some.inj hs
 simp only [Prod.mk.injEq] at hs
 obtain ⟨rfl, rfl, rfl, rfl, rfl, rfl, rfl⟩ := hs
 exact NX.finE (v := .tuple #[]) (Res.still (by kernel_rfl)) tot htL ⟨a4, n4, c4, a5, n5, c5, a6, n6, c6, rfl, hR4, hB1, hR5, hR6, hB3, hB4⟩
def F.state_Decode_4_2 (l1 : List Int) (x1 : Int) (d1 : Arr Int 8) (x2 : Int) (l2 : List Int) (l3 : List (List Int)) : Option (Bool × (List Int) × Int × (Arr Int 8) × Int × (List Int) × (List (List Int))) := ((F.octet_Reader_Bytes l1 x1 4096).bind fun (l4, d2, x3) => (some (true, d2, x3, d1, x2, l4, l3)))
theorem P.state_Decode_4_2 (g0 : GW) (m0 : Nat) (m1 : Nat) (m2 : Nat) (m3 : Nat) (m4 : Nat) (l1 : List Int) (x1 : Int) (d1 : Arr Int 8) (x2 : Int) (l2 : List Int) (l3 : List (List Int)) (a1 : Option Addr) (n1 : Nat) (c1 : Nat) (a2 : Option Addr) (n2 : Nat) (c2 : Nat) (a3 : Option Addr) (n3 : Nat) (c3 : Nat) (b1 : Nat) (b2 : Nat) (b3 : Nat) (hR1 : RdS (Kd.int .u8) g0 5 a1 n1 c1 l1) (hR2 : OwnS (Kd.int .u8) g0 m3 5 a2 n2 c2 l2) (hR3 : OwnS (Kd.slice 5 (Kd.int .u8)) g0 m4 24 a3 n3 c3 l3) (hB1 : Box g0 m1 b2 126 [[.slice a1 n1 c1], [.int .i64 x1]] [1, 1]) (hB2 : Box g0 m0 b1 101 [[.pointer (some ⟨b2, 0, none⟩)]] [1]) (hB3 : Box g0 m2 b3 61 [encA .u8 d1, [.int .i64 x2], [.slice a2 n2 c2], [.slice a3 n3 c3]] [8, 1, 1, 1]) (hm1_0 : m1 ≠ m0) (hm2_0 : m2 ≠ m0) (hm2_1 : m2 ≠ m1) (hm3_0 : m3 ≠ m0) (hm3_1 : m3 ≠ m1) (hm3_2 : m3 ≠ m2) (hm4_0 : m4 ≠ m0) (hm4_1 : m4 ≠ m1) (hm4_2 : m4 ≠ m2) (hm4_3 : m4 ≠ m3) (hm0 : m0 ≠ 0) (hm1 : m1 ≠ 0) (hm2 : m2 ≠ 0) (hm3 : m3 ≠ 0) (hm4 : m4 ≠ 0) (o1 : Bool) (o2 : (List Int)) (o3 : Int) (o4 : (Arr Int 8)) (o5 : Int) (o6 : (List Int)) (o7 : (List (List Int))) (hs : F.state_Decode_4_2 l1 x1 d1 x2 l2 l3 = some (o1, o2, o3, o4, o5, o6, o7)) :
  Calls Try.prog 56 #[.pointer (some ⟨b1, 0, none⟩), .pointer (some ⟨b3, 0, none⟩)] g0.w (Ret (WL [m1, m2, m3, m4]) g0 fun v g => ∃ (a_1 : Option Addr) (n_1 : Nat) (c_1 : Nat) (a_4 : Option Addr) (n_4 : Nat) (c_4 : Nat) (a_7 : Option Addr) (n_7 : Nat) (c_7 : Nat), v = .bool o1 ∧ RdS (Kd.int .u8) g 5 a_1 n_1 c_1 o2 ∧ Box g m1 b2 126 [[.slice a_1 n_1 c_1], [.int .i64 o3]] [1, 1] ∧ OwnS (Kd.int .u8) g m3 5 a_4 n_4 c_4 o6 ∧ OwnS (Kd.slice 5 (Kd.int .u8)) g m4 24 a_7 n_7 c_7 o7 ∧ Box g m2 b3 61 [encA .u8 o4, [.int .i64 o5], [.slice a_4 n_4 c_4], [.slice a_7 n_7 c_7]] [8, 1, 1, 1]) := by
 refine calls_of (args := [.pointer (some ⟨b1, 0, none⟩), .pointer (some ⟨b3, 0, none⟩)]) Try.func56 rfl (m0 + m1 + m2 + m3 + m4 + 0) ?_
 intro t ht htL
 refine ⟨_, rfl, ?_⟩
 refine CP.refr 7 [(0, .pointer (some ⟨b1, 0, none⟩)), (1, .pointer (some ⟨b3, 0, none⟩))] (by kernel_rfl) (by kernel_rfl) ?_
 intro ds
 have tot : Step (fun l => (WL [m1, m2, m3, m4]) l ∨ t ≤ l) g0 g0 := Step.refl _ _
 unfold F.state_Decode_4_2 at hs
 refine CP.seqR ?_
 refine WP.stl 1 ?_
 refine WP.dn ?_
 refine NX.then_n ?_
 refine CP.seqR ?_
 refine WP.loadB (v := .pointer (some ⟨b2, 0, none⟩)) hB2 (by kernel_rfl) (by kernel_rfl) ?_
 replace hs := Option.bind_eq_some_iff.1 hs
 obtain ⟨⟨l4, d2, x3⟩, hk1, hs⟩ := hs
 dsimp only at hs
 have hcal1 := P.octet_Reader_Bytes g0 m1 (t + 1) l1 x1 4096 a1 n1 c1 b2 hR1 hB1 (by omega) l4 d2 x3 hk1
 refine WP.callC hcal1 (by kernel_rfl) ?_
 rintro _ g1 st1 ⟨a4, n4, c4, a5, n5, c5, rfl, hR4, hR5, hB4⟩
 replace hB2 := hB2.mono st1 (WL.no1 (by omega))
 replace hB3 := hB3.mono st1 (WL.no1 (by omega))
 replace hR2 := hR2.mono st1 (WL.no1 (by omega)) (WL.no1 (by omega))
 replace hR3 := hR3.mono st1 (WL.no1 (by omega)) (WL.no1 (by omega))
 replace tot := tot.trans (st1.up1 (.inl (by simp [WL])))
 clear hB1
 have hB1 := hB4
 clear hB4
 refine WP.stl 2 ?_
 refine WP.storeB (ty := 24) (off := 9) (v := .slice a4 n4 c4) hB3 [[.slice a4 n4 c4]] [1] (by kernel_rfl) (by kernel_rfl) rfl (by kernel_rfl) [encA .u8 d1, [.int .i64 x2], [.slice a4 n4 c4], [.slice a3 n3 c3]] (by kernel_rfl) (.one rfl .nil) ?_
 intro g2 st2 hB5
 replace hB2 := hB2.mono st2 (WL.no1 (by omega))
 replace hB1 := hB1.mono st2 (WL.no1 (by omega))
 replace hR5 := hR5.mono st2 (WL.no1 (by omega))
 replace hR4 := hR4.mono st2 (WL.no1 (by omega)) (WL.no1 (by omega))
 replace hR3 := hR3.mono st2 (WL.no1 (by omega)) (WL.no1 (by omega))
 replace tot := tot.trans (st2.up1 (.inl (by simp [WL])))
 clear hB3
 have hB3 := hB5
 clear hB5
 refine WP.dn ?_
 refine NX.then_n ?_
 refine CP.seqR ?_
 refine WP.stl 1 ?_
 refine WP.dn ?_
 refine NX.then_n ?_
 refine CP.ret ?_
 obtain ⟨g3, hw1, st3, hnew⟩ := hR4.relab (by omega) m3
 refine NX.regw hw1 ?_
 replace hB1 := hB1.mono st3 (WL.no1 (by omega))
 replace hR5 := hR5.mono st3 (WL.no1 (by omega))
 replace hB3 := hB3.mono st3 (WL.no1 (by omega))
 replace hR3 := hR3.mono st3 (WL.no1 (by omega)) (WL.no1 (by omega))
 replace tot := tot.trans (st3.up1 (.inr (by omega)))
 clear hR4
 have hR4 := hnew
 clear hnew
 replace hs := Option.some.inj hs
 simp only [Prod.mk.injEq] at hs
 obtain ⟨rfl, rfl, rfl, rfl, rfl, rfl, rfl⟩ := hs
 exact NX.fin (v := .bool true) (Res.still (by kernel_rfl)) tot htL ⟨a5, n5, c5, a4, n4, c4, a3, n3, c3, rfl, hR5, hB1, hR4, hR3, hB3⟩
def F.state_Decode_1_6 (l1 : List Int) (x1 : Int) (d1 : Arr Int 8) (x2 : Int) (l2 : List Int) (l3 : List (List Int)) (x3 : Int) : Option ((List Int) × Int × (Arr Int 8) × Int × (List Int) × (List (List Int)) × Int) := (if (x3 != 0) = true then (some (l1, x1, d1, x2, l2, l3, x3)) else ((F.state_Decode_4_2 l1 x1 d1 x2 l2 l3).bind fun (q1, d2, x4, d3, x5, d4, d5) => ((F.octet_Reader_Err d2 x4).bind fun x6 => (if (x6 != 0) = true then ((F.octet_Reader_Err d2 x4).bind fun x7 => (some (d2, x4, d3, x5, d4, d5, x7))) else (if (!q1) = true then (some (d2, x4, d3, x5, d4, d5, 3)) else (some (d2, x4, d3, x5, d4, d5, x3)))))))
theorem P.state_Decode_1_6 (g0 : GW) (m0 : Nat) (m1 : Nat) (m2 : Nat) (m3 : Nat) (m4 : Nat) (m5 : Nat) (l1 : List Int) (x1 : Int) (d1 : Arr Int 8) (x2 : Int) (l2 : List Int) (l3 : List (List Int)) (x3 : Int) (a1 : Option Addr) (n1 : Nat) (c1 : Nat) (a2 : Option Addr) (n2 : Nat) (c2 : Nat) (a3 : Option Addr) (n3 : Nat) (c3 : Nat) (b1 : Nat) (b2 : Nat) (b3 : Nat) (b4 : Nat) (hR1 : RdS (Kd.int .u8) g0 5 a1 n1 c1 l1) (hR2 : OwnS (Kd.int .u8) g0 m3 5 a2 n2 c2 l2) (hR3 : OwnS (Kd.slice 5 (Kd.int .u8)) g0 m4 24 a3 n3 c3 l3) (hB1 : Box g0 m1 b2 126 [[.slice a1 n1 c1], [.int .i64 x1]] [1, 1]) (hB2 : Box g0 m0 b1 101 [[.pointer (some ⟨b2, 0, none⟩)]] [1]) (hB3 : Box g0 m2 b3 61 [encA .u8 d1, [.int .i64 x2], [.slice a2 n2 c2], [.slice a3 n3 c3]] [8, 1, 1, 1]) (hB4 : Box g0 m5 b4 43 [[.int .i64 x3]] [1]) (hm1_0 : m1 ≠ m0) (hm2_0 : m2 ≠ m0) (hm2_1 : m2 ≠ m1) (hm3_0 : m3 ≠ m0) (hm3_1 : m3 ≠ m1) (hm3_2 : m3 ≠ m2) (hm4_0 : m4 ≠ m0) (hm4_1 : m4 ≠ m1) (hm4_2 : m4 ≠ m2) (hm4_3 : m4 ≠ m3) (hm5_0 : m5 ≠ m0) (hm5_1 : m5 ≠ m1) (hm5_2 : m5 ≠ m2) (hm5_3 : m5 ≠ m3) (hm5_4 : m5 ≠ m4) (hm0 : m0 ≠ 0) (hm1 : m1 ≠ 0) (hm2 : m2 ≠ 0) (hm3 : m3 ≠ 0) (hm4 : m4 ≠ 0) (hm5 : m5 ≠ 0) (o1 : (List Int)) (o2 : Int) (o3 : (Arr Int 8)) (o4 : Int) (o5 : (List Int)) (o6 : (List (List Int))) (o7 : Int) (hs : F.state_Decode_1_6 l1 x1 d1 x2 l2 l3 x3 = some (o1, o2, o3, o4, o5, o6, o7)) :
  Calls Try.prog 50 #[.func (.func 56) #[] #[.pointer (some ⟨b1, 0, none⟩), .pointer (some ⟨b3, 0, none⟩)], .pointer (some ⟨b4, 0, none⟩), .pointer (some ⟨b1, 0, none⟩)] g0.w (Ret (WL [m1, m2, m5, m3, m4]) g0 fun v g => ∃ (a_1 : Option Addr) (n_1 : Nat) (c_1 : Nat) (a_4 : Option Addr) (n_4 : Nat) (c_4 : Nat) (a_7 : Option Addr) (n_7 : Nat) (c_7 : Nat), v = .tuple #[] ∧ RdS (Kd.int .u8) g 5 a_1 n_1 c_1 o1 ∧ Box g m1 b2 126 [[.slice a_1 n_1 c_1], [.int .i64 o2]] [1, 1] ∧ OwnS (Kd.int .u8) g m3 5 a_4 n_4 c_4 o5 ∧ OwnS (Kd.slice 5 (Kd.int .u8)) g m4 24 a_7 n_7 c_7 o6 ∧ Box g m2 b3 61 [encA .u8 o3, [.int .i64 o4], [.slice a_4 n_4 c_4], [.slice a_7 n_7 c_7]] [8, 1, 1, 1] ∧ Box g m5 b4 43 [[.int .i64 o7]] [1]) := by
 refine calls_of (args := [.func (.func 56) #[] #[.pointer (some ⟨b1, 0, none⟩), .pointer (some ⟨b3, 0, none⟩)], .pointer (some ⟨b4, 0, none⟩), .pointer (some ⟨b1, 0, none⟩)]) Try.func50 rfl (m0 + m1 + m2 + m3 + m4 + m5 + 0) ?_
 intro t ht htL
 refine ⟨_, rfl, ?_⟩
 refine CP.refr 18 [(0, .func (.func 56) #[] #[.pointer (some ⟨b1, 0, none⟩), .pointer (some ⟨b3, 0, none⟩)]), (1, .pointer (some ⟨b4, 0, none⟩)), (2, .pointer (some ⟨b1, 0, none⟩))] (by kernel_rfl) (by kernel_rfl) ?_
 intro ds
 have tot : Step (fun l => (WL [m1, m2, m5, m3, m4]) l ∨ t ≤ l) g0 g0 := Step.refl _ _
 unfold F.state_Decode_1_6 at hs
 refine CP.seq ?_
 refine CP.seqR ?_
 refine WP.loadB (v := .int .i64 x3) hB4 (by kernel_rfl) (by kernel_rfl) ?_
 refine WP.stl 1 ?_
 refine WP.dn ?_
 refine NX.then_n ?_
 refine CP.cond (b := (x3 != 0)) (by kernel_rfl) (fun h1 => ?_) (fun h1 => ?_)
 ·replace hs := of_if_t hs h1
  refine CP.ret ?_
  refine NX.then_r ?_
  replace hs := Option.some.inj hs
  simp only [Prod.mk.injEq] at hs
  obtain ⟨rfl, rfl, rfl, rfl, rfl, rfl, rfl⟩ := hs
  exact NX.fin (v := .tuple #[]) (Res.still (by kernel_rfl)) tot htL ⟨a1, n1, c1, a2, n2, c2, a3, n3, c3, rfl, hR1, hB1, hR2, hR3, hB3, hB4⟩
 replace hs := of_if_f hs h1
 refine CP.skip ?_
 refine NX.then_n ?_
 refine CP.seqR ?_
 refine WP.stl 1 ?_
 replace hs := Option.bind_eq_some_iff.1 hs
 obtain ⟨⟨q1, d2, x4, d3, x5, d4, d5⟩, hk1, hs⟩ := hs
 dsimp only at hs
 have hcal1 := P.state_Decode_4_2 g0 m0 m1 m2 m3 m4 l1 x1 d1 x2 l2 l3 a1 n1 c1 a2 n2 c2 a3 n3 c3 b1 b2 b3 hR1 hR2 hR3 hB1 hB2 hB3 (by omega) (by omega) (by omega) (by omega) (by omega) (by omega) (by omega) (by omega) (by omega) (by omega) (by omega) (by omega) (by omega) (by omega) (by omega) q1 d2 x4 d3 x5 d4 d5 hk1
 refine WP.callC hcal1 (by kernel_rfl) ?_
 rintro _ g1 st1 ⟨a4, n4, c4, a5, n5, c5, a6, n6, c6, rfl, hR4, hB5, hR5, hR6, hB6⟩
 replace hB2 := hB2.mono st1 (WL.no (by simp <;> omega))
 replace hB4 := hB4.mono st1 (WL.no (by simp <;> omega))
 replace tot := tot.trans (st1.up (by intro l hl; simp at hl; rcases hl with rfl | rfl | rfl | rfl <;> first | exact .inr (by omega) | exact .inl (by simp [WL])))
 clear hB1
 have hB1 := hB5
 clear hB5
 clear hB3
 have hB3 := hB6
 clear hB6
 refine WP.stl 1 ?_
 refine WP.dn ?_
 refine NX.then_n ?_
 refine CP.block ?_
 refine CP.seqR ?_
 refine WP.loadB (v := .pointer (some ⟨b2, 0, none⟩)) hB2 (by kernel_rfl) (by kernel_rfl) ?_
 replace hs := Option.bind_eq_some_iff.1 hs
 obtain ⟨x6, hk2, hs⟩ := hs
 have hcal2 := P.octet_Reader_Err g1 m1 d2 x4 a4 n4 c4 b2 hR4 hB1 (by omega) x6 hk2
 refine WP.callC hcal2 (by kernel_rfl) ?_
 rintro _ g2 st2 rfl
 replace hB4 := hB4.mono st2 (fun x => x)
 replace hB2 := hB2.mono st2 (fun x => x)
 replace hB1 := hB1.mono st2 (fun x => x)
 replace hR4 := hR4.mono st2 (fun x => x)
 replace hB3 := hB3.mono st2 (fun x => x)
 replace hR5 := hR5.mono st2 (fun x => x) (fun x => x)
 replace hR6 := hR6.mono st2 (fun x => x) (fun x => x)
 replace tot := tot.trans st2.pure
 refine WP.stl 2 ?_
 refine WP.dn ?_
 refine NX.then_n ?_
 refine CP.cond (b := (x6 != 0)) (by kernel_rfl) (fun h2 => ?_) (fun h2 => ?_)
 ·replace hs := of_if_t hs h2
  refine CP.region ?_
  refine WP.loadB (v := .pointer (some ⟨b2, 0, none⟩)) hB2 (by kernel_rfl) (by kernel_rfl) ?_
  replace hs := Option.bind_eq_some_iff.1 hs
  obtain ⟨x7, hk3, hs⟩ := hs
  have hcal3 := P.octet_Reader_Err g2 m1 d2 x4 a4 n4 c4 b2 hR4 hB1 (by omega) x7 hk3
  refine WP.callC hcal3 (by kernel_rfl) ?_
  rintro _ g3 st3 rfl
  replace hB4 := hB4.mono st3 (fun x => x)
  replace hB2 := hB2.mono st3 (fun x => x)
  replace hB1 := hB1.mono st3 (fun x => x)
  replace hR4 := hR4.mono st3 (fun x => x)
  replace hB3 := hB3.mono st3 (fun x => x)
  replace hR5 := hR5.mono st3 (fun x => x) (fun x => x)
  replace hR6 := hR6.mono st3 (fun x => x) (fun x => x)
  replace tot := tot.trans st3.pure
  refine WP.storeB (ty := 43) (off := 0) (v := .int .i64 x7) hB4 [[.int .i64 x7]] [1] (by kernel_rfl) (by kernel_rfl) rfl (by kernel_rfl) [[.int .i64 x7]] (by kernel_rfl) (.one rfl .nil) ?_
  intro g4 st4 hB7
  replace hB2 := hB2.mono st4 (WL.no1 (by omega))
  replace hB1 := hB1.mono st4 (WL.no1 (by omega))
  replace hR4 := hR4.mono st4 (WL.no1 (by omega))
  replace hB3 := hB3.mono st4 (WL.no1 (by omega))
  replace hR5 := hR5.mono st4 (WL.no1 (by omega)) (WL.no1 (by omega))
  replace hR6 := hR6.mono st4 (WL.no1 (by omega)) (WL.no1 (by omega))
  replace tot := tot.trans (st4.up1 (.inl (by simp [WL])))
  clear hB4
  have hB4 := hB7
  clear hB7
  refine WP.dn ?_
  refine NX.block_n ?_
  replace hs := Option.some.inj hs
  simp only [Prod.mk.injEq] at hs
  obtain ⟨rfl, rfl, rfl, rfl, rfl, rfl, rfl⟩ := hs
  exact NX.finE (v := .tuple #[]) (Res.still (by kernel_rfl)) tot htL ⟨a4, n4, c4, a5, n5, c5, a6, n6, c6, rfl, hR4, hB1, hR5, hR6, hB3, hB4⟩
 replace hs := of_if_f hs h2
 refine CP.seqR ?_
 refine WP.stl 3 ?_
 refine WP.dn ?_
 refine NX.then_n ?_
 refine CP.cond (b := (!q1)) (by kernel_rfl) (fun h3 => ?_) (fun h3 => ?_)
 ·replace hs := of_if_t hs h3
  refine CP.region ?_
  refine WP.storeB (ty := 43) (off := 0) (v := .int .i64 3) hB4 [[.int .i64 3]] [1] (by kernel_rfl) (by kernel_rfl) rfl (by kernel_rfl) [[.int .i64 3]] (by kernel_rfl) (.one rfl .nil) ?_
  intro g5 st5 hB8
  replace hB1 := hB1.mono st5 (WL.no1 (by omega))
  replace hR4 := hR4.mono st5 (WL.no1 (by omega))
  replace hB3 := hB3.mono st5 (WL.no1 (by omega))
  replace hR5 := hR5.mono st5 (WL.no1 (by omega)) (WL.no1 (by omega))
  replace hR6 := hR6.mono st5 (WL.no1 (by omega)) (WL.no1 (by omega))
  replace tot := tot.trans (st5.up1 (.inl (by simp [WL])))
  clear hB4
  have hB4 := hB8
  clear hB8
  refine WP.dn ?_
  refine NX.block_n ?_
  replace hs := Option.some.inj hs
  simp only [Prod.mk.injEq] at hs
  obtain ⟨rfl, rfl, rfl, rfl, rfl, rfl, rfl⟩ := hs
  exact NX.finE (v := .tuple #[]) (Res.still (by kernel_rfl)) tot htL ⟨a4, n4, c4, a5, n5, c5, a6, n6, c6, rfl, hR4, hB1, hR5, hR6, hB3, hB4⟩
 replace hs := of_if_f hs h3
 refine CP.skip ?_
 refine NX.block_n ?_
 replace hs := Option.some.inj hs
 simp only [Prod.mk.injEq] at hs
 obtain ⟨rfl, rfl, rfl, rfl, rfl, rfl, rfl⟩ := hs
 exact NX.finE (v := .tuple #[]) (Res.still (by kernel_rfl)) tot htL ⟨a4, n4, c4, a5, n5, c5, a6, n6, c6, rfl, hR4, hB1, hR5, hR6, hB3, hB4⟩
def F.state_Decode_5 (l1 : List Int) (x1 : Int) (x2 : Int) : Option (Bool × (List Int) × Int × Int) := ((F.octet_Reader_Num l1 x1 8).bind fun (x3, d1, x4) => (some (decide ((IntKind.i64.wrap x3) ≥ 2), d1, x4, (IntKind.i64.wrap x3))))
theorem P.state_Decode_5 (g0 : GW) (m0 : Nat) (m1 : Nat) (m2 : Nat) (l1 : List Int) (x1 : Int) (x2 : Int) (a1 : Option Addr) (n1 : Nat) (c1 : Nat) (b1 : Nat) (b2 : Nat) (b3 : Nat) (hR1 : RdS (Kd.int .u8) g0 5 a1 n1 c1 l1) (hB1 : Box g0 m1 b2 126 [[.slice a1 n1 c1], [.int .i64 x1]] [1, 1]) (hB2 : Box g0 m0 b1 101 [[.pointer (some ⟨b2, 0, none⟩)]] [1]) (hB3 : Box g0 m2 b3 3 [[.int .i64 x2]] [1]) (hm1_0 : m1 ≠ m0) (hm2_0 : m2 ≠ m0) (hm2_1 : m2 ≠ m1) (hm0 : m0 ≠ 0) (hm1 : m1 ≠ 0) (hm2 : m2 ≠ 0) (o1 : Bool) (o2 : (List Int)) (o3 : Int) (o4 : Int) (hs : F.state_Decode_5 l1 x1 x2 = some (o1, o2, o3, o4)) :
  Calls Try.prog 57 #[.pointer (some ⟨b1, 0, none⟩), .pointer (some ⟨b3, 0, none⟩)] g0.w (Ret (WL [m1, m2]) g0 fun v g => ∃ (a_1 : Option Addr) (n_1 : Nat) (c_1 : Nat), v = .bool o1 ∧ RdS (Kd.int .u8) g 5 a_1 n_1 c_1 o2 ∧ Box g m1 b2 126 [[.slice a_1 n_1 c_1], [.int .i64 o3]] [1, 1] ∧ Box g m2 b3 3 [[.int .i64 o4]] [1]) := by
 refine calls_of (args := [.pointer (some ⟨b1, 0, none⟩), .pointer (some ⟨b3, 0, none⟩)]) Try.func57 rfl (m0 + m1 + m2 + 0) ?_
 intro t ht htL
 refine ⟨_, rfl, ?_⟩
 refine CP.refr 8 [(0, .pointer (some ⟨b1, 0, none⟩)), (1, .pointer (some ⟨b3, 0, none⟩))] (by kernel_rfl) (by kernel_rfl) ?_
 intro ds
 have tot : Step (fun l => (WL [m1, m2]) l ∨ t ≤ l) g0 g0 := Step.refl _ _
 unfold F.state_Decode_5 at hs
 refine CP.seqR ?_
 refine WP.stl 1 ?_
 refine WP.dn ?_
 refine NX.then_n ?_
 refine CP.seqR ?_
 refine WP.loadB (v := .pointer (some ⟨b2, 0, none⟩)) hB2 (by kernel_rfl) (by kernel_rfl) ?_
 replace hs := Option.bind_eq_some_iff.1 hs
 obtain ⟨⟨x3, d1, x4⟩, hk1, hs⟩ := hs
 dsimp only at hs
 have hcal1 := P.octet_Reader_Num g0 m1 l1 x1 8 a1 n1 c1 b2 hR1 hB1 (by omega) x3 d1 x4 hk1
 refine WP.callC hcal1 (by kernel_rfl) ?_
 rintro _ g1 st1 ⟨a2, n2, c2, rfl, hR2, hB4⟩
 replace hB2 := hB2.mono st1 (WL.no1 (by omega))
 replace hB3 := hB3.mono st1 (WL.no1 (by omega))
 replace tot := tot.trans (st1.up1 (.inl (by simp [WL])))
 clear hB1
 have hB1 := hB4
 clear hB4
 refine WP.stl 1 ?_
 refine WP.storeB (ty := 3) (off := 0) (v := .int .i64 (IntKind.i64.wrap x3)) hB3 [[.int .i64 (IntKind.i64.wrap x3)]] [1] (by kernel_rfl) (by kernel_rfl) rfl (by kernel_rfl) [[.int .i64 (IntKind.i64.wrap x3)]] (by kernel_rfl) (.one rfl .nil) ?_
 intro g2 st2 hB5
 replace hB2 := hB2.mono st2 (WL.no1 (by omega))
 replace hB1 := hB1.mono st2 (WL.no1 (by omega))
 replace hR2 := hR2.mono st2 (WL.no1 (by omega))
 replace tot := tot.trans (st2.up1 (.inl (by simp [WL])))
 clear hB3
 have hB3 := hB5
 clear hB5
 refine WP.dn ?_
 refine NX.then_n ?_
 refine CP.seqR ?_
 refine WP.loadB (v := .int .i64 (IntKind.i64.wrap x3)) hB3 (by kernel_rfl) (by kernel_rfl) ?_
 refine WP.stl 2 ?_
 refine WP.dn ?_
 refine NX.then_n ?_
 refine CP.ret ?_
 replace hs := Option.some.inj hs
 simp only [Prod.mk.injEq] at hs
 obtain ⟨rfl, rfl, rfl, rfl⟩ := hs
 exact NX.fin (v := .bool (decide ((IntKind.i64.wrap x3) ≥ 2))) (Res.still (by kernel_rfl)) tot htL ⟨a2, n2, c2, rfl, hR2, hB1, hB3⟩
def F.state_Decode_1_7 (l1 : List Int) (x1 : Int) (x2 : Int) (x3 : Int) : Option ((List Int) × Int × Int × Int) := (if (x3 != 0) = true then (some (l1, x1, x2, x3)) else ((F.state_Decode_5 l1 x1 x2).bind fun (q1, d1, x4, x5) => ((F.octet_Reader_Err d1 x4).bind fun x6 => (if (x6 != 0) = true then ((F.octet_Reader_Err d1 x4).bind fun x7 => (some (d1, x4, x5, x7))) else (if (!q1) = true then (some (d1, x4, x5, 3)) else (some (d1, x4, x5, x3)))))))
theorem P.state_Decode_1_7 (g0 : GW) (m0 : Nat) (m1 : Nat) (m2 : Nat) (m3 : Nat) (l1 : List Int) (x1 : Int) (x2 : Int) (x3 : Int) (a1 : Option Addr) (n1 : Nat) (c1 : Nat) (b1 : Nat) (b2 : Nat) (b3 : Nat) (b4 : Nat) (hR1 : RdS (Kd.int .u8) g0 5 a1 n1 c1 l1) (hB1 : Box g0 m1 b2 126 [[.slice a1 n1 c1], [.int .i64 x1]] [1, 1]) (hB2 : Box g0 m0 b1 101 [[.pointer (some ⟨b2, 0, none⟩)]] [1]) (hB3 : Box g0 m2 b3 3 [[.int .i64 x2]] [1]) (hB4 : Box g0 m3 b4 43 [[.int .i64 x3]] [1]) (hm1_0 : m1 ≠ m0) (hm2_0 : m2 ≠ m0) (hm2_1 : m2 ≠ m1) (hm3_0 : m3 ≠ m0) (hm3_1 : m3 ≠ m1) (hm3_2 : m3 ≠ m2) (hm0 : m0 ≠ 0) (hm1 : m1 ≠ 0) (hm2 : m2 ≠ 0) (hm3 : m3 ≠ 0) (o1 : (List Int)) (o2 : Int) (o3 : Int) (o4 : Int) (hs : F.state_Decode_1_7 l1 x1 x2 x3 = some (o1, o2, o3, o4)) :
  Calls Try.prog 50 #[.func (.func 57) #[] #[.pointer (some ⟨b1, 0, none⟩), .pointer (some ⟨b3, 0, none⟩)], .pointer (some ⟨b4, 0, none⟩), .pointer (some ⟨b1, 0, none⟩)] g0.w (Ret (WL [m1, m2, m3]) g0 fun v g => ∃ (a_1 : Option Addr) (n_1 : Nat) (c_1 : Nat), v = .tuple #[] ∧ RdS (Kd.int .u8) g 5 a_1 n_1 c_1 o1 ∧ Box g m1 b2 126 [[.slice a_1 n_1 c_1], [.int .i64 o2]] [1, 1] ∧ Box g m2 b3 3 [[.int .i64 o3]] [1] ∧ Box g m3 b4 43 [[.int .i64 o4]] [1]) := by
 refine calls_of (args := [.func (.func 57) #[] #[.pointer (some ⟨b1, 0, none⟩), .pointer (some ⟨b3, 0, none⟩)], .pointer (some ⟨b4, 0, none⟩), .pointer (some ⟨b1, 0, none⟩)]) Try.func50 rfl (m0 + m1 + m2 + m3 + 0) ?_
 intro t ht htL
 refine ⟨_, rfl, ?_⟩
 refine CP.refr 18 [(0, .func (.func 57) #[] #[.pointer (some ⟨b1, 0, none⟩), .pointer (some ⟨b3, 0, none⟩)]), (1, .pointer (some ⟨b4, 0, none⟩)), (2, .pointer (some ⟨b1, 0, none⟩))] (by kernel_rfl) (by kernel_rfl) ?_
 intro ds
 have tot : Step (fun l => (WL [m1, m2, m3]) l ∨ t ≤ l) g0 g0 := Step.refl _ _
 unfold F.state_Decode_1_7 at hs
 refine CP.seq ?_
 refine CP.seqR ?_
 refine WP.loadB (v := .int .i64 x3) hB4 (by kernel_rfl) (by kernel_rfl) ?_
 refine WP.stl 1 ?_
 refine WP.dn ?_
 refine NX.then_n ?_
 refine CP.cond (b := (x3 != 0)) (by kernel_rfl) (fun h1 => ?_) (fun h1 => ?_)
 ·replace hs := of_if_t hs h1
  refine CP.ret ?_
  refine NX.then_r ?_
  replace hs := Option.some.inj hs
  simp only [Prod.mk.injEq] at hs
  obtain ⟨rfl, rfl, rfl, rfl⟩ := hs
  exact NX.fin (v := .tuple #[]) (Res.still (by kernel_rfl)) tot htL ⟨a1, n1, c1, rfl, hR1, hB1, hB3, hB4⟩
 replace hs := of_if_f hs h1
 refine CP.skip ?_
 refine NX.then_n ?_
 refine CP.seqR ?_
 refine WP.stl 1 ?_
 replace hs := Option.bind_eq_some_iff.1 hs
 obtain ⟨⟨q1, d1, x4, x5⟩, hk1, hs⟩ := hs
 dsimp only at hs
 have hcal1 := P.state_Decode_5 g0 m0 m1 m2 l1 x1 x2 a1 n1 c1 b1 b2 b3 hR1 hB1 hB2 hB3 (by omega) (by omega) (by omega) (by omega) (by omega) (by omega) q1 d1 x4 x5 hk1
 refine WP.callC hcal1 (by kernel_rfl) ?_
 rintro _ g1 st1 ⟨a2, n2, c2, rfl, hR2, hB5, hB6⟩
 replace hB2 := hB2.mono st1 (WL.no2 (by omega) (by omega))
 replace hB4 := hB4.mono st1 (WL.no2 (by omega) (by omega))
 replace tot := tot.trans (st1.up2 (.inl (by simp [WL])) (.inl (by simp [WL])))
 clear hB1
 have hB1 := hB5
 clear hB5
 clear hB3
 have hB3 := hB6
 clear hB6
 refine WP.stl 1 ?_
 refine WP.dn ?_
 refine NX.then_n ?_
 refine CP.block ?_
 refine CP.seqR ?_
 refine WP.loadB (v := .pointer (some ⟨b2, 0, none⟩)) hB2 (by kernel_rfl) (by kernel_rfl) ?_
 replace hs := Option.bind_eq_some_iff.1 hs
 obtain ⟨x6, hk2, hs⟩ := hs
 have hcal2 := P.octet_Reader_Err g1 m1 d1 x4 a2 n2 c2 b2 hR2 hB1 (by omega) x6 hk2
 refine WP.callC hcal2 (by kernel_rfl) ?_
 rintro _ g2 st2 rfl
 replace hB4 := hB4.mono st2 (fun x => x)
 replace hB2 := hB2.mono st2 (fun x => x)
 replace hB1 := hB1.mono st2 (fun x => x)
 replace hR2 := hR2.mono st2 (fun x => x)
 replace hB3 := hB3.mono st2 (fun x => x)
 replace tot := tot.trans st2.pure
 refine WP.stl 2 ?_
 refine WP.dn ?_
 refine NX.then_n ?_
 refine CP.cond (b := (x6 != 0)) (by kernel_rfl) (fun h2 => ?_) (fun h2 => ?_)
 ·replace hs := of_if_t hs h2
  refine CP.region ?_
  refine WP.loadB (v := .pointer (some ⟨b2, 0, none⟩)) hB2 (by kernel_rfl) (by kernel_rfl) ?_
  replace hs := Option.bind_eq_some_iff.1 hs
  obtain ⟨x7, hk3, hs⟩ := hs
  have hcal3 := P.octet_Reader_Err g2 m1 d1 x4 a2 n2 c2 b2 hR2 hB1 (by omega) x7 hk3
  refine WP.callC hcal3 (by kernel_rfl) ?_
  rintro _ g3 st3 rfl
  replace hB4 := hB4.mono st3 (fun x => x)
  replace hB2 := hB2.mono st3 (fun x => x)
  replace hB1 := hB1.mono st3 (fun x => x)
  replace hR2 := hR2.mono st3 (fun x => x)
  replace hB3 := hB3.mono st3 (fun x => x)
  replace tot := tot.trans st3.pure
  refine WP.storeB (ty := 43) (off := 0) (v := .int .i64 x7) hB4 [[.int .i64 x7]] [1] (by kernel_rfl) (by kernel_rfl) rfl (by kernel_rfl) [[.int .i64 x7]] (by kernel_rfl) (.one rfl .nil) ?_
  intro g4 st4 hB7
  replace hB2 := hB2.mono st4 (WL.no1 (by omega))
  replace hB1 := hB1.mono st4 (WL.no1 (by omega))
  replace hR2 := hR2.mono st4 (WL.no1 (by omega))
  replace hB3 := hB3.mono st4 (WL.no1 (by omega))
  replace tot := tot.trans (st4.up1 (.inl (by simp [WL])))
  clear hB4
  have hB4 := hB7
  clear hB7
  refine WP.dn ?_
  refine NX.block_n ?_
  replace hs := Option.some.inj hs
  simp only [Prod.mk.injEq] at hs
  obtain ⟨rfl, rfl, rfl, rfl⟩ := hs
  exact NX.finE (v := .tuple #[]) (Res.still (by kernel_rfl)) tot htL ⟨a2, n2, c2, rfl, hR2, hB1, hB3, hB4⟩
 replace hs := of_if_f hs h2
 refine CP.seqR ?_
 refine WP.stl 3 ?_
 refine WP.dn ?_
 refine NX.then_n ?_
 refine CP.cond (b := (!q1)) (by kernel_rfl) (fun h3 => ?_) (fun h3 => ?_)
 ·replace hs := of_if_t hs h3
  refine CP.region ?_
  refine WP.storeB (ty := 43) (off := 0) (v := .int .i64 3) hB4 [[.int .i64 3]] [1] (by kernel_rfl) (by kernel_rfl) rfl (by kernel_rfl) [[.int .i64 3]] (by kernel_rfl) (.one rfl .nil) ?_
  intro g5 st5 hB8
  replace hB1 := hB1.mono st5 (WL.no1 (by omega))
  replace hR2 := hR2.mono st5 (WL.no1 (by omega))
  replace hB3 := hB3.mono st5 (WL.no1 (by omega))
  replace tot := tot.trans (st5.up1 (.inl (by simp [WL])))
  clear hB4
  have hB4 := hB8
  clear hB8
  refine WP.dn ?_
  refine NX.block_n ?_
  replace hs := Option.some.inj hs
  simp only [Prod.mk.injEq] at hs
  obtain ⟨rfl, rfl, rfl, rfl⟩ := hs
  exact NX.finE (v := .tuple #[]) (Res.still (by kernel_rfl)) tot htL ⟨a2, n2, c2, rfl, hR2, hB1, hB3, hB4⟩
 replace hs := of_if_f hs h3
 refine CP.skip ?_
 refine NX.block_n ?_
 replace hs := Option.some.inj hs
 simp only [Prod.mk.injEq] at hs
 obtain ⟨rfl, rfl, rfl, rfl⟩ := hs
 exact NX.finE (v := .tuple #[]) (Res.still (by kernel_rfl)) tot htL ⟨a2, n2, c2, rfl, hR2, hB1, hB3, hB4⟩
def N.state_Decode_6_2_0 : List (List Nat) := [[], [0], [], [2], [2, 3], [0, 1, 2, 3, 4], [0, 1, 2, 3, 4, 5], [0, 1, 2, 3, 4, 5, 6]]
def F.state_Decode_6_2 (d1 : Arr Int 8) (x1 : Int) (l1 : List Int) (l2 : List (List Int)) (l3 : List Int) (x2 : Int) : Option (Bool × (Arr Int 8) × Int × (List Int) × (List (List Int)) × (List Int) × Int) := ((F.octet_Reader_Bytes l3 x2 4096).bind fun (l4, d2, x3) => (if l2.length + ([l4]).length ≤ 5864062014805 then (some (true, d1, x1, l1, (l2 ++ [l4]), d2, x3)) else none))
theorem P.state_Decode_6_2 (g0 : GW) (m0 : Nat) (m1 : Nat) (m2 : Nat) (m3 : Nat) (m4 : Nat) (d1 : Arr Int 8) (x1 : Int) (l1 : List Int) (l2 : List (List Int)) (l3 : List Int) (x2 : Int) (a1 : Option Addr) (n1 : Nat) (c1 : Nat) (a2 : Option Addr) (n2 : Nat) (c2 : Nat) (a3 : Option Addr) (n3 : Nat) (c3 : Nat) (b1 : Nat) (b2 : Nat) (b3 : Nat) (hR1 : OwnS (Kd.int .u8) g0 m1 5 a1 n1 c1 l1) (hR2 : OwnS (Kd.slice 5 (Kd.int .u8)) g0 m2 24 a2 n2 c2 l2) (hR3 : RdS (Kd.int .u8) g0 5 a3 n3 c3 l3) (hB1 : Box g0 m0 b1 61 [encA .u8 d1, [.int .i64 x1], [.slice a1 n1 c1], [.slice a2 n2 c2]] [8, 1, 1, 1]) (hB2 : Box g0 m4 b3 126 [[.slice a3 n3 c3], [.int .i64 x2]] [1, 1]) (hB3 : Box g0 m3 b2 101 [[.pointer (some ⟨b3, 0, none⟩)]] [1]) (hm1_0 : m1 ≠ m0) (hm2_0 : m2 ≠ m0) (hm2_1 : m2 ≠ m1) (hm3_0 : m3 ≠ m0) (hm3_1 : m3 ≠ m1) (hm3_2 : m3 ≠ m2) (hm4_0 : m4 ≠ m0) (hm4_1 : m4 ≠ m1) (hm4_2 : m4 ≠ m2) (hm4_3 : m4 ≠ m3) (hm0 : m0 ≠ 0) (hm1 : m1 ≠ 0) (hm2 : m2 ≠ 0) (hm3 : m3 ≠ 0) (hm4 : m4 ≠ 0) (o1 : Bool) (o2 : (Arr Int 8)) (o3 : Int) (o4 : (List Int)) (o5 : (List (List Int))) (o6 : (List Int)) (o7 : Int) (hs : F.state_Decode_6_2 d1 x1 l1 l2 l3 x2 = some (o1, o2, o3, o4, o5, o6, o7)) :
  Calls Try.prog 58 #[.pointer (some ⟨b1, 0, none⟩), .pointer (some ⟨b2, 0, none⟩)] g0.w (Ret (WL [m0, m4, m1, m2]) g0 fun v g => ∃ (a_1 : Option Addr) (n_1 : Nat) (c_1 : Nat) (a_4 : Option Addr) (n_4 : Nat) (c_4 : Nat) (a_7 : Option Addr) (n_7 : Nat) (c_7 : Nat), v = .bool o1 ∧ OwnS (Kd.int .u8) g m1 5 a_1 n_1 c_1 o4 ∧ OwnS (Kd.slice 5 (Kd.int .u8)) g m2 24 a_4 n_4 c_4 o5 ∧ Box g m0 b1 61 [encA .u8 o2, [.int .i64 o3], [.slice a_1 n_1 c_1], [.slice a_4 n_4 c_4]] [8, 1, 1, 1] ∧ RdS (Kd.int .u8) g 5 a_7 n_7 c_7 o6 ∧ Box g m4 b3 126 [[.slice a_7 n_7 c_7], [.int .i64 o7]] [1, 1]) := by
 refine calls_of (args := [.pointer (some ⟨b1, 0, none⟩), .pointer (some ⟨b2, 0, none⟩)]) Try.func58 rfl (m0 + m1 + m2 + m3 + m4 + 0) ?_
 intro t ht htL
 refine ⟨_, rfl, ?_⟩
 refine CP.refr 10 [(0, .pointer (some ⟨b1, 0, none⟩)), (1, .pointer (some ⟨b2, 0, none⟩))] (by kernel_rfl) (by kernel_rfl) ?_
 intro ds
 have tot : Step (fun l => (WL [m0, m4, m1, m2]) l ∨ t ≤ l) g0 g0 := Step.refl _ _
 unfold F.state_Decode_6_2 at hs
 refine CP.seqR ?_
 refine WP.stl 1 ?_
 refine WP.dn ?_
 refine NX.then_n ?_
 refine CP.seq ?_
 replace hs := Option.bind_eq_some_iff.1 hs
 obtain ⟨⟨l4, d2, x3⟩, hk1, hs⟩ := hs
 dsimp only at hs
 by_cases hc1 : l2.length + ([l4]).length ≤ 5864062014805
 case neg => rw [if_neg hc1] at hs; cases hs
 replace hs := of_if_p hs hc1
 refine CP.drawL (by kernel_rfl) [1, 2, 3, 4, 5, 7] N.state_Decode_6_2_0 [⟨none, [3], [], fun l g => Box g m0 b1 61 [encA .u8 d1, [.int .i64 x1], [.slice a1 n1 c1], [.slice a2 n2 c2]] [8, 1, 1, 1]⟩, ⟨none, [2], [], fun l g => OwnS (Kd.slice 5 (Kd.int .u8)) g m2 24 a2 n2 c2 l2⟩, ⟨none, [], [], fun l g => Box g m3 b2 101 [[.pointer (some ⟨b3, 0, none⟩)]] [1]⟩, ⟨none, [0], [], fun l g => Box g m4 b3 126 [[.slice a3 n3 c3], [.int .i64 x2]] [1, 1]⟩, ⟨none, [], [], fun l g => RdS (Kd.int .u8) g 5 a3 n3 c3 l3⟩, ⟨some 0, [], [0], fun l g => l.getD 0 undef = .slice a2 n2 c2⟩, ⟨some 1, [], [1], fun l g => l.getD 0 undef = .pointer (some ⟨b3, 0, none⟩)⟩, ⟨some 2, [0, 1], [2], fun l g => ∃ (a4 : Option Addr) (c4 : Nat) (a5 : Option Addr) (c5 : Nat), l.getD 0 undef = .slice a4 l4.length c4 ∧ OwnS (Kd.int .u8) g (t + 1) 5 a4 l4.length c4 l4 ∧ RdS (Kd.int .u8) g 5 a5 d2.length c5 d2 ∧ Box g m4 b3 126 [[.slice a5 d2.length c5], [.int .i64 x3]] [1, 1]⟩, ⟨some 3, [], [3], fun l g => ∃ (a6 : Option Addr), l.getD 0 undef = .slice a6 1 1 ∧ OwnS (Kd.slice 5 (Kd.int .u8)) g (t + 2) 24 a6 1 1 ([l4])⟩, ⟨some 3, [0], [2], fun l g => ∃ (a4 : Option Addr) (c4 : Nat) (a5 : Option Addr) (c5 : Nat), l.getD 0 undef = .slice a4 l4.length c4 ∧ RdS (Kd.int .u8) g 5 a4 l4.length c4 l4 ∧ RdS (Kd.int .u8) g 5 a5 d2.length c5 d2 ∧ Box g m4 b3 126 [[.slice a5 d2.length c5], [.int .i64 x3]] [1, 1]⟩, ⟨some 4, [2], [4], fun l g => ∃ (a7 : Option Addr) (c6 : Nat), l.getD 0 undef = .slice a7 (n2 + 1) c6 ∧ OwnS (Kd.slice 5 (Kd.int .u8)) g m2 24 a7 (n2 + 1) c6 (l2 ++ [l4])⟩, ⟨some 5, [2, 3], [4], fun l g => ∃ (a7 : Option Addr) (c6 : Nat), l.getD 0 undef = .slice a7 (n2 + 1) c6 ∧ OwnS (Kd.slice 5 (Kd.int .u8)) g m2 24 a7 (n2 + 1) c6 (l2 ++ [l4]) ∧ Box g m0 b1 61 [encA .u8 d1, [.int .i64 x1], [.slice a1 n1 c1], [.slice a7 (n2 + 1) c6]] [8, 1, 1, 1]⟩] [[], [], [0], [1], [2], [3]] [m4, (t + 1), m2, m0] [0, 6] [] (by kernel_rfl) (by simp <;> omega) (by simp <;> omega) ⟨fun _ _ _ _ st h0 hl hj hB1 => (hB1.mono st (hj 3 (by simp) _ rfl)), fun _ _ _ _ st h0 hl hj hR2 => (hR2.mono st h0 (hj 2 (by simp) _ rfl)), fun _ _ _ _ st h0 hl hj hB3 => (hB3.mono st (fun h => absurd (hl _ h) (by simp <;> omega))), fun _ _ _ _ st h0 hl hj hB2 => (hB2.mono st (hj 0 (by simp) _ rfl)), fun _ _ _ _ st h0 hl hj hR3 => (RdS.mono (e := 5) hR3 st h0), fun _ _ _ _ st h0 hl hj e0 => e0, fun _ _ _ _ st h0 hl hj e1 => e1, fun _ _ _ _ st h0 hl hj ⟨a4, c4, a5, c5, e2, hR4, hR5, hB2⟩ => ⟨a4, c4, a5, c5, e2, (hR4.mono st h0 (hj 1 (by simp) _ rfl)), (RdS.mono (e := 5) hR5 st h0), (hB2.mono st (hj 0 (by simp) _ rfl))⟩, fun _ _ _ _ st h0 hl hj ⟨a6, e3, hR6⟩ => ⟨a6, e3, (hR6.mono st h0 (fun h => absurd (hl _ h) (by simp <;> omega)))⟩, fun _ _ _ _ st h0 hl hj ⟨a4, c4, a5, c5, e2, hR4, hR5, hB2⟩ => ⟨a4, c4, a5, c5, e2, (RdS.mono (e := 5) hR4 st h0), (RdS.mono (e := 5) hR5 st h0), (hB2.mono st (hj 0 (by simp) _ rfl))⟩, fun _ _ _ _ st h0 hl hj ⟨a7, c6, e4, hR7⟩ => ⟨a7, c6, e4, (hR7.mono st h0 (hj 2 (by simp) _ rfl))⟩, fun _ _ _ _ st h0 hl hj ⟨a7, c6, e4, hR7, hB1⟩ => ⟨a7, c6, e4, (hR7.mono st h0 (hj 2 (by simp) _ rfl)), (hB1.mono st (hj 3 (by simp) _ rfl))⟩, tv⟩ ⟨hB1, hR2, hB3, hB2, hR3, tv, tv, tv, tv, tv, tv, tv, tv⟩ (by kernel_rfl) (fun vs => by kernel_rfl) ?_ ?_ ?_
 ·intro j hj; exact absurd hj (by simp)
 ·intro j hj
  have hq : j = 0 ∨ j = 1 ∨ j = 2 ∨ j = 3 ∨ j = 4 ∨ j = 5 := by have h : j < 6 := hj; omega
  rcases hq with rfl | rfl | rfl | rfl | rfl | rfl
  ·intro vs gq stq hl hf
   obtain ⟨v0, v1, v2, v3, v4, v5, rfl⟩ := len_k6 hl
   have hB1 := (show Box gq m0 b1 61 [encA .u8 d1, [.int .i64 x1], [.slice a1 n1 c1], [.slice a2 n2 c2]] [8, 1, 1, 1] from hf _ (memI 0 rfl) (by kernel_rfl))
   refine WP.loadB (v := .slice a2 n2 c2) hB1 (by kernel_rfl) (by kernel_rfl) ?_
   refine WP.dn (Shown.ok (v := .slice a2 n2 c2) (by kernel_rfl) (Step.refl _ _) ?_)
   exact ⟨tv, tv, tv, tv, tv, rfl, tv, tv, tv, tv, tv, tv, tv⟩
  ·intro vs gq stq hl hf
   obtain ⟨v0, v1, v2, v3, v4, v5, rfl⟩ := len_k6 hl
   have hB3 := (show Box gq m3 b2 101 [[.pointer (some ⟨b3, 0, none⟩)]] [1] from hf _ (memI 2 rfl) (by kernel_rfl))
   refine WP.loadB (v := .pointer (some ⟨b3, 0, none⟩)) hB3 (by kernel_rfl) (by kernel_rfl) ?_
   refine WP.dn (Shown.ok (v := .pointer (some ⟨b3, 0, none⟩)) (by kernel_rfl) (Step.refl _ _) ?_)
   exact ⟨tv, tv, tv, tv, tv, tv, rfl, tv, tv, tv, tv, tv, tv⟩
  ·intro vs gq stq hl hf
   obtain ⟨v0, v1, v2, v3, v4, v5, rfl⟩ := len_k6 hl
   have hB2 := (show Box gq m4 b3 126 [[.slice a3 n3 c3], [.int .i64 x2]] [1, 1] from hf _ (memI 3 rfl) (by kernel_rfl))
   have hR3 := (show RdS (Kd.int .u8) gq 5 a3 n3 c3 l3 from hf _ (memI 4 rfl) (by kernel_rfl))
   have e1 := (show v1 = .pointer (some ⟨b3, 0, none⟩) from hf _ (memI 6 rfl) (by kernel_rfl))
   subst e1
   have hcal1 := P.octet_Reader_Bytes gq m4 (t + 1) l3 x2 4096 a3 n3 c3 b3 hR3 hB2 (by omega) l4 d2 x3 hk1
   refine WP.callC hcal1 (by kernel_rfl) ?_
   rintro _ g1 st1 ⟨a4, n4, c4, a5, n5, c5, rfl, hR4, hR5, hB4⟩
   obtain rfl := hR4.len
   obtain rfl := hR5.len
   refine WP.dn (Shown.o (v := .slice a4 l4.length c4) st1 ?_)
   exact ⟨tv, tv, tv, tv, tv, tv, tv, ⟨a4, c4, a5, c5, rfl, hR4, hR5, hB4⟩, tv, tv, tv, tv, tv⟩
  ·intro vs gq stq hl hf
   obtain ⟨v0, v1, v2, v3, v4, v5, rfl⟩ := len_k6 hl
   obtain ⟨a4, c4, a5, c5, e2, hR4, hR5, hB2⟩ := (show ∃ (a4 : Option Addr) (c4 : Nat) (a5 : Option Addr) (c5 : Nat), v2 = .slice a4 l4.length c4 ∧ OwnS (Kd.int .u8) gq (t + 1) 5 a4 l4.length c4 l4 ∧ RdS (Kd.int .u8) gq 5 a5 d2.length c5 d2 ∧ Box gq m4 b3 126 [[.slice a5 d2.length c5], [.int .i64 x3]] [1, 1] from hf _ (memI 7 rfl) (by kernel_rfl))
   subst e2
   obtain ⟨gf1, hwf1, stf1, hnew⟩ := hR4.freeze (by omega)
   refine WP.regw hwf1 ?_
   clear hR4
   have hR4 := hnew
   clear hnew
   refine WP.mkSl (kd := (Kd.slice 5 (Kd.int .u8))) (t := 42) (e := 24) (bytes := 24) (t + 2) [.slice a4 l4.length c4] [l4] (by kernel_rfl) (by kernel_rfl) (Nat.le_of_ble_eq_true rfl) (Nat.le_of_ble_eq_true rfl) (all_cons rfl all_nil) (⟨_, _, rfl, (by exact ⟨_, _, _, rfl, hR4⟩), rfl⟩) rfl ?_
   intro g2 a6 st2 hR6
   replace st2 : Step (WL []) _ _ := Step.pure st2
   have hz1 := hR4.mono st2 (WL.no (by simp <;> omega))
   replace st2 := Step.both stf1 st2
   refine WP.dn (Shown.o (v := .slice a6 1 1) st2 ?_)
   exact ⟨tv, tv, tv, tv, tv, tv, tv, tv, ⟨a6, rfl, hR6⟩, ⟨a4, c4, a5, c5, rfl, hz1, (hR5.mono st2 (WL.no (by simp <;> omega))), (hB2.mono st2 (WL.no (by simp <;> omega)))⟩, tv, tv, tv⟩
  ·intro vs gq stq hl hf
   obtain ⟨v0, v1, v2, v3, v4, v5, rfl⟩ := len_k6 hl
   have hR2 := (show OwnS (Kd.slice 5 (Kd.int .u8)) gq m2 24 a2 n2 c2 l2 from hf _ (memI 1 rfl) (by kernel_rfl))
   have e0 := (show v0 = .slice a2 n2 c2 from hf _ (memI 5 rfl) (by kernel_rfl))
   subst e0
   obtain ⟨a6, e3, hR6⟩ := (show ∃ (a6 : Option Addr), v3 = .slice a6 1 1 ∧ OwnS (Kd.slice 5 (Kd.int .u8)) gq (t + 2) 24 a6 1 1 ([l4]) from hf _ (memI 8 rfl) (by kernel_rfl))
   subst e3
   refine WP.append (kd := (Kd.slice 5 (Kd.int .u8))) (t := 42) (e := 24) (bytes := 24) (a2 := a6) (c2 := 1) hR2 hR6.src hR6.len (by kernel_rfl) (by kernel_rfl) (by omega) (by simp only [maxLen]; omega) (by omega) ?_
   intro g3 a7 c6 st3 hR7
   refine WP.dn (Shown.o (v := .slice a7 (n2 + 1) c6) st3 ?_)
   exact ⟨tv, tv, tv, tv, tv, tv, tv, tv, tv, tv, ⟨a7, c6, rfl, hR7⟩, tv, tv⟩
  ·intro vs gq stq hl hf
   obtain ⟨v0, v1, v2, v3, v4, v5, rfl⟩ := len_k6 hl
   have hB1 := (show Box gq m0 b1 61 [encA .u8 d1, [.int .i64 x1], [.slice a1 n1 c1], [.slice a2 n2 c2]] [8, 1, 1, 1] from hf _ (memI 0 rfl) (by kernel_rfl))
   obtain ⟨a7, c6, e4, hR7⟩ := (show ∃ (a7 : Option Addr) (c6 : Nat), v4 = .slice a7 (n2 + 1) c6 ∧ OwnS (Kd.slice 5 (Kd.int .u8)) gq m2 24 a7 (n2 + 1) c6 (l2 ++ [l4]) from hf _ (memI 10 rfl) (by kernel_rfl))
   subst e4
   refine WP.storeB (ty := 42) (off := 10) (v := .slice a7 (n2 + 1) c6) hB1 [[.slice a7 (n2 + 1) c6]] [1] (by kernel_rfl) (by kernel_rfl) rfl (by kernel_rfl) [encA .u8 d1, [.int .i64 x1], [.slice a1 n1 c1], [.slice a7 (n2 + 1) c6]] (by kernel_rfl) (.one rfl .nil) ?_
   intro g4 st4 hB5
   refine WP.dn (Shown.o (v := undef) st4 ?_)
   exact ⟨tv, tv, tv, tv, tv, tv, tv, tv, tv, tv, tv, ⟨a7, c6, rfl, (hR7.mono st4 (WL.no (by simp <;> omega)) (WL.no (by simp <;> omega))), hB5⟩, tv⟩
 intro vs g5 st5 hl hf
 obtain ⟨v0, v1, v2, v3, v4, v5, rfl⟩ := len_k6 hl
 obtain ⟨a4, c4, a5, c5, e2, hR4, hR5, hB2⟩ := (show ∃ (a4 : Option Addr) (c4 : Nat) (a5 : Option Addr) (c5 : Nat), v2 = .slice a4 l4.length c4 ∧ RdS (Kd.int .u8) g5 5 a4 l4.length c4 l4 ∧ RdS (Kd.int .u8) g5 5 a5 d2.length c5 d2 ∧ Box g5 m4 b3 126 [[.slice a5 d2.length c5], [.int .i64 x3]] [1, 1] from hf _ (memI 9 rfl) (by kernel_rfl))
 subst e2
 obtain ⟨a7, c6, e4, hR7, hB1⟩ := (show ∃ (a7 : Option Addr) (c6 : Nat), v4 = .slice a7 (n2 + 1) c6 ∧ OwnS (Kd.slice 5 (Kd.int .u8)) g5 m2 24 a7 (n2 + 1) c6 (l2 ++ [l4]) ∧ Box g5 m0 b1 61 [encA .u8 d1, [.int .i64 x1], [.slice a1 n1 c1], [.slice a7 (n2 + 1) c6]] [8, 1, 1, 1] from hf _ (memI 11 rfl) (by kernel_rfl))
 subst e4
 replace hR1 := hR1.mono st5 (WL.no (by simp <;> omega)) (WL.no (by simp <;> omega))
 replace tot := tot.trans (st5.up (by intro l hl; simp at hl; rcases hl with rfl | rfl | rfl | rfl <;> first | exact .inr (by omega) | exact .inl (by simp [WL])))
 refine NX.then_n ?_
 refine CP.refr 10 [] (by kernel_rfl) (by kernel_rfl) ?_
 clear ds
 intro ds
 refine CP.seqR ?_
 refine WP.stl 1 ?_
 refine WP.dn ?_
 refine NX.then_n ?_
 refine CP.ret ?_
 replace hs := Option.some.inj hs
 simp only [Prod.mk.injEq] at hs
 obtain ⟨rfl, rfl, rfl, rfl, rfl, rfl, rfl⟩ := hs
 exact NX.fin (v := .bool true) (Res.still (by kernel_rfl)) tot htL ⟨a1, n1, c1, a7, (n2 + 1), c6, a5, d2.length, c5, rfl, hR1, hR7, hB1, hR5, hB2⟩
def F.state_Decode_1_9 (d1 : Arr Int 8) (x1 : Int) (l1 : List Int) (l2 : List (List Int)) (l3 : List Int) (x2 : Int) (x3 : Int) : Option ((Arr Int 8) × Int × (List Int) × (List (List Int)) × (List Int) × Int × Int) := (if (x3 != 0) = true then (some (d1, x1, l1, l2, l3, x2, x3)) else ((F.state_Decode_6_2 d1 x1 l1 l2 l3 x2).bind fun (q1, d2, x4, d3, d4, d5, x5) => ((F.octet_Reader_Err d5 x5).bind fun x6 => (if (x6 != 0) = true then ((F.octet_Reader_Err d5 x5).bind fun x7 => (some (d2, x4, d3, d4, d5, x5, x7))) else (if (!q1) = true then (some (d2, x4, d3, d4, d5, x5, 3)) else (some (d2, x4, d3, d4, d5, x5, x3)))))))
theorem P.state_Decode_1_9 (g0 : GW) (m0 : Nat) (m1 : Nat) (m2 : Nat) (m3 : Nat) (m4 : Nat) (m5 : Nat) (d1 : Arr Int 8) (x1 : Int) (l1 : List Int) (l2 : List (List Int)) (l3 : List Int) (x2 : Int) (x3 : Int) (a1 : Option Addr) (n1 : Nat) (c1 : Nat) (a2 : Option Addr) (n2 : Nat) (c2 : Nat) (a3 : Option Addr) (n3 : Nat) (c3 : Nat) (b1 : Nat) (b2 : Nat) (b3 : Nat) (b4 : Nat) (hR1 : OwnS (Kd.int .u8) g0 m1 5 a1 n1 c1 l1) (hR2 : OwnS (Kd.slice 5 (Kd.int .u8)) g0 m2 24 a2 n2 c2 l2) (hR3 : RdS (Kd.int .u8) g0 5 a3 n3 c3 l3) (hB1 : Box g0 m0 b1 61 [encA .u8 d1, [.int .i64 x1], [.slice a1 n1 c1], [.slice a2 n2 c2]] [8, 1, 1, 1]) (hB2 : Box g0 m4 b3 126 [[.slice a3 n3 c3], [.int .i64 x2]] [1, 1]) (hB3 : Box g0 m3 b2 101 [[.pointer (some ⟨b3, 0, none⟩)]] [1]) (hB4 : Box g0 m5 b4 43 [[.int .i64 x3]] [1]) (hm1_0 : m1 ≠ m0) (hm2_0 : m2 ≠ m0) (hm2_1 : m2 ≠ m1) (hm3_0 : m3 ≠ m0) (hm3_1 : m3 ≠ m1) (hm3_2 : m3 ≠ m2) (hm4_0 : m4 ≠ m0) (hm4_1 : m4 ≠ m1) (hm4_2 : m4 ≠ m2) (hm4_3 : m4 ≠ m3) (hm5_0 : m5 ≠ m0) (hm5_1 : m5 ≠ m1) (hm5_2 : m5 ≠ m2) (hm5_3 : m5 ≠ m3) (hm5_4 : m5 ≠ m4) (hm0 : m0 ≠ 0) (hm1 : m1 ≠ 0) (hm2 : m2 ≠ 0) (hm3 : m3 ≠ 0) (hm4 : m4 ≠ 0) (hm5 : m5 ≠ 0) (o1 : (Arr Int 8)) (o2 : Int) (o3 : (List Int)) (o4 : (List (List Int))) (o5 : (List Int)) (o6 : Int) (o7 : Int) (hs : F.state_Decode_1_9 d1 x1 l1 l2 l3 x2 x3 = some (o1, o2, o3, o4, o5, o6, o7)) :
  Calls Try.prog 50 #[.func (.func 58) #[] #[.pointer (some ⟨b1, 0, none⟩), .pointer (some ⟨b2, 0, none⟩)], .pointer (some ⟨b4, 0, none⟩), .pointer (some ⟨b2, 0, none⟩)] g0.w (Ret (WL [m0, m4, m5, m1, m2]) g0 fun v g => ∃ (a_1 : Option Addr) (n_1 : Nat) (c_1 : Nat) (a_4 : Option Addr) (n_4 : Nat) (c_4 : Nat) (a_7 : Option Addr) (n_7 : Nat) (c_7 : Nat), v = .tuple #[] ∧ OwnS (Kd.int .u8) g m1 5 a_1 n_1 c_1 o3 ∧ OwnS (Kd.slice 5 (Kd.int .u8)) g m2 24 a_4 n_4 c_4 o4 ∧ Box g m0 b1 61 [encA .u8 o1, [.int .i64 o2], [.slice a_1 n_1 c_1], [.slice a_4 n_4 c_4]] [8, 1, 1, 1] ∧ RdS (Kd.int .u8) g 5 a_7 n_7 c_7 o5 ∧ Box g m4 b3 126 [[.slice a_7 n_7 c_7], [.int .i64 o6]] [1, 1] ∧ Box g m5 b4 43 [[.int .i64 o7]] [1]) := by
 refine calls_of (args := [.func (.func 58) #[] #[.pointer (some ⟨b1, 0, none⟩), .pointer (some ⟨b2, 0, none⟩)], .pointer (some ⟨b4, 0, none⟩), .pointer (some ⟨b2, 0, none⟩)]) Try.func50 rfl (m0 + m1 + m2 + m3 + m4 + m5 + 0) ?_
 intro t ht htL
 refine ⟨_, rfl, ?_⟩
 refine CP.refr 18 [(0, .func (.func 58) #[] #[.pointer (some ⟨b1, 0, none⟩), .pointer (some ⟨b2, 0, none⟩)]), (1, .pointer (some ⟨b4, 0, none⟩)), (2, .pointer (some ⟨b2, 0, none⟩))] (by kernel_rfl) (by kernel_rfl) ?_
 intro ds
 have tot : Step (fun l => (WL [m0, m4, m5, m1, m2]) l ∨ t ≤ l) g0 g0 := Step.refl _ _
 unfold F.state_Decode_1_9 at hs
 refine CP.seq ?_
 refine CP.seqR ?_
 refine WP.loadB (v := .int .i64 x3) hB4 (by kernel_rfl) (by kernel_rfl) ?_
 refine WP.stl 1 ?_
 refine WP.dn ?_
 refine NX.then_n ?_
 refine CP.cond (b := (x3 != 0)) (by kernel_rfl) (fun h1 => ?_) (fun h1 => ?_)
 ·replace hs := of_if_t hs h1
  refine CP.ret ?_
  refine NX.then_r ?_
  replace hs := Option.some.inj hs
  simp only [Prod.mk.injEq] at hs
  obtain ⟨rfl, rfl, rfl, rfl, rfl, rfl, rfl⟩ := hs
  exact NX.fin (v := .tuple #[]) (Res.still (by kernel_rfl)) tot htL ⟨a1, n1, c1, a2, n2, c2, a3, n3, c3, rfl, hR1, hR2, hB1, hR3, hB2, hB4⟩
 replace hs := of_if_f hs h1
 refine CP.skip ?_
 refine NX.then_n ?_
 refine CP.seqR ?_
 refine WP.stl 1 ?_
 replace hs := Option.bind_eq_some_iff.1 hs
 obtain ⟨⟨q1, d2, x4, d3, d4, d5, x5⟩, hk1, hs⟩ := hs
 dsimp only at hs
 have hcal1 := P.state_Decode_6_2 g0 m0 m1 m2 m3 m4 d1 x1 l1 l2 l3 x2 a1 n1 c1 a2 n2 c2 a3 n3 c3 b1 b2 b3 hR1 hR2 hR3 hB1 hB2 hB3 (by omega) (by omega) (by omega) (by omega) (by omega) (by omega) (by omega) (by omega) (by omega) (by omega) (by omega) (by omega) (by omega) (by omega) (by omega) q1 d2 x4 d3 d4 d5 x5 hk1
 refine WP.callC hcal1 (by kernel_rfl) ?_
 rintro _ g1 st1 ⟨a4, n4, c4, a5, n5, c5, a6, n6, c6, rfl, hR4, hR5, hB5, hR6, hB6⟩
 replace hB3 := hB3.mono st1 (WL.no (by simp <;> omega))
 replace hB4 := hB4.mono st1 (WL.no (by simp <;> omega))
 replace tot := tot.trans (st1.up (by intro l hl; simp at hl; rcases hl with rfl | rfl | rfl | rfl <;> first | exact .inr (by omega) | exact .inl (by simp [WL])))
 clear hB1
 have hB1 := hB5
 clear hB5
 clear hB2
 have hB2 := hB6
 clear hB6
 refine WP.stl 1 ?_
 refine WP.dn ?_
 refine NX.then_n ?_
 refine CP.block ?_
 refine CP.seqR ?_
 refine WP.loadB (v := .pointer (some ⟨b3, 0, none⟩)) hB3 (by kernel_rfl) (by kernel_rfl) ?_
 replace hs := Option.bind_eq_some_iff.1 hs
 obtain ⟨x6, hk2, hs⟩ := hs
 have hcal2 := P.octet_Reader_Err g1 m4 d5 x5 a6 n6 c6 b3 hR6 hB2 (by omega) x6 hk2
 refine WP.callC hcal2 (by kernel_rfl) ?_
 rintro _ g2 st2 rfl
 replace hB4 := hB4.mono st2 (fun x => x)
 replace hB3 := hB3.mono st2 (fun x => x)
 replace hB2 := hB2.mono st2 (fun x => x)
 replace hR6 := hR6.mono st2 (fun x => x)
 replace hB1 := hB1.mono st2 (fun x => x)
 replace hR4 := hR4.mono st2 (fun x => x) (fun x => x)
 replace hR5 := hR5.mono st2 (fun x => x) (fun x => x)
 replace tot := tot.trans st2.pure
 refine WP.stl 2 ?_
 refine WP.dn ?_
 refine NX.then_n ?_
 refine CP.cond (b := (x6 != 0)) (by kernel_rfl) (fun h2 => ?_) (fun h2 => ?_)
 ·replace hs := of_if_t hs h2
  refine CP.region ?_
  refine WP.loadB (v := .pointer (some ⟨b3, 0, none⟩)) hB3 (by kernel_rfl) (by kernel_rfl) ?_
  replace hs := Option.bind_eq_some_iff.1 hs
  obtain ⟨x7, hk3, hs⟩ := hs
  have hcal3 := P.octet_Reader_Err g2 m4 d5 x5 a6 n6 c6 b3 hR6 hB2 (by omega) x7 hk3
  refine WP.callC hcal3 (by kernel_rfl) ?_
  rintro _ g3 st3 rfl
  replace hB4 := hB4.mono st3 (fun x => x)
  replace hB3 := hB3.mono st3 (fun x => x)
  replace hB2 := hB2.mono st3 (fun x => x)
  replace hR6 := hR6.mono st3 (fun x => x)
  replace hB1 := hB1.mono st3 (fun x => x)
  replace hR4 := hR4.mono st3 (fun x => x) (fun x => x)
  replace hR5 := hR5.mono st3 (fun x => x) (fun x => x)
  replace tot := tot.trans st3.pure
  refine WP.storeB (ty := 43) (off := 0) (v := .int .i64 x7) hB4 [[.int .i64 x7]] [1] (by kernel_rfl) (by kernel_rfl) rfl (by kernel_rfl) [[.int .i64 x7]] (by kernel_rfl) (.one rfl .nil) ?_
  intro g4 st4 hB7
  replace hB3 := hB3.mono st4 (WL.no1 (by omega))
  replace hB2 := hB2.mono st4 (WL.no1 (by omega))
  replace hR6 := hR6.mono st4 (WL.no1 (by omega))
  replace hB1 := hB1.mono st4 (WL.no1 (by omega))
  replace hR4 := hR4.mono st4 (WL.no1 (by omega)) (WL.no1 (by omega))
  replace hR5 := hR5.mono st4 (WL.no1 (by omega)) (WL.no1 (by omega))
  replace tot := tot.trans (st4.up1 (.inl (by simp [WL])))
  clear hB4
  have hB4 := hB7
  clear hB7
  refine WP.dn ?_
  refine NX.block_n ?_
  replace hs := Option.some.inj hs
  simp only [Prod.mk.injEq] at hs
  obtain ⟨rfl, rfl, rfl, rfl, rfl, rfl, rfl⟩ := hs
  exact NX.finE (v := .tuple #[]) (Res.still (by kernel_rfl)) tot htL ⟨a4, n4, c4, a5, n5, c5, a6, n6, c6, rfl, hR4, hR5, hB1, hR6, hB2, hB4⟩
 replace hs := of_if_f hs h2
 refine CP.seqR ?_
 refine WP.stl 3 ?_
 refine WP.dn ?_
 refine NX.then_n ?_
 refine CP.cond (b := (!q1)) (by kernel_rfl) (fun h3 => ?_) (fun h3 => ?_)
 ·replace hs := of_if_t hs h3
  refine CP.region ?_
  refine WP.storeB (ty := 43) (off := 0) (v := .int .i64 3) hB4 [[.int .i64 3]] [1] (by kernel_rfl) (by kernel_rfl) rfl (by kernel_rfl) [[.int .i64 3]] (by kernel_rfl) (.one rfl .nil) ?_
  intro g5 st5 hB8
  replace hB1 := hB1.mono st5 (WL.no1 (by omega))
  replace hR4 := hR4.mono st5 (WL.no1 (by omega)) (WL.no1 (by omega))
  replace hR5 := hR5.mono st5 (WL.no1 (by omega)) (WL.no1 (by omega))
  replace hB2 := hB2.mono st5 (WL.no1 (by omega))
  replace hR6 := hR6.mono st5 (WL.no1 (by omega))
  replace tot := tot.trans (st5.up1 (.inl (by simp [WL])))
  clear hB4
  have hB4 := hB8
  clear hB8
  refine WP.dn ?_
  refine NX.block_n ?_
  replace hs := Option.some.inj hs
  simp only [Prod.mk.injEq] at hs
  obtain ⟨rfl, rfl, rfl, rfl, rfl, rfl, rfl⟩ := hs
  exact NX.finE (v := .tuple #[]) (Res.still (by kernel_rfl)) tot htL ⟨a4, n4, c4, a5, n5, c5, a6, n6, c6, rfl, hR4, hR5, hB1, hR6, hB2, hB4⟩
 replace hs := of_if_f hs h3
 refine CP.skip ?_
 refine NX.block_n ?_
 replace hs := Option.some.inj hs
 simp only [Prod.mk.injEq] at hs
 obtain ⟨rfl, rfl, rfl, rfl, rfl, rfl, rfl⟩ := hs
 exact NX.finE (v := .tuple #[]) (Res.still (by kernel_rfl)) tot htL ⟨a4, n4, c4, a5, n5, c5, a6, n6, c6, rfl, hR4, hR5, hB1, hR6, hB2, hB4⟩
def F.octet_Reader_Left (l1 : List Int) (x1 : Int) : Option (Int) := (some (l1.length : Int))
theorem P.octet_Reader_Left (g0 : GW) (m0 : Nat) (l1 : List Int) (x1 : Int) (a1 : Option Addr) (n1 : Nat) (c1 : Nat) (b1 : Nat) (hR1 : RdS (Kd.int .u8) g0 5 a1 n1 c1 l1) (hB1 : Box g0 m0 b1 126 [[.slice a1 n1 c1], [.int .i64 x1]] [1, 1]) (hm0 : m0 ≠ 0) (o1 : Int) (hs : F.octet_Reader_Left l1 x1 = some o1) :
  Calls Try.prog 77 #[.pointer (some ⟨b1, 0, none⟩)] g0.w (Ret NoM g0 fun v g => v = .int .i64 o1) := by
 refine calls_of (args := [.pointer (some ⟨b1, 0, none⟩)]) Try.func77 rfl (m0 + 0) ?_
 intro t ht htL
 refine ⟨_, rfl, ?_⟩
 refine CP.refr 10 [(0, .pointer (some ⟨b1, 0, none⟩))] (by kernel_rfl) (by kernel_rfl) ?_
 intro ds
 have tot : Step (fun l => NoM l ∨ t ≤ l) g0 g0 := Step.refl _ _
 unfold F.octet_Reader_Left at hs
 refine CP.seqR ?_
 refine WP.stl 1 ?_
 refine WP.dn ?_
 refine NX.then_n ?_
 refine CP.seq ?_
 refine CP.seqR ?_
 refine WP.stl 2 ?_
 refine WP.dn ?_
 refine NX.then_n ?_
 refine CP.cond_f (by kernel_rfl) ?_
 refine CP.skip ?_
 refine NX.then_n ?_
 refine CP.seqR ?_
 refine WP.stl 3 ?_
 refine WP.loadB (v := .slice a1 n1 c1) hB1 (by kernel_rfl) (by kernel_rfl) ?_
 refine WP.len (a := a1) (cp := c1) hR1.len (by kernel_rfl) ?_
 refine WP.stl 1 ?_
 refine WP.dn ?_
 refine NX.then_n ?_
 refine CP.ret ?_
 replace hs := Option.some.inj hs
 obtain rfl := hs
 exact NX.fin (v := .int .i64 (l1.length : Int)) (Res.still (by kernel_rfl)) tot htL rfl
def F.octet_Reader_End (l1 : List Int) (x1 : Int) : Option (Int) := ((F.octet_Reader_Err l1 x1).bind fun x2 => (if (x2 != 0) = true then (some x2) else ((F.octet_Reader_Left l1 x1).bind fun x3 => (if decide (x3 > 0) = true then (some 5) else (some 0)))))
theorem P.octet_Reader_End (g0 : GW) (m0 : Nat) (l1 : List Int) (x1 : Int) (a1 : Option Addr) (n1 : Nat) (c1 : Nat) (b1 : Nat) (hR1 : RdS (Kd.int .u8) g0 5 a1 n1 c1 l1) (hB1 : Box g0 m0 b1 126 [[.slice a1 n1 c1], [.int .i64 x1]] [1, 1]) (hm0 : m0 ≠ 0) (o1 : Int) (hs : F.octet_Reader_End l1 x1 = some o1) :
  Calls Try.prog 59 #[.pointer (some ⟨b1, 0, none⟩)] g0.w (Ret NoM g0 fun v g => v = .int .i64 o1) := by
 refine calls_of (args := [.pointer (some ⟨b1, 0, none⟩)]) Try.func59 rfl (m0 + 0) ?_
 intro t ht htL
 refine ⟨_, rfl, ?_⟩
 refine CP.refr 12 [(0, .pointer (some ⟨b1, 0, none⟩))] (by kernel_rfl) (by kernel_rfl) ?_
 intro ds
 have tot : Step (fun l => NoM l ∨ t ≤ l) g0 g0 := Step.refl _ _
 unfold F.octet_Reader_End at hs
 refine CP.seqR ?_
 refine WP.stl 1 ?_
 refine WP.dn ?_
 refine NX.then_n ?_
 refine CP.seq ?_
 refine CP.seqR ?_
 refine WP.stl 1 ?_
 replace hs := Option.bind_eq_some_iff.1 hs
 obtain ⟨x2, hk1, hs⟩ := hs
 have hcal1 := P.octet_Reader_Err g0 m0 l1 x1 a1 n1 c1 b1 hR1 hB1 (by omega) x2 hk1
 refine WP.callC hcal1 (by kernel_rfl) ?_
 rintro _ g1 st1 rfl
 replace hB1 := hB1.mono st1 (fun x => x)
 replace hR1 := hR1.mono st1 (fun x => x)
 replace tot := tot.trans st1.pure
 refine WP.stl 1 ?_
 refine WP.dn ?_
 refine NX.then_n ?_
 refine CP.seqR ?_
 refine WP.stl 2 ?_
 refine WP.dn ?_
 refine NX.then_n ?_
 refine CP.cond (b := (x2 != 0)) (by kernel_rfl) (fun h1 => ?_) (fun h1 => ?_)
 ·replace hs := of_if_t hs h1
  refine CP.seqR ?_
  refine WP.stl 2 ?_
  refine WP.dn ?_
  refine NX.then_n ?_
  refine CP.ret ?_
  refine NX.then_r ?_
  replace hs := Option.some.inj hs
  obtain rfl := hs
  exact NX.fin (v := .int .i64 x2) (Res.still (by kernel_rfl)) tot htL rfl
 replace hs := of_if_f hs h1
 refine CP.skip ?_
 refine NX.then_n ?_
 refine CP.seq ?_
 refine CP.seqR ?_
 refine WP.stl 1 ?_
 replace hs := Option.bind_eq_some_iff.1 hs
 obtain ⟨x3, hk2, hs⟩ := hs
 have hcal2 := P.octet_Reader_Left g1 m0 l1 x1 a1 n1 c1 b1 hR1 hB1 (by omega) x3 hk2
 refine WP.callC hcal2 (by kernel_rfl) ?_
 rintro _ g2 st2 rfl
 replace hB1 := hB1.mono st2 (fun x => x)
 replace hR1 := hR1.mono st2 (fun x => x)
 replace tot := tot.trans st2.pure
 refine WP.stl 1 ?_
 refine WP.dn ?_
 refine NX.then_n ?_
 refine CP.cond (b := decide (x3 > 0)) (by kernel_rfl) (fun h2 => ?_) (fun h2 => ?_)
 ·replace hs := of_if_t hs h2
  refine CP.seqR ?_
  refine WP.stl 1 ?_
  refine WP.dn ?_
  refine NX.then_n ?_
  refine CP.ret ?_
  refine NX.then_r ?_
  replace hs := Option.some.inj hs
  obtain rfl := hs
  exact NX.fin (v := .int .i64 5) (Res.still (by kernel_rfl)) tot htL rfl
 replace hs := of_if_f hs h2
 refine CP.skip ?_
 refine NX.then_n ?_
 refine CP.seqR ?_
 refine WP.stl 1 ?_
 refine WP.dn ?_
 refine NX.then_n ?_
 refine CP.ret ?_
 replace hs := Option.some.inj hs
 obtain rfl := hs
 exact NX.fin (v := .int .i64 0) (Res.still (by kernel_rfl)) tot htL rfl
def F.state_Decode.c1 (d18 : Arr Int 8) (x19 : Int) (l3 : List Int) (l4 : List (List Int)) (x36 : Int) : Option ((Arr Int 8) × Int × (List Int) × (List (List Int)) × Int) := (if (x36 != 0) = true then (some ((zA 8), 0, [], [], x36)) else (some (d18, x19, l3, l4, 0)))
def F.state_Decode.l1 (x12 : Int) : Nat → (Arr Int 8) → Int → (List Int) → (List (List Int)) → (List Int) → Int → Int → Int → Option ((Arr Int 8) × Int × (List Int) × (List (List Int)) × Int)
 | 0, _, _, _, _, _, _, _, _ => none
 | k + 1, d18, x19, l3, l4, l5, x20, x21, x22 => (if decide (x22 < x12) = true then ((F.state_Decode_1_9 d18 x19 l3 l4 l5 x20 x21).bind fun (d24, x32, d25, d26, d27, x33, x34) => (F.state_Decode.l1 x12 k d24 x32 d25 d26 d27 x33 x34 (IntKind.i64.wrap (x22 + 1)))) else (if (x21 == 0) = true then ((F.octet_Reader_End l5 x20).bind fun x37 => (F.state_Decode.c1 d18 x19 l3 l4 x37)) else (F.state_Decode.c1 d18 x19 l3 l4 x21)))
def F.state_Decode (l1 : List Int) : Option ((Arr Int 8) × Int × (List Int) × (List (List Int)) × Int) := ((F.octet_NewReader l1).bind fun (l2, x1) => ((F.state_Decode_1_2 l2 x1 (zA 8) 0 ([]) ([]) 0).bind fun (d1, x2, d2, x3, d3, d4, x4) => ((F.state_Decode_1_4 d1 x2 d2 x3 d3 d4 x4).bind fun (d5, x5, d6, x6, d7, d8, x7) => ((F.state_Decode_1_6 d5 x5 d6 x6 d7 d8 x7).bind fun (d9, x8, d10, x9, d11, d12, x10) => ((F.state_Decode_1_7 d9 x8 0 x10).bind fun (d13, x11, x12, x13) => (F.state_Decode.l1 x12 fuel d10 x9 d11 d12 d13 x11 x13 0))))))
theorem P.state_Decode (g0 : GW) (r0 : Nat) (r1 : Nat) (l1 : List Int) (a1 : Option Addr) (n1 : Nat) (c1 : Nat) (hR1 : RdS (Kd.int .u8) g0 5 a1 n1 c1 l1) (o1 : Arr Int 8) (o2 : Int) (o3 : List Int) (o4 : List (List Int)) (o5 : Int) (hs : F.state_Decode l1 = some (o1, o2, o3, o4, o5)) :
  Calls Try.prog 29 #[.slice a1 n1 c1] g0.w (Ret NoM g0 fun v g => ∃ (a_1 : Option Addr) (n_1 : Nat) (c_1 : Nat) (a_4 : Option Addr) (n_4 : Nat) (c_4 : Nat), v = .tuple #[AG [encA .u8 o1, [.int .i64 o2], [.slice a_1 n_1 c_1], [.slice a_4 n_4 c_4]], .int .i64 o5] ∧ OwnS (Kd.int .u8) g r0 5 a_1 n_1 c_1 o3 ∧ OwnS (Kd.slice 5 (Kd.int .u8)) g r1 24 a_4 n_4 c_4 o4) := by
 refine calls_of (args := [.slice a1 n1 c1]) Try.func29 rfl (r0 + r1 + 0) ?_
 intro t ht htL
 refine ⟨_, rfl, ?_⟩
 refine CP.refr 40 [(0, .slice a1 n1 c1)] (by kernel_rfl) (by kernel_rfl) ?_
 intro ds
 have tot : Step (fun l => NoM l ∨ t ≤ l) g0 g0 := Step.refl _ _
 unfold F.state_Decode at hs
 refine CP.seqR ?_
 refine WP.alloc (T := 61) (t + 1) [encA .u8 (zA 8), [.int .i64 0], [.slice none 0 0], [.slice none 0 0]] [8, 1, 1, 1] (by kernel_rfl) (by simp [len_encA]) ?_
 intro g1 b1 st1 hB1
 replace hR1 := hR1.mono st1 (fun x => x)
 replace tot := tot.trans st1.pure
 refine WP.stl 1 ?_
 refine WP.dn ?_
 refine NX.then_n ?_
 refine CP.seqR ?_
 refine WP.alloc (T := 61) (t + 2) [encA .u8 (zA 8), [.int .i64 0], [.slice none 0 0], [.slice none 0 0]] [8, 1, 1, 1] (by kernel_rfl) (by simp [len_encA]) ?_
 intro g2 b2 st2 hB2
 replace hR1 := hR1.mono st2 (fun x => x)
 replace hB1 := hB1.mono st2 (fun x => x)
 replace tot := tot.trans st2.pure
 refine WP.dn ?_
 refine NX.then_n ?_
 refine CP.seqR ?_
 refine WP.stl 1 ?_
 replace hs := Option.bind_eq_some_iff.1 hs
 obtain ⟨⟨l2, x1⟩, hk1, hs⟩ := hs
 dsimp only at hs
 have hcal1 := P.octet_NewReader g2 (t + 3) l1 a1 n1 c1 hR1 l2 x1 hk1
 refine WP.callC hcal1 (by kernel_rfl) ?_
 rintro _ g3 st3 ⟨b3, a2, n2, c2, rfl, hB3, hR2⟩
 replace hR1 := hR1.mono st3 (fun x => x)
 replace hB1 := hB1.mono st3 (fun x => x)
 replace hB2 := hB2.mono st3 (fun x => x)
 replace tot := tot.trans st3.pure
 refine WP.alloc (T := 101) (t + 4) [[.pointer none]] [1] (by kernel_rfl) rfl ?_
 intro g4 b4 st4 hB4
 replace hR1 := hR1.mono st4 (fun x => x)
 replace hB1 := hB1.mono st4 (fun x => x)
 replace hB2 := hB2.mono st4 (fun x => x)
 replace hB3 := hB3.mono st4 (fun x => x)
 replace hR2 := hR2.mono st4 (fun x => x)
 replace tot := tot.trans st4.pure
 refine WP.storeB (ty := 101) (off := 0) (v := .pointer (some ⟨b3, 0, none⟩)) hB4 [[.pointer (some ⟨b3, 0, none⟩)]] [1] (by kernel_rfl) (by kernel_rfl) rfl (by kernel_rfl) [[.pointer (some ⟨b3, 0, none⟩)]] (by kernel_rfl) (.one rfl .nil) ?_
 intro g5 st5 hB5
 replace hR1 := hR1.mono st5 (WL.no1 (by omega))
 replace hB1 := hB1.mono st5 (WL.no1 (by omega))
 replace hB2 := hB2.mono st5 (WL.no1 (by omega))
 replace hB3 := hB3.mono st5 (WL.no1 (by omega))
 replace hR2 := hR2.mono st5 (WL.no1 (by omega))
 replace tot := tot.trans (st5.up1 (.inr (by omega)))
 clear hB4
 have hB4 := hB5
 clear hB5
 refine WP.dn ?_
 refine NX.then_n ?_
 refine CP.seqR ?_
 refine WP.alloc (T := 43) (t + 5) [[.int .i64 0]] [1] (by kernel_rfl) rfl ?_
 intro g6 b5 st6 hB6
 replace hB1 := hB1.mono st6 (fun x => x)
 replace hB2 := hB2.mono st6 (fun x => x)
 replace hB4 := hB4.mono st6 (fun x => x)
 replace hB3 := hB3.mono st6 (fun x => x)
 replace hR2 := hR2.mono st6 (fun x => x)
 replace tot := tot.trans st6.pure
 refine WP.storeB (ty := 43) (off := 0) (v := .int .i64 0) hB6 [[.int .i64 0]] [1] (by kernel_rfl) (by kernel_rfl) rfl (by kernel_rfl) [[.int .i64 0]] (by kernel_rfl) (.one rfl .nil) ?_
 intro g7 st7 hB7
 replace hB1 := hB1.mono st7 (WL.no1 (by omega))
 replace hB2 := hB2.mono st7 (WL.no1 (by omega))
 replace hB4 := hB4.mono st7 (WL.no1 (by omega))
 replace hB3 := hB3.mono st7 (WL.no1 (by omega))
 replace hR2 := hR2.mono st7 (WL.no1 (by omega))
 replace tot := tot.trans (st7.up1 (.inr (by omega)))
 clear hB6
 have hB6 := hB7
 clear hB7
 refine WP.dn ?_
 refine NX.then_n ?_
 refine CP.seqR ?_
 refine WP.stl 2 ?_
 refine WP.dn ?_
 refine NX.then_n ?_
 refine CP.seqR ?_
 refine WP.stl 2 ?_
 replace hs := Option.bind_eq_some_iff.1 hs
 obtain ⟨⟨d1, x2, d2, x3, d3, d4, x4⟩, hk2, hs⟩ := hs
 dsimp only at hs
 have hcal2 := P.state_Decode_1_2 g7 (t + 4) (t + 3) (t + 2) (t + 6) (t + 7) (t + 5) l2 x1 (zA 8) 0 ([]) ([]) 0 a2 n2 c2 none 0 0 none 0 0 b4 b3 b2 b5 hR2 (OwnS.nil _ _ _ _) (OwnS.nil _ _ _ _) hB3 hB4 hB2 hB6 (by omega) (by omega) (by omega) (by omega) (by omega) (by omega) (by omega) (by omega) (by omega) (by omega) (by omega) (by omega) (by omega) (by omega) (by omega) (by omega) (by omega) (by omega) (by omega) (by omega) (by omega) d1 x2 d2 x3 d3 d4 x4 hk2
 refine WP.callC hcal2 (by kernel_rfl) ?_
 rintro _ g8 st8 ⟨a3, n3, c3, a4, n4, c4, a5, n5, c5, rfl, hR3, hB8, hR4, hR5, hB9, hB10⟩
 replace hB1 := hB1.mono st8 (WL.no (by simp <;> omega))
 replace hB4 := hB4.mono st8 (WL.no (by simp <;> omega))
 replace tot := tot.trans (st8.up (by intro l hl; simp at hl; rcases hl with rfl | rfl | rfl | rfl | rfl <;> first | exact .inr (by omega) | exact .inl (by simp [WL])))
 clear hB3
 have hB3 := hB8
 clear hB8
 clear hB2
 have hB2 := hB9
 clear hB9
 clear hB6
 have hB6 := hB10
 clear hB10
 refine WP.dn ?_
 refine NX.then_n ?_
 refine CP.refr 40 [(2, .pointer (some ⟨b1, 0, none⟩)), (4, .pointer (some ⟨b2, 0, none⟩)), (5, .pointer (some ⟨b4, 0, none⟩)), (6, .pointer (some ⟨b5, 0, none⟩)), (7, .func (.func 50) #[] #[.pointer (some ⟨b5, 0, none⟩), .pointer (some ⟨b4, 0, none⟩)])] (by kernel_rfl) (by kernel_rfl) ?_
 clear ds
 intro ds
 refine CP.seqR ?_
 refine WP.stl 2 ?_
 replace hs := Option.bind_eq_some_iff.1 hs
 obtain ⟨⟨d5, x5, d6, x6, d7, d8, x7⟩, hk3, hs⟩ := hs
 dsimp only at hs
 have hcal3 := P.state_Decode_1_4 g8 (t + 4) (t + 3) (t + 2) (t + 6) (t + 7) (t + 5) d1 x2 d2 x3 d3 d4 x4 a3 n3 c3 a4 n4 c4 a5 n5 c5 b4 b3 b2 b5 hR3 hR4 hR5 hB3 hB4 hB2 hB6 (by omega) (by omega) (by omega) (by omega) (by omega) (by omega) (by omega) (by omega) (by omega) (by omega) (by omega) (by omega) (by omega) (by omega) (by omega) (by omega) (by omega) (by omega) (by omega) (by omega) (by omega) d5 x5 d6 x6 d7 d8 x7 hk3
 refine WP.callC hcal3 (by kernel_rfl) ?_
 rintro _ g9 st9 ⟨a6, n6, c6, a7, n7, c7, a8, n8, c8, rfl, hR6, hB11, hR7, hR8, hB12, hB13⟩
 replace hB1 := hB1.mono st9 (WL.no (by simp <;> omega))
 replace hB4 := hB4.mono st9 (WL.no (by simp <;> omega))
 replace tot := tot.trans (st9.up (by intro l hl; simp at hl; rcases hl with rfl | rfl | rfl | rfl | rfl <;> first | exact .inr (by omega) | exact .inl (by simp [WL])))
 clear hB3
 have hB3 := hB11
 clear hB11
 clear hB2
 have hB2 := hB12
 clear hB12
 clear hB6
 have hB6 := hB13
 clear hB13
 refine WP.dn ?_
 refine NX.then_n ?_
 refine CP.seqR ?_
 refine WP.stl 2 ?_
 replace hs := Option.bind_eq_some_iff.1 hs
 obtain ⟨⟨d9, x8, d10, x9, d11, d12, x10⟩, hk4, hs⟩ := hs
 dsimp only at hs
 have hcal4 := P.state_Decode_1_6 g9 (t + 4) (t + 3) (t + 2) (t + 6) (t + 7) (t + 5) d5 x5 d6 x6 d7 d8 x7 a6 n6 c6 a7 n7 c7 a8 n8 c8 b4 b3 b2 b5 hR6 hR7 hR8 hB3 hB4 hB2 hB6 (by omega) (by omega) (by omega) (by omega) (by omega) (by omega) (by omega) (by omega) (by omega) (by omega) (by omega) (by omega) (by omega) (by omega) (by omega) (by omega) (by omega) (by omega) (by omega) (by omega) (by omega) d9 x8 d10 x9 d11 d12 x10 hk4
 refine WP.callC hcal4 (by kernel_rfl) ?_
 rintro _ g10 st10 ⟨a9, n9, c9, a10, n10, c10, a11, n11, c11, rfl, hR9, hB14, hR10, hR11, hB15, hB16⟩
 replace hB1 := hB1.mono st10 (WL.no (by simp <;> omega))
 replace hB4 := hB4.mono st10 (WL.no (by simp <;> omega))
 replace tot := tot.trans (st10.up (by intro l hl; simp at hl; rcases hl with rfl | rfl | rfl | rfl | rfl <;> first | exact .inr (by omega) | exact .inl (by simp [WL])))
 clear hB3
 have hB3 := hB14
 clear hB14
 clear hB2
 have hB2 := hB15
 clear hB15
 clear hB6
 have hB6 := hB16
 clear hB16
 refine WP.dn ?_
 refine NX.then_n ?_
 refine CP.seqR ?_
 refine WP.alloc (T := 3) (t + 8) [[.int .i64 0]] [1] (by kernel_rfl) rfl ?_
 intro g11 b6 st11 hB17
 replace hB1 := hB1.mono st11 (fun x => x)
 replace hB2 := hB2.mono st11 (fun x => x)
 replace hR10 := hR10.mono st11 (fun x => x) (fun x => x)
 replace hR11 := hR11.mono st11 (fun x => x) (fun x => x)
 replace hB4 := hB4.mono st11 (fun x => x)
 replace hB3 := hB3.mono st11 (fun x => x)
 replace hR9 := hR9.mono st11 (fun x => x)
 replace hB6 := hB6.mono st11 (fun x => x)
 replace tot := tot.trans st11.pure
 refine WP.storeB (ty := 3) (off := 0) (v := .int .i64 0) hB17 [[.int .i64 0]] [1] (by kernel_rfl) (by kernel_rfl) rfl (by kernel_rfl) [[.int .i64 0]] (by kernel_rfl) (.one rfl .nil) ?_
 intro g12 st12 hB18
 replace hB1 := hB1.mono st12 (WL.no1 (by omega))
 replace hB2 := hB2.mono st12 (WL.no1 (by omega))
 replace hR10 := hR10.mono st12 (WL.no1 (by omega)) (WL.no1 (by omega))
 replace hR11 := hR11.mono st12 (WL.no1 (by omega)) (WL.no1 (by omega))
 replace hB4 := hB4.mono st12 (WL.no1 (by omega))
 replace hB3 := hB3.mono st12 (WL.no1 (by omega))
 replace hR9 := hR9.mono st12 (WL.no1 (by omega))
 replace hB6 := hB6.mono st12 (WL.no1 (by omega))
 replace tot := tot.trans (st12.up1 (.inr (by omega)))
 clear hB17
 have hB17 := hB18
 clear hB18
 refine WP.dn ?_
 refine NX.then_n ?_
 refine CP.seqR ?_
 refine WP.stl 2 ?_
 replace hs := Option.bind_eq_some_iff.1 hs
 obtain ⟨⟨d13, x11, x12, x13⟩, hk5, hs⟩ := hs
 dsimp only at hs
 have hcal5 := P.state_Decode_1_7 g12 (t + 4) (t + 3) (t + 8) (t + 5) d9 x8 0 x10 a9 n9 c9 b4 b3 b6 b5 hR9 hB3 hB4 hB17 hB6 (by omega) (by omega) (by omega) (by omega) (by omega) (by omega) (by omega) (by omega) (by omega) (by omega) d13 x11 x12 x13 hk5
 refine WP.callC hcal5 (by kernel_rfl) ?_
 rintro _ g13 st13 ⟨a12, n12, c12, rfl, hR12, hB19, hB20, hB21⟩
 replace hB1 := hB1.mono st13 (WL.no3 (by omega) (by omega) (by omega))
 replace hB2 := hB2.mono st13 (WL.no3 (by omega) (by omega) (by omega))
 replace hR10 := hR10.mono st13 (WL.no3 (by omega) (by omega) (by omega)) (WL.no3 (by omega) (by omega) (by omega))
 replace hR11 := hR11.mono st13 (WL.no3 (by omega) (by omega) (by omega)) (WL.no3 (by omega) (by omega) (by omega))
 replace hB4 := hB4.mono st13 (WL.no3 (by omega) (by omega) (by omega))
 replace tot := tot.trans (st13.up3 (.inr (by omega)) (.inr (by omega)) (.inr (by omega)))
 clear hB3
 have hB3 := hB19
 clear hB19
 clear hB17
 have hB17 := hB20
 clear hB20
 clear hB6
 have hB6 := hB21
 clear hB21
 refine WP.dn ?_
 refine NX.then_n ?_
 refine CP.seq ?_
 refine CP.seqR ?_
 refine WP.loadB (v := .int .i64 x12) hB17 (by kernel_rfl) (by kernel_rfl) ?_
 refine WP.stl 1 ?_
 refine WP.dn ?_
 refine NX.then_n ?_
 refine CP.refr 40 [(2, .pointer (some ⟨b1, 0, none⟩)), (4, .pointer (some ⟨b2, 0, none⟩)), (5, .pointer (some ⟨b4, 0, none⟩)), (6, .pointer (some ⟨b5, 0, none⟩)), (7, .func (.func 50) #[] #[.pointer (some ⟨b5, 0, none⟩), .pointer (some ⟨b4, 0, none⟩)]), (24, .int .i64 x12), (25, .int .i64 0)] (by kernel_rfl) (by kernel_rfl) ?_
 clear ds
 intro ds
 refine CP.block ?_
 generalize fuel = k1 at hs
 refine CP.loop (fun k1 tm g => ∃ (d18 : Arr Int 8) (x19 : Int) (l3 : List Int) (a16 : Option Addr) (n16 : Nat) (c16 : Nat) (l4 : List (List Int)) (a17 : Option Addr) (n17 : Nat) (c17 : Nat) (l5 : List Int) (a18 : Option Addr) (n18 : Nat) (c18 : Nat) (x20 : Int) (x21 : Int) (x22 : Int), Fr 40 [(2, .pointer (some ⟨b1, 0, none⟩)), (4, .pointer (some ⟨b2, 0, none⟩)), (5, .pointer (some ⟨b4, 0, none⟩)), (6, .pointer (some ⟨b5, 0, none⟩)), (7, .func (.func 50) #[] #[.pointer (some ⟨b5, 0, none⟩), .pointer (some ⟨b4, 0, none⟩)]), (24, .int .i64 x12), (25, .int .i64 x22)] tm ∧ Step (fun l => NoM l ∨ t ≤ l) g0 g ∧ Box g (t + 1) b1 61 [encA .u8 (zA 8), [.int .i64 0], [.slice none 0 0], [.slice none 0 0]] [8, 1, 1, 1] ∧ Box g (t + 2) b2 61 [encA .u8 d18, [.int .i64 x19], [.slice a16 n16 c16], [.slice a17 n17 c17]] [8, 1, 1, 1] ∧ OwnS (Kd.int .u8) g (t + 6) 5 a16 n16 c16 l3 ∧ OwnS (Kd.slice 5 (Kd.int .u8)) g (t + 7) 24 a17 n17 c17 l4 ∧ Box g (t + 4) b4 101 [[.pointer (some ⟨b3, 0, none⟩)]] [1] ∧ Box g (t + 3) b3 126 [[.slice a18 n18 c18], [.int .i64 x20]] [1, 1] ∧ RdS (Kd.int .u8) g 5 a18 n18 c18 l5 ∧ Box g (t + 5) b5 43 [[.int .i64 x21]] [1] ∧ F.state_Decode.l1 x12 k1 d18 x19 l3 l4 l5 x20 x21 x22 = some (o1, o2, o3, o4, o5)) k1 ?_ ?_ ?_
 ·exact ⟨d10, x9, d11, a10, n10, c10, d12, a11, n11, c11, d13, a12, n12, c12, x11, x13, 0, ⟨by kernel_rfl, by kernel_rfl⟩, tot, hB1, hB2, hR10, hR11, hB4, hB3, hR12, hB6, hs⟩
 ·rintro tm g ⟨d18, x19, l3, a16, n16, c16, l4, a17, n17, c17, l5, a18, n18, c18, x20, x21, x22, hF, tot, hB1, hB2, hR16, hR17, hB4, hB3, hR18, hB6, hs⟩
  exact absurd hs (by simp [F.state_Decode.l1])
 clear tot hs hB1 hB2 hR10 hR11 hB4 hB3 hR12 hB6
 rintro k1 tm g ⟨d18, x19, l3, a16, n16, c16, l4, a17, n17, c17, l5, a18, n18, c18, x20, x21, x22, hF, tot, hB1, hB2, hR16, hR17, hB4, hB3, hR18, hB6, hs⟩
 clear ds
 obtain ⟨ds, rfl⟩ := hF.open
 clear hF
 unfold F.state_Decode.l1 at hs
 refine CP.seqR ?_
 refine WP.stl 1 ?_
 refine WP.dn ?_
 refine NX.then_n ?_
 refine CP.seq ?_
 refine CP.cond (b := decide (x22 < x12)) (by kernel_rfl) (fun h7 => ?_) (fun h7 => ?_)
 ·replace hs := of_if_t hs h7
  refine CP.skip ?_
  refine NX.then_n ?_
  refine CP.seq ?_
  refine CP.block ?_
  refine CP.region ?_
  refine WP.stl 2 ?_
  replace hs := Option.bind_eq_some_iff.1 hs
  obtain ⟨⟨d24, x32, d25, d26, d27, x33, x34⟩, hk10, hs⟩ := hs
  dsimp only at hs
  have hcal10 := P.state_Decode_1_9 g (t + 2) (t + 6) (t + 7) (t + 4) (t + 3) (t + 5) d18 x19 l3 l4 l5 x20 x21 a16 n16 c16 a17 n17 c17 a18 n18 c18 b2 b4 b3 b5 hR16 hR17 hR18 hB2 hB3 hB4 hB6 (by omega) (by omega) (by omega) (by omega) (by omega) (by omega) (by omega) (by omega) (by omega) (by omega) (by omega) (by omega) (by omega) (by omega) (by omega) (by omega) (by omega) (by omega) (by omega) (by omega) (by omega) d24 x32 d25 d26 d27 x33 x34 hk10
  refine WP.callC hcal10 (by kernel_rfl) ?_
  rintro _ g24 st24 ⟨a25, n25, c25, a26, n26, c26, a27, n27, c27, rfl, hR25, hR26, hB34, hR27, hB35, hB36⟩
  replace hB1 := hB1.mono st24 (WL.no (by simp <;> omega))
  replace hB4 := hB4.mono st24 (WL.no (by simp <;> omega))
  replace tot := tot.trans (st24.up (by intro l hl; simp at hl; rcases hl with rfl | rfl | rfl | rfl | rfl <;> first | exact .inr (by omega) | exact .inl (by simp [WL])))
  clear hB2
  have hB2 := hB34
  clear hB34
  clear hB3
  have hB3 := hB35
  clear hB35
  clear hB6
  have hB6 := hB36
  clear hB36
  refine WP.dn ?_
  refine NX.block_n ?_
  refine NX.then_n ?_
  refine CP.region ?_
  refine WP.stl 2 ?_
  refine WP.dn ?_
  refine NX.post ?_
  exact ⟨d24, x32, d25, a25, n25, c25, d26, a26, n26, c26, d27, a27, n27, c27, x33, x34, (IntKind.i64.wrap (x22 + 1)), ⟨by kernel_rfl, by kernel_rfl⟩, tot, hB1, hB2, hR25, hR26, hB4, hB3, hR27, hB6, hs⟩
 replace hs := of_if_f hs h7
 refine CP.exit ?_
 refine NX.then_e ?_
 refine NX.then_e ?_
 refine NX.block_s ?_
 refine NX.then_n ?_
 refine CP.cut (fun tm g => ∃ (x36 : Int), Fr 40 [(2, .pointer (some ⟨b1, 0, none⟩)), (4, .pointer (some ⟨b2, 0, none⟩)), (6, .pointer (some ⟨b5, 0, none⟩))] tm ∧ Step (fun l => NoM l ∨ t ≤ l) g0 g ∧ Box g (t + 1) b1 61 [encA .u8 (zA 8), [.int .i64 0], [.slice none 0 0], [.slice none 0 0]] [8, 1, 1, 1] ∧ Box g (t + 2) b2 61 [encA .u8 d18, [.int .i64 x19], [.slice a16 n16 c16], [.slice a17 n17 c17]] [8, 1, 1, 1] ∧ OwnS (Kd.int .u8) g (t + 6) 5 a16 n16 c16 l3 ∧ OwnS (Kd.slice 5 (Kd.int .u8)) g (t + 7) 24 a17 n17 c17 l4 ∧ Box g (t + 5) b5 43 [[.int .i64 x36]] [1] ∧ (F.state_Decode.c1 d18 x19 l3 l4 x36) = some (o1, o2, o3, o4, o5)) ?_ ?_
 ·refine CP.seqR ?_
  refine WP.loadB (v := .int .i64 x21) hB6 (by kernel_rfl) (by kernel_rfl) ?_
  refine WP.stl 1 ?_
  refine WP.dn ?_
  refine NX.then_n ?_
  refine CP.cond (b := (x21 == 0)) (by kernel_rfl) (fun h10 => ?_) (fun h10 => ?_)
  ·replace hs := of_if_t hs h10
   refine CP.region ?_
   refine WP.loadB (v := .pointer (some ⟨b3, 0, none⟩)) hB4 (by kernel_rfl) (by kernel_rfl) ?_
   replace hs := Option.bind_eq_some_iff.1 hs
   obtain ⟨x37, hk12, hs⟩ := hs
   have hcal12 := P.octet_Reader_End g (t + 3) l5 x20 a18 n18 c18 b3 hR18 hB3 (by omega) x37 hk12
   refine WP.callC hcal12 (by kernel_rfl) ?_
   rintro _ g32 st32 rfl
   replace hB1 := hB1.mono st32 (fun x => x)
   replace hB2 := hB2.mono st32 (fun x => x)
   replace hR16 := hR16.mono st32 (fun x => x) (fun x => x)
   replace hR17 := hR17.mono st32 (fun x => x) (fun x => x)
   replace hB4 := hB4.mono st32 (fun x => x)
   replace hB3 := hB3.mono st32 (fun x => x)
   replace hR18 := hR18.mono st32 (fun x => x)
   replace hB6 := hB6.mono st32 (fun x => x)
   replace tot := tot.trans st32.pure
   refine WP.storeB (ty := 43) (off := 0) (v := .int .i64 x37) hB6 [[.int .i64 x37]] [1] (by kernel_rfl) (by kernel_rfl) rfl (by kernel_rfl) [[.int .i64 x37]] (by kernel_rfl) (.one rfl .nil) ?_
   intro g33 st33 hB40
   replace hB1 := hB1.mono st33 (WL.no1 (by omega))
   replace hB2 := hB2.mono st33 (WL.no1 (by omega))
   replace hR16 := hR16.mono st33 (WL.no1 (by omega)) (WL.no1 (by omega))
   replace hR17 := hR17.mono st33 (WL.no1 (by omega)) (WL.no1 (by omega))
   replace hB4 := hB4.mono st33 (WL.no1 (by omega))
   replace hB3 := hB3.mono st33 (WL.no1 (by omega))
   replace hR18 := hR18.mono st33 (WL.no1 (by omega))
   replace tot := tot.trans (st33.up1 (.inr (by omega)))
   clear hB6
   have hB6 := hB40
   clear hB40
   refine WP.dn ?_
   refine NX.post ?_
   exact ⟨x37, ⟨by kernel_rfl, by kernel_rfl⟩, tot, hB1, hB2, hR16, hR17, hB6, hs⟩
  replace hs := of_if_f hs h10
  refine CP.skip ?_
  refine NX.post ?_
  exact ⟨x21, ⟨by kernel_rfl, by kernel_rfl⟩, tot, hB1, hB2, hR16, hR17, hB6, hs⟩
 clear tot hs hB1 hB2 hR16 hR17 hB4 hB3 hR18 hB6
 rintro tm g ⟨x36, hF, tot, hB1, hB2, hR16, hR17, hB6, hs⟩
 clear ds
 obtain ⟨ds, rfl⟩ := hF.open
 clear hF
 unfold F.state_Decode.c1 at hs
 refine CP.seq ?_
 refine CP.seqR ?_
 refine WP.loadB (v := .int .i64 x36) hB6 (by kernel_rfl) (by kernel_rfl) ?_
 refine WP.stl 1 ?_
 refine WP.dn ?_
 refine NX.then_n ?_
 refine CP.cond (b := (x36 != 0)) (by kernel_rfl) (fun h9 => ?_) (fun h9 => ?_)
 ·replace hs := of_if_t hs h9
  refine CP.seq ?_
  refine CP.drawL (by kernel_rfl) [0, 1, 2] [[], [], [0], [0, 1, 2]] [⟨none, [0], [], fun l g => Box g (t + 1) b1 61 [encA .u8 (zA 8), [.int .i64 0], [.slice none 0 0], [.slice none 0 0]] [8, 1, 1, 1]⟩, ⟨none, [], [], fun l g => Box g (t + 5) b5 43 [[.int .i64 x36]] [1]⟩, ⟨some 0, [], [0], fun l g => l.getD 0 undef = AG [encA .u8 (zA 8), [.int .i64 0], [.slice none 0 0], [.slice none 0 0]]⟩, ⟨some 1, [], [1], fun l g => l.getD 0 undef = .int .i64 x36⟩, ⟨some 2, [0], [], fun l g => Box g (t + 1) b1 61 [encA .u8 (zA 8), [.int .i64 0], [.slice none 0 0], [.slice none 0 0]] [8, 1, 1, 1]⟩] [[], [], [0]] [(t + 1)] [] [3] (by kernel_rfl) (by simp <;> omega) (by simp) ⟨fun _ _ _ _ st h0 hl hj hB1 => (hB1.mono st (hj 0 (by simp) _ rfl)), fun _ _ _ _ st h0 hl hj hB6 => (hB6.mono st (fun h => absurd (hl _ h) (by simp <;> omega))), fun _ _ _ _ st h0 hl hj e0 => e0, fun _ _ _ _ st h0 hl hj e1 => e1, fun _ _ _ _ st h0 hl hj hB1 => (hB1.mono st (hj 0 (by simp) _ rfl)), tv⟩ ⟨hB1, hB6, tv, tv, tv, tv⟩ (by kernel_rfl) (fun vs => by kernel_rfl) ?_ ?_ ?_
  ·intro j hj
   have hq : j = 0 := by have h : j < 1 := hj; omega
   rcases hq with rfl
   ·intro vs gq stq hl hf
    obtain ⟨v0, v1, v2, rfl⟩ := len_k3 hl
    have e1 := (show v1 = .int .i64 x36 from hf _ (memI 3 rfl) (by kernel_rfl))
    subst e1
    show Option.isSome _ = true
    kernel_rfl
  ·intro j hj
   have hq : j = 0 ∨ j = 1 ∨ j = 2 := by have h : j < 3 := hj; omega
   rcases hq with rfl | rfl | rfl
   ·intro vs gq stq hl hf
    obtain ⟨v0, v1, v2, rfl⟩ := len_k3 hl
    refine WP.buildS (places := #[(0, 10), (10, 1)]) (t := 61) [encA .u8 (zA 8), [.int .i64 0], [.slice none 0 0], [.slice none 0 0]] [8, 1, 1, 1] (by kernel_rfl) (by kernel_rfl) (by simp [len_encA]) (by kernel_rfl) (.nil) ?_
    refine WP.dn (Shown.ok (v := AG [encA .u8 (zA 8), [.int .i64 0], [.slice none 0 0], [.slice none 0 0]]) (by kernel_rfl) (Step.refl _ _) ?_)
    exact ⟨tv, tv, rfl, tv, tv, tv⟩
   ·intro vs gq stq hl hf
    obtain ⟨v0, v1, v2, rfl⟩ := len_k3 hl
    have hB6 := (show Box gq (t + 5) b5 43 [[.int .i64 x36]] [1] from hf _ (memI 1 rfl) (by kernel_rfl))
    refine WP.loadB (v := .int .i64 x36) hB6 (by kernel_rfl) (by kernel_rfl) ?_
    refine WP.dn (Shown.ok (v := .int .i64 x36) (by kernel_rfl) (Step.refl _ _) ?_)
    exact ⟨tv, tv, tv, rfl, tv, tv⟩
   ·intro vs gq stq hl hf
    obtain ⟨v0, v1, v2, rfl⟩ := len_k3 hl
    have hB1 := (show Box gq (t + 1) b1 61 [encA .u8 (zA 8), [.int .i64 0], [.slice none 0 0], [.slice none 0 0]] [8, 1, 1, 1] from hf _ (memI 0 rfl) (by kernel_rfl))
    have e0 := (show v0 = AG [encA .u8 (zA 8), [.int .i64 0], [.slice none 0 0], [.slice none 0 0]] from hf _ (memI 2 rfl) (by kernel_rfl))
    subst e0
    refine WP.storeB (ty := 61) (off := 0) (v := AG [encA .u8 (zA 8), [.int .i64 0], [.slice none 0 0], [.slice none 0 0]]) hB1 [encA .u8 (zA 8), [.int .i64 0], [.slice none 0 0], [.slice none 0 0]] [8, 1, 1, 1] (by kernel_rfl) (by kernel_rfl) (by simp [len_encA]) (by kernel_rfl) [encA .u8 (zA 8), [.int .i64 0], [.slice none 0 0], [.slice none 0 0]] (by kernel_rfl) (.arr (.one rfl (.one rfl (.one rfl .nil)))) ?_
    intro g27 st27 hB38
    refine WP.dn (Shown.o (v := undef) st27 ?_)
    exact ⟨tv, tv, tv, tv, hB38, tv⟩
  intro vs g28 st28 hl hf
  obtain ⟨v0, v1, v2, rfl⟩ := len_k3 hl
  have e1 := (show v1 = .int .i64 x36 from hf _ (memI 3 rfl) (by kernel_rfl))
  subst e1
  have hB1 := (show Box g28 (t + 1) b1 61 [encA .u8 (zA 8), [.int .i64 0], [.slice none 0 0], [.slice none 0 0]] [8, 1, 1, 1] from hf _ (memI 4 rfl) (by kernel_rfl))
  replace tot := tot.trans (st28.up1 (.inr (by omega)))
  refine NX.then_n ?_
  refine CP.refr 40 [(2, .pointer (some ⟨b1, 0, none⟩)), (3, .int .i64 x36)] (by kernel_rfl) (by kernel_rfl) ?_
  clear ds
  intro ds
  refine CP.ret ?_
  refine NX.then_r ?_
  replace hs := Option.some.inj hs
  simp only [Prod.mk.injEq] at hs
  obtain ⟨rfl, rfl, rfl, rfl, rfl⟩ := hs
  exact NX.fin (v := .tuple #[AG [encA .u8 (zA 8), [.int .i64 0], [.slice none 0 0], [.slice none 0 0]], .int .i64 x36]) (Res.two rfl (RV.box (agg := true) (size := 11) (rs := [encA .u8 (zA 8), [.int .i64 0], [.slice none 0 0], [.slice none 0 0]]) hB1 (by kernel_rfl) (by kernel_rfl) (by kernel_rfl) (by kernel_rfl)) (RV.tmp (by kernel_rfl))) tot htL ⟨none, 0, 0, none, 0, 0, rfl, (OwnS.nil _ _ _ _), (OwnS.nil _ _ _ _)⟩
 replace hs := of_if_f hs h9
 refine CP.skip ?_
 refine NX.then_n ?_
 refine CP.seqR ?_
 refine WP.loadB (v := AG [encA .u8 d18, [.int .i64 x19], [.slice a16 n16 c16], [.slice a17 n17 c17]]) hB2 (by kernel_rfl) (by kernel_rfl) ?_
 refine WP.storeB (ty := 61) (off := 0) (v := AG [encA .u8 d18, [.int .i64 x19], [.slice a16 n16 c16], [.slice a17 n17 c17]]) hB1 [encA .u8 d18, [.int .i64 x19], [.slice a16 n16 c16], [.slice a17 n17 c17]] [8, 1, 1, 1] (by kernel_rfl) (by kernel_rfl) (by simp [len_encA]) (by kernel_rfl) [encA .u8 d18, [.int .i64 x19], [.slice a16 n16 c16], [.slice a17 n17 c17]] (by kernel_rfl) (.arr (.one rfl (.one rfl (.one rfl .nil)))) ?_
 intro g29 st29 hB39
 replace hR16 := hR16.mono st29 (WL.no1 (by omega)) (WL.no1 (by omega))
 replace hR17 := hR17.mono st29 (WL.no1 (by omega)) (WL.no1 (by omega))
 replace hB2 := hB2.mono st29 (WL.no1 (by omega))
 replace tot := tot.trans (st29.up1 (.inr (by omega)))
 clear hB1
 have hB1 := hB39
 clear hB39
 refine WP.stl 1 ?_
 refine WP.dn ?_
 refine NX.then_n ?_
 refine CP.ret ?_
 obtain ⟨g30, hw1, st30, hnew⟩ := hR16.relab (by omega) r0
 refine NX.regw hw1 ?_
 replace hB1 := hB1.mono st30 (WL.no1 (by omega))
 replace hR17 := hR17.mono st30 (WL.no1 (by omega)) (WL.no1 (by omega))
 replace tot := tot.trans (st30.up1 (.inr (by omega)))
 clear hR16
 have hR16 := hnew
 clear hnew
 obtain ⟨g31, hw2, st31, hnew⟩ := hR17.relab (by omega) r1
 refine NX.regw hw2 ?_
 replace hB1 := hB1.mono st31 (WL.no1 (by omega))
 replace hR16 := hR16.mono st31 (WL.no1 (by omega)) (WL.no1 (by omega))
 replace tot := tot.trans (st31.up1 (.inr (by omega)))
 clear hR17
 have hR17 := hnew
 clear hnew
 replace hs := Option.some.inj hs
 simp only [Prod.mk.injEq] at hs
 obtain ⟨rfl, rfl, rfl, rfl, rfl⟩ := hs
 exact NX.fin (v := .tuple #[AG [encA .u8 d18, [.int .i64 x19], [.slice a16 n16 c16], [.slice a17 n17 c17]], .int .i64 0]) (Res.two rfl (RV.box (agg := true) (size := 11) (rs := [encA .u8 d18, [.int .i64 x19], [.slice a16 n16 c16], [.slice a17 n17 c17]]) hB1 (by kernel_rfl) (by kernel_rfl) (by kernel_rfl) (by kernel_rfl)) (RV.tmp (by kernel_rfl))) tot htL ⟨a16, n16, c16, a17, n17, c17, rfl, hR16, hR17⟩
def F.baizeref01_number.l2 (l1 : List Int) (x5 : Int) : Nat → Int → Int → Option (Int × Int × Int)
 | 0, _, _ => none
 | k + 1, x11, x12 => (if decide (x12 ≥ 0) = true then (if (0 : Int) ≤ x12 ∧ x12 < (l1.length : Int) then (F.baizeref01_number.l2 l1 x5 k (IntKind.u64.wrap ((IntKind.u64.wrap (128 * x11)) + (IntKind.u64.wrap ((getI l1 x12).tmod 128)))) (IntKind.i64.wrap (x12 - 1))) else none) else (some (x11, (IntKind.i64.wrap (x5 + 1)), 0)))
def F.baizeref01_number.c3 (l1 : List Int) (x5 : Int) (q9 : Bool) : Option (Int × Int × Int) := (if q9 = true then (some (0, 0, 3)) else (F.baizeref01_number.l2 l1 x5 fuel 0 x5))
def F.baizeref01_number.c2 (l1 : List Int) (x5 : Int) (q8 : Bool) : Option (Int × Int × Int) := (if q8 = true then (some (0, 0, 4)) else (if (x5 == 10) = true then (F.baizeref01_number.c3 l1 x5 true) else (if decide (x5 > 0) = true then (if (0 : Int) ≤ x5 ∧ x5 < (l1.length : Int) then (if ((getI l1 x5) == 0) = true then (F.baizeref01_number.c3 l1 x5 true) else (if (x5 == 9) = true then (if (0 : Int) ≤ 9 ∧ 9 < (l1.length : Int) then (F.baizeref01_number.c3 l1 x5 (decide ((getI l1 9) > 1))) else none) else (F.baizeref01_number.c3 l1 x5 false))) else none) else (if (x5 == 9) = true then (if (0 : Int) ≤ 9 ∧ 9 < (l1.length : Int) then (F.baizeref01_number.c3 l1 x5 (decide ((getI l1 9) > 1))) else none) else (F.baizeref01_number.c3 l1 x5 false)))))
def F.baizeref01_number.c1 (nx1 : Int → Option (Int × Int × Int)) (l1 : List Int) (x5 : Int) (q7 : Bool) : Option (Int × Int × Int) := (if q7 = true then (nx1 (IntKind.i64.wrap (x5 + 1))) else (if (x5 == (l1.length : Int)) = true then (F.baizeref01_number.c2 l1 x5 (decide (x5 < 10))) else (F.baizeref01_number.c2 l1 x5 false)))
def F.baizeref01_number.l1 (l1 : List Int) : Nat → Int → Option (Int × Int × Int)
 | 0, _ => none
 | k + 1, x5 => (if decide (x5 < (l1.length : Int)) = true then (if decide (x5 < 10) = true then (if (0 : Int) ≤ x5 ∧ x5 < (l1.length : Int) then (F.baizeref01_number.c1 (F.baizeref01_number.l1 l1 k) l1 x5 (decide ((getI l1 x5) ≥ 128))) else none) else (F.baizeref01_number.c1 (F.baizeref01_number.l1 l1 k) l1 x5 false)) else (F.baizeref01_number.c1 (F.baizeref01_number.l1 l1 k) l1 x5 false))
def F.baizeref01_number (l1 : List Int) : Option (Int × Int × Int) := (F.baizeref01_number.l1 l1 fuel 0)
theorem P.baizeref01_number (g0 : GW) (l1 : List Int) (a1 : Option Addr) (n1 : Nat) (c1 : Nat) (hR1 : RdS (Kd.int .u8) g0 5 a1 n1 c1 l1) (o1 : Int) (o2 : Int) (o3 : Int) (hs : F.baizeref01_number l1 = some (o1, o2, o3)) :
  Calls Try.prog 79 #[.slice a1 n1 c1] g0.w (Ret NoM g0 fun v g => v = .tuple #[.int .u64 o1, .int .i64 o2, .int .i64 o3]) := by
 refine calls_of (args := [.slice a1 n1 c1]) Try.func79 rfl (0) ?_
 intro t ht htL
 refine ⟨_, rfl, ?_⟩
 refine CP.refr 73 [(0, .slice a1 n1 c1)] (by kernel_rfl) (by kernel_rfl) ?_
 intro ds
 have tot : Step (fun l => NoM l ∨ t ≤ l) g0 g0 := Step.refl _ _
 unfold F.baizeref01_number at hs
 refine CP.seqR ?_
 refine WP.stl 3 ?_
 refine WP.dn ?_
 refine NX.then_n ?_
 refine CP.seqR ?_
 refine WP.stl 1 ?_
 refine WP.dn ?_
 refine NX.then_n ?_
 refine CP.seq ?_
 refine CP.block ?_
 generalize fuel = k1 at hs
 refine CP.loop (fun k1 tm g => ∃ (x5 : Int), Fr 73 [(0, .slice a1 n1 c1), (5, .int .i64 x5)] tm ∧ Step (fun l => NoM l ∨ t ≤ l) g0 g ∧ RdS (Kd.int .u8) g 5 a1 n1 c1 l1 ∧ F.baizeref01_number.l1 l1 k1 x5 = some (o1, o2, o3)) k1 ?_ ?_ ?_
 ·exact ⟨0, ⟨by kernel_rfl, by kernel_rfl⟩, tot, hR1, hs⟩
 ·rintro tm g ⟨x5, hF, tot, hR1, hs⟩
  exact absurd hs (by simp [F.baizeref01_number.l1])
 clear tot hs hR1
 rintro k1 tm g ⟨x5, hF, tot, hR1, hs⟩
 clear ds
 obtain ⟨ds, rfl⟩ := hF.open
 clear hF
 unfold F.baizeref01_number.l1 at hs
 refine CP.seq ?_
 refine CP.cut (fun tm g => ∃ (q7 : Bool), Fr 73 [(0, .slice a1 n1 c1), (5, .int .i64 x5), (22, .bool q7)] tm ∧ Step (fun l => NoM l ∨ t ≤ l) g0 g ∧ RdS (Kd.int .u8) g 5 a1 n1 c1 l1 ∧ (F.baizeref01_number.c1 (F.baizeref01_number.l1 l1 k1) l1 x5 q7) = some (o1, o2, o3)) ?_ ?_
 ·refine CP.region ?_
  refine WP.stl 2 ?_
  refine WP.len (a := a1) (cp := c1) hR1.len (by kernel_rfl) ?_
  refine WP.stl 2 ?_
  refine WP.guard 12 (b := decide (x5 < (l1.length : Int))) (by kernel_rfl) (fun h47 => ?_) (fun h47 => ?_)
  ·replace hs := of_if_t hs h47
   refine WP.stl 4 ?_
   refine WP.guard 16 (b := decide (x5 < 10)) (by kernel_rfl) (fun h48 => ?_) (fun h48 => ?_)
   ·replace hs := of_if_t hs h48
    refine WP.stl 2 ?_
    by_cases hc23 : (0 : Int) ≤ x5 ∧ x5 < (l1.length : Int)
    case neg => rw [if_neg hc23] at hs; cases hs
    replace hs := of_if_p hs hc23
    obtain ⟨b23, u23, ha23⟩ := hR1.at hc23
    refine WP.indexA (t := 24) (e := 5) (sz := 1) (cap := c1) (k := .i64) (i := x5) hR1.len ha23 (by kernel_rfl) (by kernel_rfl) hc23 ?_
    obtain ⟨cs23, hcR23, hcV23⟩ := hR1.src.view (getI_some hc23) ha23
    replace hcR23 := Kd.o_int hcR23
    refine WP.loadV [[.int .u8 (getI l1 x5)]] [1] hcV23 hcR23 rfl (f := 0) (ty := 5) (agg := false) (size := 1) (rs := [[.int .u8 (getI l1 x5)]]) (v := .int .u8 (getI l1 x5)) (by kernel_rfl) (by kernel_rfl) (by kernel_rfl) (by kernel_rfl) ?_
    refine WP.stl 2 ?_
    refine WP.dn ?_
    refine NX.post ?_
    exact ⟨decide ((getI l1 x5) ≥ 128), ⟨by kernel_rfl, by kernel_rfl⟩, tot, hR1, hs⟩
   replace hs := of_if_f hs h48
   refine WP.stl 6 ?_
   refine WP.dn ?_
   refine NX.post ?_
   exact ⟨false, ⟨by kernel_rfl, by kernel_rfl⟩, tot, hR1, hs⟩
  replace hs := of_if_f hs h47
  refine WP.stl 10 ?_
  refine WP.dn ?_
  refine NX.post ?_
  exact ⟨false, ⟨by kernel_rfl, by kernel_rfl⟩, tot, hR1, hs⟩
 clear tot hs hR1
 rintro tm g ⟨q7, hF, tot, hR1, hs⟩
 clear ds
 obtain ⟨ds, rfl⟩ := hF.open
 clear hF
 unfold F.baizeref01_number.c1 at hs
 refine CP.cond (b := q7) (by kernel_rfl) (fun h29 => ?_) (fun h29 => ?_)
 ·replace hs := of_if_t hs h29
  refine CP.skip ?_
  refine NX.then_n ?_
  refine CP.block ?_
  refine CP.region ?_
  refine WP.stl 3 ?_
  refine WP.dn ?_
  refine NX.block_n ?_
  refine NX.post ?_
  exact ⟨(IntKind.i64.wrap (x5 + 1)), ⟨by kernel_rfl, by kernel_rfl⟩, tot, hR1, hs⟩
 replace hs := of_if_f hs h29
 refine CP.exit ?_
 refine NX.then_e ?_
 refine NX.then_e ?_
 refine NX.block_s ?_
 refine NX.then_n ?_
 refine CP.seq ?_
 refine CP.cut (fun tm g => ∃ (q8 : Bool), Fr 73 [(0, .slice a1 n1 c1), (5, .int .i64 x5), (32, .bool q8)] tm ∧ Step (fun l => NoM l ∨ t ≤ l) g0 g ∧ RdS (Kd.int .u8) g 5 a1 n1 c1 l1 ∧ (F.baizeref01_number.c2 l1 x5 q8) = some (o1, o2, o3)) ?_ ?_
 ·refine CP.region ?_
  refine WP.stl 2 ?_
  refine WP.len (a := a1) (cp := c1) hR1.len (by kernel_rfl) ?_
  refine WP.stl 2 ?_
  refine WP.guard 29 (b := (x5 == (l1.length : Int))) (by kernel_rfl) (fun h46 => ?_) (fun h46 => ?_)
  ·replace hs := of_if_t hs h46
   refine WP.stl 3 ?_
   refine WP.dn ?_
   refine NX.post ?_
   exact ⟨decide (x5 < 10), ⟨by kernel_rfl, by kernel_rfl⟩, tot, hR1, hs⟩
  replace hs := of_if_f hs h46
  refine WP.stl 3 ?_
  refine WP.dn ?_
  refine NX.post ?_
  exact ⟨false, ⟨by kernel_rfl, by kernel_rfl⟩, tot, hR1, hs⟩
 clear tot hs hR1
 rintro tm g ⟨q8, hF, tot, hR1, hs⟩
 clear ds
 obtain ⟨ds, rfl⟩ := hF.open
 clear hF
 unfold F.baizeref01_number.c2 at hs
 refine CP.cond (b := q8) (by kernel_rfl) (fun h31 => ?_) (fun h31 => ?_)
 ·replace hs := of_if_t hs h31
  refine CP.seqR ?_
  refine WP.stl 3 ?_
  refine WP.dn ?_
  refine NX.then_n ?_
  refine CP.ret ?_
  refine NX.then_r ?_
  replace hs := Option.some.inj hs
  simp only [Prod.mk.injEq] at hs
  obtain ⟨rfl, rfl, rfl⟩ := hs
  exact NX.fin (v := .tuple #[.int .u64 0, .int .i64 0, .int .i64 4]) (Res.still (by kernel_rfl)) tot htL rfl
 replace hs := of_if_f hs h31
 refine CP.skip ?_
 refine NX.then_n ?_
 refine CP.seq ?_
 refine CP.cut (fun tm g => ∃ (q9 : Bool), Fr 73 [(0, .slice a1 n1 c1), (5, .int .i64 x5), (55, .bool q9)] tm ∧ Step (fun l => NoM l ∨ t ≤ l) g0 g ∧ RdS (Kd.int .u8) g 5 a1 n1 c1 l1 ∧ (F.baizeref01_number.c3 l1 x5 q9) = some (o1, o2, o3)) ?_ ?_
 ·refine CP.region ?_
  refine WP.stl 3 ?_
  refine WP.guard 35 (b := (x5 == 10)) (by kernel_rfl) (fun h41 => ?_) (fun h41 => ?_)
  ·replace hs := of_if_t hs h41
   refine WP.stl 20 ?_
   refine WP.dn ?_
   refine NX.post ?_
   exact ⟨true, ⟨by kernel_rfl, by kernel_rfl⟩, tot, hR1, hs⟩
  replace hs := of_if_f hs h41
  refine WP.stl 3 ?_
  refine WP.guard 38 (b := decide (x5 > 0)) (by kernel_rfl) (fun h42 => ?_) (fun h42 => ?_)
  ·replace hs := of_if_t hs h42
   refine WP.stl 2 ?_
   by_cases hc20 : (0 : Int) ≤ x5 ∧ x5 < (l1.length : Int)
   case neg => rw [if_neg hc20] at hs; cases hs
   replace hs := of_if_p hs hc20
   obtain ⟨b20, u20, ha20⟩ := hR1.at hc20
   refine WP.indexA (t := 24) (e := 5) (sz := 1) (cap := c1) (k := .i64) (i := x5) hR1.len ha20 (by kernel_rfl) (by kernel_rfl) hc20 ?_
   obtain ⟨cs20, hcR20, hcV20⟩ := hR1.src.view (getI_some hc20) ha20
   replace hcR20 := Kd.o_int hcR20
   refine WP.loadV [[.int .u8 (getI l1 x5)]] [1] hcV20 hcR20 rfl (f := 0) (ty := 5) (agg := false) (size := 1) (rs := [[.int .u8 (getI l1 x5)]]) (v := .int .u8 (getI l1 x5)) (by kernel_rfl) (by kernel_rfl) (by kernel_rfl) (by kernel_rfl) ?_
   refine WP.stl 4 ?_
   refine WP.guard 46 (b := ((getI l1 x5) == 0)) (by kernel_rfl) (fun h43 => ?_) (fun h43 => ?_)
   ·replace hs := of_if_t hs h43
    refine WP.stl 9 ?_
    refine WP.dn ?_
    refine NX.post ?_
    exact ⟨true, ⟨by kernel_rfl, by kernel_rfl⟩, tot, hR1, hs⟩
   replace hs := of_if_f hs h43
   refine WP.stl 3 ?_
   refine WP.guard 49 (b := (x5 == 9)) (by kernel_rfl) (fun h44 => ?_) (fun h44 => ?_)
   ·replace hs := of_if_t hs h44
    refine WP.stl 1 ?_
    by_cases hc21 : (0 : Int) ≤ 9 ∧ 9 < (l1.length : Int)
    case neg => rw [if_neg hc21] at hs; cases hs
    replace hs := of_if_p hs hc21
    obtain ⟨b21, u21, ha21⟩ := hR1.at hc21
    refine WP.indexA (t := 24) (e := 5) (sz := 1) (cap := c1) (k := .i64) (i := 9) hR1.len ha21 (by kernel_rfl) (by kernel_rfl) hc21 ?_
    obtain ⟨cs21, hcR21, hcV21⟩ := hR1.src.view (getI_some hc21) ha21
    replace hcR21 := Kd.o_int hcR21
    refine WP.loadV [[.int .u8 (getI l1 9)]] [1] hcV21 hcR21 rfl (f := 0) (ty := 5) (agg := false) (size := 1) (rs := [[.int .u8 (getI l1 9)]]) (v := .int .u8 (getI l1 9)) (by kernel_rfl) (by kernel_rfl) (by kernel_rfl) (by kernel_rfl) ?_
    refine WP.stl 3 ?_
    refine WP.dn ?_
    refine NX.post ?_
    exact ⟨decide ((getI l1 9) > 1), ⟨by kernel_rfl, by kernel_rfl⟩, tot, hR1, hs⟩
   replace hs := of_if_f hs h44
   refine WP.stl 6 ?_
   refine WP.dn ?_
   refine NX.post ?_
   exact ⟨false, ⟨by kernel_rfl, by kernel_rfl⟩, tot, hR1, hs⟩
  replace hs := of_if_f hs h42
  refine WP.stl 11 ?_
  refine WP.guard 49 (b := (x5 == 9)) (by kernel_rfl) (fun h45 => ?_) (fun h45 => ?_)
  ·replace hs := of_if_t hs h45
   refine WP.stl 1 ?_
   by_cases hc22 : (0 : Int) ≤ 9 ∧ 9 < (l1.length : Int)
   case neg => rw [if_neg hc22] at hs; cases hs
   replace hs := of_if_p hs hc22
   obtain ⟨b22, u22, ha22⟩ := hR1.at hc22
   refine WP.indexA (t := 24) (e := 5) (sz := 1) (cap := c1) (k := .i64) (i := 9) hR1.len ha22 (by kernel_rfl) (by kernel_rfl) hc22 ?_
   obtain ⟨cs22, hcR22, hcV22⟩ := hR1.src.view (getI_some hc22) ha22
   replace hcR22 := Kd.o_int hcR22
   refine WP.loadV [[.int .u8 (getI l1 9)]] [1] hcV22 hcR22 rfl (f := 0) (ty := 5) (agg := false) (size := 1) (rs := [[.int .u8 (getI l1 9)]]) (v := .int .u8 (getI l1 9)) (by kernel_rfl) (by kernel_rfl) (by kernel_rfl) (by kernel_rfl) ?_
   refine WP.stl 3 ?_
   refine WP.dn ?_
   refine NX.post ?_
   exact ⟨decide ((getI l1 9) > 1), ⟨by kernel_rfl, by kernel_rfl⟩, tot, hR1, hs⟩
  replace hs := of_if_f hs h45
  refine WP.stl 6 ?_
  refine WP.dn ?_
  refine NX.post ?_
  exact ⟨false, ⟨by kernel_rfl, by kernel_rfl⟩, tot, hR1, hs⟩
 clear tot hs hR1
 rintro tm g ⟨q9, hF, tot, hR1, hs⟩
 clear ds
 obtain ⟨ds, rfl⟩ := hF.open
 clear hF
 unfold F.baizeref01_number.c3 at hs
 refine CP.cond (b := q9) (by kernel_rfl) (fun h37 => ?_) (fun h37 => ?_)
 ·replace hs := of_if_t hs h37
  refine CP.seqR ?_
  refine WP.stl 3 ?_
  refine WP.dn ?_
  refine NX.then_n ?_
  refine CP.ret ?_
  refine NX.then_r ?_
  replace hs := Option.some.inj hs
  simp only [Prod.mk.injEq] at hs
  obtain ⟨rfl, rfl, rfl⟩ := hs
  exact NX.fin (v := .tuple #[.int .u64 0, .int .i64 0, .int .i64 3]) (Res.still (by kernel_rfl)) tot htL rfl
 replace hs := of_if_f hs h37
 refine CP.skip ?_
 refine NX.then_n ?_
 refine CP.seqR ?_
 refine WP.stl 1 ?_
 refine WP.dn ?_
 refine NX.then_n ?_
 refine CP.seq ?_
 refine CP.seqR ?_
 refine WP.stl 2 ?_
 refine WP.dn ?_
 refine NX.then_n ?_
 refine CP.block ?_
 generalize fuel = k2 at hs
 refine CP.loop (fun k2 tm g => ∃ (x11 : Int) (x12 : Int), Fr 73 [(0, .slice a1 n1 c1), (5, .int .i64 x5), (6, .int .u64 x11), (7, .int .i64 x12)] tm ∧ Step (fun l => NoM l ∨ t ≤ l) g0 g ∧ RdS (Kd.int .u8) g 5 a1 n1 c1 l1 ∧ F.baizeref01_number.l2 l1 x5 k2 x11 x12 = some (o1, o2, o3)) k2 ?_ ?_ ?_
 ·exact ⟨0, x5, ⟨by kernel_rfl, by kernel_rfl⟩, tot, hR1, hs⟩
 ·rintro tm g ⟨x11, x12, hF, tot, hR1, hs⟩
  exact absurd hs (by simp [F.baizeref01_number.l2])
 clear tot hs hR1
 rintro k2 tm g ⟨x11, x12, hF, tot, hR1, hs⟩
 clear ds
 obtain ⟨ds, rfl⟩ := hF.open
 clear hF
 unfold F.baizeref01_number.l2 at hs
 refine CP.seq ?_
 refine CP.seqR ?_
 refine WP.stl 2 ?_
 refine WP.dn ?_
 refine NX.then_n ?_
 refine CP.cond (b := decide (x12 ≥ 0)) (by kernel_rfl) (fun h40 => ?_) (fun h40 => ?_)
 ·replace hs := of_if_t hs h40
  refine CP.skip ?_
  refine NX.then_n ?_
  refine CP.seq ?_
  refine CP.block ?_
  refine CP.region ?_
  refine WP.stl 4 ?_
  by_cases hc19 : (0 : Int) ≤ x12 ∧ x12 < (l1.length : Int)
  case neg => rw [if_neg hc19] at hs; cases hs
  replace hs := of_if_p hs hc19
  obtain ⟨b19, u19, ha19⟩ := hR1.at hc19
  refine WP.indexA (t := 24) (e := 5) (sz := 1) (cap := c1) (k := .i64) (i := x12) hR1.len ha19 (by kernel_rfl) (by kernel_rfl) hc19 ?_
  obtain ⟨cs19, hcR19, hcV19⟩ := hR1.src.view (getI_some hc19) ha19
  replace hcR19 := Kd.o_int hcR19
  refine WP.loadV [[.int .u8 (getI l1 x12)]] [1] hcV19 hcR19 rfl (f := 0) (ty := 5) (agg := false) (size := 1) (rs := [[.int .u8 (getI l1 x12)]]) (v := .int .u8 (getI l1 x12)) (by kernel_rfl) (by kernel_rfl) (by kernel_rfl) (by kernel_rfl) ?_
  refine WP.stl 4 ?_
  refine WP.dn ?_
  refine NX.block_n ?_
  refine NX.then_n ?_
  refine CP.region ?_
  refine WP.stl 3 ?_
  refine WP.dn ?_
  refine NX.post ?_
  exact ⟨(IntKind.u64.wrap ((IntKind.u64.wrap (128 * x11)) + (IntKind.u64.wrap ((getI l1 x12).tmod 128)))), (IntKind.i64.wrap (x12 - 1)), ⟨by kernel_rfl, by kernel_rfl⟩, tot, hR1, hs⟩
 replace hs := of_if_f hs h40
 refine CP.exit ?_
 refine NX.then_e ?_
 refine NX.then_e ?_
 refine NX.block_s ?_
 refine NX.then_n ?_
 refine CP.seqR ?_
 refine WP.stl 6 ?_
 refine WP.dn ?_
 refine NX.then_n ?_
 refine CP.ret ?_
 replace hs := Option.some.inj hs
 simp only [Prod.mk.injEq] at hs
 obtain ⟨rfl, rfl, rfl⟩ := hs
 exact NX.fin (v := .tuple #[.int .u64 x11, .int .i64 (IntKind.i64.wrap (x5 + 1)), .int .i64 0]) (Res.still (by kernel_rfl)) tot htL rfl
def F.baizeref01_Fail (l1 : List Int) (x1 : Int) (x2 : Int) (x3 : Int) : Option ((List Int) × Int × Int) := (some (l1, x1, x3))
theorem P.baizeref01_Fail (g0 : GW) (l1 : List Int) (x1 : Int) (x2 : Int) (x3 : Int) (a1 : Option Addr) (n1 : Nat) (c1 : Nat) (hR1 : RdS (Kd.int .u8) g0 5 a1 n1 c1 l1) (o1 : List Int) (o2 : Int) (o3 : Int) (hs : F.baizeref01_Fail l1 x1 x2 x3 = some (o1, o2, o3)) :
  Calls Try.prog 78 #[AG [[.slice a1 n1 c1], [.int .i64 x1], [.int .i64 x2]], .int .i64 x3] g0.w (Ret NoM g0 fun v g => ∃ (a_1 : Option Addr) (n_1 : Nat) (c_1 : Nat), v = AG [[.slice a_1 n_1 c_1], [.int .i64 o2], [.int .i64 o3]] ∧ RdS (Kd.int .u8) g 5 a_1 n_1 c_1 o1) := by
 refine calls_of (args := [AG [[.slice a1 n1 c1], [.int .i64 x1], [.int .i64 x2]], .int .i64 x3]) Try.func78 rfl (0) ?_
 intro t ht htL
 refine ⟨_, rfl, ?_⟩
 refine CP.refr 8 [(0, AG [[.slice a1 n1 c1], [.int .i64 x1], [.int .i64 x2]]), (1, .int .i64 x3)] (by kernel_rfl) (by kernel_rfl) ?_
 intro ds
 have tot : Step (fun l => NoM l ∨ t ≤ l) g0 g0 := Step.refl _ _
 unfold F.baizeref01_Fail at hs
 refine CP.seqR ?_
 refine WP.alloc (T := 107) (t + 1) [[.slice a1 n1 c1], [.int .i64 x1], [.int .i64 x2]] [1, 1, 1] (by kernel_rfl) rfl ?_
 intro g1 b1 st1 hB1
 replace hR1 := hR1.mono st1 (fun x => x)
 replace tot := tot.trans st1.pure
 refine WP.alloc (T := 107) (t + 2) [[.slice none 0 0], [.int .i64 0], [.int .i64 0]] [1, 1, 1] (by kernel_rfl) rfl ?_
 intro g2 b2 st2 hB2
 replace hR1 := hR1.mono st2 (fun x => x)
 replace hB1 := hB1.mono st2 (fun x => x)
 replace tot := tot.trans st2.pure
 refine WP.dn ?_
 refine NX.then_n ?_
 refine CP.seqR ?_
 refine WP.stl 2 ?_
 refine WP.storeB (ty := 3) (off := 2) (v := .int .i64 x3) hB1 [[.int .i64 x3]] [1] (by kernel_rfl) (by kernel_rfl) rfl (by kernel_rfl) [[.slice a1 n1 c1], [.int .i64 x1], [.int .i64 x3]] (by kernel_rfl) (.one rfl .nil) ?_
 intro g3 st3 hB3
 replace hR1 := hR1.mono st3 (WL.no1 (by omega))
 replace hB2 := hB2.mono st3 (WL.no1 (by omega))
 replace tot := tot.trans (st3.up1 (.inr (by omega)))
 clear hB1
 have hB1 := hB3
 clear hB3
 refine WP.dn ?_
 refine NX.then_n ?_
 refine CP.seqR ?_
 refine WP.loadB (v := AG [[.slice a1 n1 c1], [.int .i64 x1], [.int .i64 x3]]) hB1 (by kernel_rfl) (by kernel_rfl) ?_
 refine WP.storeB (ty := 107) (off := 0) (v := AG [[.slice a1 n1 c1], [.int .i64 x1], [.int .i64 x3]]) hB2 [[.slice a1 n1 c1], [.int .i64 x1], [.int .i64 x3]] [1, 1, 1] (by kernel_rfl) (by kernel_rfl) rfl (by kernel_rfl) [[.slice a1 n1 c1], [.int .i64 x1], [.int .i64 x3]] (by kernel_rfl) (.one rfl (.one rfl (.one rfl .nil))) ?_
 intro g4 st4 hB4
 replace hB1 := hB1.mono st4 (WL.no1 (by omega))
 replace hR1 := hR1.mono st4 (WL.no1 (by omega))
 replace tot := tot.trans (st4.up1 (.inr (by omega)))
 clear hB2
 have hB2 := hB4
 clear hB4
 refine WP.dn ?_
 refine NX.then_n ?_
 refine CP.ret ?_
 replace hs := Option.some.inj hs
 simp only [Prod.mk.injEq] at hs
 obtain ⟨rfl, rfl, rfl⟩ := hs
 exact NX.fin (v := AG [[.slice a1 n1 c1], [.int .i64 x1], [.int .i64 x3]]) (Res.one rfl (RV.box (agg := true) (size := 3) (rs := [[.slice a1 n1 c1], [.int .i64 x1], [.int .i64 x3]]) hB2 (by kernel_rfl) (by kernel_rfl) (by kernel_rfl) (by kernel_rfl))) tot htL ⟨a1, n1, c1, rfl, hR1⟩
def F.baizeref01_Read.c1 (l1 : List Int) (x1 : Int) (x2 : Int) (x4 : Int) (x5 : Int) (x7 : Int) : Option ((List Int) × Int × Int × Int) := (if (x7 != 0) = true then ((F.baizeref01_Fail l1 x1 x2 x7).bind fun (l2, x8, x9) => (some (l2, x8, x9, 0))) else (some (l1, (IntKind.i64.wrap (x1 + x5)), x2, x4)))
def F.baizeref01_Read.c2 (l1 : List Int) (x1 : Int) (x2 : Int) (x4 : Int) (x5 : Int) (x6 : Int) (q2 : Bool) : Option ((List Int) × Int × Int × Int) := (if q2 = true then (F.baizeref01_Read.c1 l1 x1 x2 x4 x5 2) else (F.baizeref01_Read.c1 l1 x1 x2 x4 x5 x6))
def F.baizeref01_Read (l1 : List Int) (x1 : Int) (x2 : Int) (x3 : Int) : Option ((List Int) × Int × Int × Int) := (if (x2 != 0) = true then (some (l1, x1, x2, 0)) else (if (0 : Int) ≤ x1 ∧ x1 ≤ (l1.length : Int) ∧ (l1.length : Int) ≤ (l1.length : Int) then ((F.baizeref01_number (sliceI l1 x1 (l1.length : Int))).bind fun (x4, x5, x6) => (if (x6 == 0) = true then (F.baizeref01_Read.c2 l1 x1 x2 x4 x5 x6 (decide (x4 > x3))) else (F.baizeref01_Read.c2 l1 x1 x2 x4 x5 x6 false))) else none))
theorem P.baizeref01_Read (g0 : GW) (l1 : List Int) (x1 : Int) (x2 : Int) (x3 : Int) (a1 : Option Addr) (n1 : Nat) (c1 : Nat) (hR1 : RdS (Kd.int .u8) g0 5 a1 n1 c1 l1) (o1 : List Int) (o2 : Int) (o3 : Int) (o4 : Int) (hs : F.baizeref01_Read l1 x1 x2 x3 = some (o1, o2, o3, o4)) :
  Calls Try.prog 61 #[AG [[.slice a1 n1 c1], [.int .i64 x1], [.int .i64 x2]], .int .u64 x3] g0.w (Ret NoM g0 fun v g => ∃ (a_1 : Option Addr) (n_1 : Nat) (c_1 : Nat), v = .tuple #[AG [[.slice a_1 n_1 c_1], [.int .i64 o2], [.int .i64 o3]], .int .u64 o4] ∧ RdS (Kd.int .u8) g 5 a_1 n_1 c_1 o1) := by
 refine calls_of (args := [AG [[.slice a1 n1 c1], [.int .i64 x1], [.int .i64 x2]], .int .u64 x3]) Try.func61 rfl (0) ?_
 intro t ht htL
 refine ⟨_, rfl, ?_⟩
 refine CP.refr 42 [(0, AG [[.slice a1 n1 c1], [.int .i64 x1], [.int .i64 x2]]), (1, .int .u64 x3)] (by kernel_rfl) (by kernel_rfl) ?_
 intro ds
 have tot : Step (fun l => NoM l ∨ t ≤ l) g0 g0 := Step.refl _ _
 unfold F.baizeref01_Read at hs
 refine CP.seqR ?_
 refine WP.alloc (T := 107) (t + 1) [[.slice a1 n1 c1], [.int .i64 x1], [.int .i64 x2]] [1, 1, 1] (by kernel_rfl) rfl ?_
 intro g1 b1 st1 hB1
 replace hR1 := hR1.mono st1 (fun x => x)
 replace tot := tot.trans st1.pure
 refine WP.alloc (T := 107) (t + 2) [[.slice none 0 0], [.int .i64 0], [.int .i64 0]] [1, 1, 1] (by kernel_rfl) rfl ?_
 intro g2 b2 st2 hB2
 replace hR1 := hR1.mono st2 (fun x => x)
 replace hB1 := hB1.mono st2 (fun x => x)
 replace tot := tot.trans st2.pure
 refine WP.stl 1 ?_
 refine WP.dn ?_
 refine NX.then_n ?_
 refine CP.seq ?_
 refine CP.seqR ?_
 refine WP.stl 1 ?_
 refine WP.loadB (v := .int .i64 x2) hB1 (by kernel_rfl) (by kernel_rfl) ?_
 refine WP.stl 1 ?_
 refine WP.dn ?_
 refine NX.then_n ?_
 refine CP.cond (b := (x2 != 0)) (by kernel_rfl) (fun h1 => ?_) (fun h1 => ?_)
 ·replace hs := of_if_t hs h1
  refine CP.seqR ?_
  refine WP.loadB (v := AG [[.slice a1 n1 c1], [.int .i64 x1], [.int .i64 x2]]) hB1 (by kernel_rfl) (by kernel_rfl) ?_
  refine WP.storeB (ty := 107) (off := 0) (v := AG [[.slice a1 n1 c1], [.int .i64 x1], [.int .i64 x2]]) hB2 [[.slice a1 n1 c1], [.int .i64 x1], [.int .i64 x2]] [1, 1, 1] (by kernel_rfl) (by kernel_rfl) rfl (by kernel_rfl) [[.slice a1 n1 c1], [.int .i64 x1], [.int .i64 x2]] (by kernel_rfl) (.one rfl (.one rfl (.one rfl .nil))) ?_
  intro g3 st3 hB3
  replace hB1 := hB1.mono st3 (WL.no1 (by omega))
  replace hR1 := hR1.mono st3 (WL.no1 (by omega))
  replace tot := tot.trans (st3.up1 (.inr (by omega)))
  clear hB2
  have hB2 := hB3
  clear hB3
  refine WP.stl 1 ?_
  refine WP.dn ?_
  refine NX.then_n ?_
  refine CP.ret ?_
  refine NX.then_r ?_
  replace hs := Option.some.inj hs
  simp only [Prod.mk.injEq] at hs
  obtain ⟨rfl, rfl, rfl, rfl⟩ := hs
  exact NX.fin (v := .tuple #[AG [[.slice a1 n1 c1], [.int .i64 x1], [.int .i64 x2]], .int .u64 0]) (Res.two rfl (RV.box (agg := true) (size := 3) (rs := [[.slice a1 n1 c1], [.int .i64 x1], [.int .i64 x2]]) hB2 (by kernel_rfl) (by kernel_rfl) (by kernel_rfl) (by kernel_rfl)) (RV.tmp (by kernel_rfl))) tot htL ⟨a1, n1, c1, rfl, hR1⟩
 replace hs := of_if_f hs h1
 refine CP.skip ?_
 refine NX.then_n ?_
 refine CP.seqR ?_
 refine WP.stl 1 ?_
 refine WP.loadB (v := .slice a1 n1 c1) hB1 (by kernel_rfl) (by kernel_rfl) ?_
 refine WP.stl 1 ?_
 refine WP.loadB (v := .int .i64 x1) hB1 (by kernel_rfl) (by kernel_rfl) ?_
 by_cases hc1 : (0 : Int) ≤ x1 ∧ x1 ≤ (l1.length : Int) ∧ (l1.length : Int) ≤ (l1.length : Int)
 case neg => rw [if_neg hc1] at hs; cases hs
 replace hs := of_if_p hs hc1
 refine WP.sliceR (lo := some (.int .i64 x1)) (hi := none) hR1 x1 (l1.length : Int) (by kernel_rfl) (.inr ⟨_, rfl⟩) (.inl ⟨rfl, rfl⟩) hc1 ?_
 intro a2 c2 hR2
 replace hs := Option.bind_eq_some_iff.1 hs
 obtain ⟨⟨x4, x5, x6⟩, hk1, hs⟩ := hs
 dsimp only at hs
 have hcal1 := P.baizeref01_number g2 (sliceI l1 x1 (l1.length : Int)) a2 ((l1.length : Int).toNat - x1.toNat) c2 hR2 x4 x5 x6 hk1
 refine WP.callC hcal1 (by kernel_rfl) ?_
 rintro _ g4 st4 rfl
 replace hB1 := hB1.mono st4 (fun x => x)
 replace hR1 := hR1.mono st4 (fun x => x)
 replace hB2 := hB2.mono st4 (fun x => x)
 replace hR2 := hR2.mono st4 (fun x => x)
 replace tot := tot.trans st4.pure
 refine WP.stl 7 ?_
 refine WP.dn ?_
 refine NX.then_n ?_
 refine CP.refr 42 [(1, .int .u64 x3), (2, .pointer (some ⟨b1, 0, none⟩)), (4, .pointer (some ⟨b2, 0, none⟩)), (6, .int .u64 x4), (7, .int .i64 x5), (8, .int .i64 x6)] (by kernel_rfl) (by kernel_rfl) ?_
 clear ds
 intro ds
 refine CP.cut (fun tm g => ∃ (x7 : Int), Fr 42 [(2, .pointer (some ⟨b1, 0, none⟩)), (4, .pointer (some ⟨b2, 0, none⟩)), (6, .int .u64 x4), (7, .int .i64 x5), (8, .int .i64 x7)] tm ∧ Step (fun l => NoM l ∨ t ≤ l) g0 g ∧ Box g (t + 1) b1 107 [[.slice a1 n1 c1], [.int .i64 x1], [.int .i64 x2]] [1, 1, 1] ∧ RdS (Kd.int .u8) g 5 a1 n1 c1 l1 ∧ Box g (t + 2) b2 107 [[.slice none 0 0], [.int .i64 0], [.int .i64 0]] [1, 1, 1] ∧ (F.baizeref01_Read.c1 l1 x1 x2 x4 x5 x7) = some (o1, o2, o3, o4)) ?_ ?_
 ·refine CP.cut (fun tm g => ∃ (q2 : Bool), Fr 42 [(2, .pointer (some ⟨b1, 0, none⟩)), (4, .pointer (some ⟨b2, 0, none⟩)), (6, .int .u64 x4), (7, .int .i64 x5), (8, .int .i64 x6), (29, .bool q2)] tm ∧ Step (fun l => NoM l ∨ t ≤ l) g0 g ∧ Box g (t + 1) b1 107 [[.slice a1 n1 c1], [.int .i64 x1], [.int .i64 x2]] [1, 1, 1] ∧ RdS (Kd.int .u8) g 5 a1 n1 c1 l1 ∧ Box g (t + 2) b2 107 [[.slice none 0 0], [.int .i64 0], [.int .i64 0]] [1, 1, 1] ∧ (F.baizeref01_Read.c2 l1 x1 x2 x4 x5 x6 q2) = some (o1, o2, o3, o4)) ?_ ?_
  ·refine CP.region ?_
   refine WP.stl 3 ?_
   refine WP.guard 25 (b := (x6 == 0)) (by kernel_rfl) (fun h7 => ?_) (fun h7 => ?_)
   ·replace hs := of_if_t hs h7
    refine WP.stl 4 ?_
    refine WP.dn ?_
    refine NX.post ?_
    exact ⟨decide (x4 > x3), ⟨by kernel_rfl, by kernel_rfl⟩, tot, hB1, hR1, hB2, hs⟩
   replace hs := of_if_f hs h7
   refine WP.stl 4 ?_
   refine WP.dn ?_
   refine NX.post ?_
   exact ⟨false, ⟨by kernel_rfl, by kernel_rfl⟩, tot, hB1, hR1, hB2, hs⟩
  clear tot hs hB1 hR1 hB2
  rintro tm g ⟨q2, hF, tot, hB1, hR1, hB2, hs⟩
  clear ds
  obtain ⟨ds, rfl⟩ := hF.open
  clear hF
  unfold F.baizeref01_Read.c2 at hs
  refine CP.cond (b := q2) (by kernel_rfl) (fun h6 => ?_) (fun h6 => ?_)
  ·replace hs := of_if_t hs h6
   refine CP.region ?_
   refine WP.stl 1 ?_
   refine WP.dn ?_
   refine NX.post ?_
   exact ⟨2, ⟨by kernel_rfl, by kernel_rfl⟩, tot, hB1, hR1, hB2, hs⟩
  replace hs := of_if_f hs h6
  refine CP.skip ?_
  refine NX.post ?_
  exact ⟨x6, ⟨by kernel_rfl, by kernel_rfl⟩, tot, hB1, hR1, hB2, hs⟩
 clear tot hs hB1 hR1 hB2
 rintro tm g ⟨x7, hF, tot, hB1, hR1, hB2, hs⟩
 clear ds
 obtain ⟨ds, rfl⟩ := hF.open
 clear hF
 unfold F.baizeref01_Read.c1 at hs
 refine CP.seq ?_
 refine CP.seqR ?_
 refine WP.stl 2 ?_
 refine WP.dn ?_
 refine NX.then_n ?_
 refine CP.cond (b := (x7 != 0)) (by kernel_rfl) (fun h4 => ?_) (fun h4 => ?_)
 ·replace hs := of_if_t hs h4
  refine CP.seqR ?_
  refine WP.loadB (v := AG [[.slice a1 n1 c1], [.int .i64 x1], [.int .i64 x2]]) hB1 (by kernel_rfl) (by kernel_rfl) ?_
  refine WP.stl 1 ?_
  replace hs := Option.bind_eq_some_iff.1 hs
  obtain ⟨⟨l2, x8, x9⟩, hk2, hs⟩ := hs
  dsimp only at hs
  have hcal2 := P.baizeref01_Fail g l1 x1 x2 x7 a1 n1 c1 hR1 l2 x8 x9 hk2
  refine WP.callC hcal2 (by kernel_rfl) ?_
  rintro _ g5 st5 ⟨a3, n2, c3, rfl, hR3⟩
  replace hB1 := hB1.mono st5 (fun x => x)
  replace hR1 := hR1.mono st5 (fun x => x)
  replace hB2 := hB2.mono st5 (fun x => x)
  replace tot := tot.trans st5.pure
  refine WP.storeB (ty := 107) (off := 0) (v := AG [[.slice a3 n2 c3], [.int .i64 x8], [.int .i64 x9]]) hB2 [[.slice a3 n2 c3], [.int .i64 x8], [.int .i64 x9]] [1, 1, 1] (by kernel_rfl) (by kernel_rfl) rfl (by kernel_rfl) [[.slice a3 n2 c3], [.int .i64 x8], [.int .i64 x9]] (by kernel_rfl) (.one rfl (.one rfl (.one rfl .nil))) ?_
  intro g6 st6 hB4
  replace hB1 := hB1.mono st6 (WL.no1 (by omega))
  replace hR1 := hR1.mono st6 (WL.no1 (by omega))
  replace hR3 := hR3.mono st6 (WL.no1 (by omega))
  replace tot := tot.trans (st6.up1 (.inr (by omega)))
  clear hB2
  have hB2 := hB4
  clear hB4
  refine WP.stl 1 ?_
  refine WP.dn ?_
  refine NX.then_n ?_
  refine CP.ret ?_
  refine NX.then_r ?_
  replace hs := Option.some.inj hs
  simp only [Prod.mk.injEq] at hs
  obtain ⟨rfl, rfl, rfl, rfl⟩ := hs
  exact NX.fin (v := .tuple #[AG [[.slice a3 n2 c3], [.int .i64 x8], [.int .i64 x9]], .int .u64 0]) (Res.two rfl (RV.box (agg := true) (size := 3) (rs := [[.slice a3 n2 c3], [.int .i64 x8], [.int .i64 x9]]) hB2 (by kernel_rfl) (by kernel_rfl) (by kernel_rfl) (by kernel_rfl)) (RV.tmp (by kernel_rfl))) tot htL ⟨a3, n2, c3, rfl, hR3⟩
 replace hs := of_if_f hs h4
 refine CP.skip ?_
 refine NX.then_n ?_
 refine CP.seqR ?_
 refine WP.stl 1 ?_
 refine WP.loadB (v := .int .i64 x1) hB1 (by kernel_rfl) (by kernel_rfl) ?_
 refine WP.stl 3 ?_
 refine WP.storeB (ty := 3) (off := 1) (v := .int .i64 (IntKind.i64.wrap (x1 + x5))) hB1 [[.int .i64 (IntKind.i64.wrap (x1 + x5))]] [1] (by kernel_rfl) (by kernel_rfl) rfl (by kernel_rfl) [[.slice a1 n1 c1], [.int .i64 (IntKind.i64.wrap (x1 + x5))], [.int .i64 x2]] (by kernel_rfl) (.one rfl .nil) ?_
 intro g7 st7 hB5
 replace hR1 := hR1.mono st7 (WL.no1 (by omega))
 replace hB2 := hB2.mono st7 (WL.no1 (by omega))
 replace tot := tot.trans (st7.up1 (.inr (by omega)))
 clear hB1
 have hB1 := hB5
 clear hB5
 refine WP.dn ?_
 refine NX.then_n ?_
 refine CP.seqR ?_
 refine WP.loadB (v := AG [[.slice a1 n1 c1], [.int .i64 (IntKind.i64.wrap (x1 + x5))], [.int .i64 x2]]) hB1 (by kernel_rfl) (by kernel_rfl) ?_
 refine WP.stl 1 ?_
 refine WP.storeB (ty := 107) (off := 0) (v := AG [[.slice a1 n1 c1], [.int .i64 (IntKind.i64.wrap (x1 + x5))], [.int .i64 x2]]) hB2 [[.slice a1 n1 c1], [.int .i64 (IntKind.i64.wrap (x1 + x5))], [.int .i64 x2]] [1, 1, 1] (by kernel_rfl) (by kernel_rfl) rfl (by kernel_rfl) [[.slice a1 n1 c1], [.int .i64 (IntKind.i64.wrap (x1 + x5))], [.int .i64 x2]] (by kernel_rfl) (.one rfl (.one rfl (.one rfl .nil))) ?_
 intro g8 st8 hB6
 replace hB1 := hB1.mono st8 (WL.no1 (by omega))
 replace hR1 := hR1.mono st8 (WL.no1 (by omega))
 replace tot := tot.trans (st8.up1 (.inr (by omega)))
 clear hB2
 have hB2 := hB6
 clear hB6
 refine WP.stl 1 ?_
 refine WP.dn ?_
 refine NX.then_n ?_
 refine CP.ret ?_
 replace hs := Option.some.inj hs
 simp only [Prod.mk.injEq] at hs
 obtain ⟨rfl, rfl, rfl, rfl⟩ := hs
 exact NX.fin (v := .tuple #[AG [[.slice a1 n1 c1], [.int .i64 (IntKind.i64.wrap (x1 + x5))], [.int .i64 x2]], .int .u64 x4]) (Res.two rfl (RV.box (agg := true) (size := 3) (rs := [[.slice a1 n1 c1], [.int .i64 (IntKind.i64.wrap (x1 + x5))], [.int .i64 x2]]) hB2 (by kernel_rfl) (by kernel_rfl) (by kernel_rfl) (by kernel_rfl)) (RV.tmp (by kernel_rfl))) tot htL ⟨a1, n1, c1, rfl, hR1⟩
def F.baizeref01_Some.c1 (l1 : List Int) (x1 : Int) (x2 : Int) (l2 : List Int) (x4 : Int) (x5 : Int) (x6 : Int) (x9 : Int) : Option ((List Int) × Int × Int × (List Int)) := (if decide (x6 > (IntKind.u64.wrap x9)) = true then ((F.baizeref01_Fail l1 x1 x2 2).bind fun (l4, x10, x11) => (some (l4, x10, x11, []))) else (if decide (x6 > (IntKind.u64.wrap (IntKind.i64.wrap ((l2.length : Int) - x4)))) = true then ((F.baizeref01_Fail l1 x1 x2 4).bind fun (l5, x12, x13) => (some (l5, x12, x13, []))) else (if (0 : Int) ≤ x4 ∧ x4 ≤ (IntKind.i64.wrap (x4 + (IntKind.i64.wrap x6))) ∧ (IntKind.i64.wrap (x4 + (IntKind.i64.wrap x6))) ≤ (l2.length : Int) then (if ([] : List Int).length + (sliceI l2 x4 (IntKind.i64.wrap (x4 + (IntKind.i64.wrap x6)))).length ≤ 140737488355328 then (some (l2, (IntKind.i64.wrap (x4 + (IntKind.i64.wrap x6))), x5, (([] : List Int) ++ (sliceI l2 x4 (IntKind.i64.wrap (x4 + (IntKind.i64.wrap x6))))))) else none) else none)))
def F.baizeref01_Some (l1 : List Int) (x1 : Int) (x2 : Int) (x3 : Int) : Option ((List Int) × Int × Int × (List Int)) := (if (x2 != 0) = true then (some (l1, x1, x2, [])) else ((F.baizeref01_Read l1 x1 x2 18446744073709551615).bind fun (l2, x4, x5, x6) => (if (x5 != 0) = true then ((F.baizeref01_Fail l1 x1 x2 x5).bind fun (l3, x7, x8) => (some (l3, x7, x8, []))) else (if decide (x3 < 0) = true then (F.baizeref01_Some.c1 l1 x1 x2 l2 x4 x5 x6 0) else (F.baizeref01_Some.c1 l1 x1 x2 l2 x4 x5 x6 x3)))))
theorem P.baizeref01_Some (g0 : GW) (r0 : Nat) (l1 : List Int) (x1 : Int) (x2 : Int) (x3 : Int) (a1 : Option Addr) (n1 : Nat) (c1 : Nat) (hR1 : RdS (Kd.int .u8) g0 5 a1 n1 c1 l1) (o1 : List Int) (o2 : Int) (o3 : Int) (o4 : List Int) (hs : F.baizeref01_Some l1 x1 x2 x3 = some (o1, o2, o3, o4)) :
  Calls Try.prog 60 #[AG [[.slice a1 n1 c1], [.int .i64 x1], [.int .i64 x2]], .int .i64 x3] g0.w (Ret NoM g0 fun v g => ∃ (a_1 : Option Addr) (n_1 : Nat) (c_1 : Nat) (a_4 : Option Addr) (n_4 : Nat) (c_4 : Nat), v = .tuple #[AG [[.slice a_1 n_1 c_1], [.int .i64 o2], [.int .i64 o3]], .slice a_4 n_4 c_4] ∧ RdS (Kd.int .u8) g 5 a_1 n_1 c_1 o1 ∧ OwnS (Kd.int .u8) g r0 5 a_4 n_4 c_4 o4) := by
 refine calls_of (args := [AG [[.slice a1 n1 c1], [.int .i64 x1], [.int .i64 x2]], .int .i64 x3]) Try.func60 rfl (r0 + 0) ?_
 intro t ht htL
 refine ⟨_, rfl, ?_⟩
 refine CP.refr 64 [(0, AG [[.slice a1 n1 c1], [.int .i64 x1], [.int .i64 x2]]), (1, .int .i64 x3)] (by kernel_rfl) (by kernel_rfl) ?_
 intro ds
 have tot : Step (fun l => NoM l ∨ t ≤ l) g0 g0 := Step.refl _ _
 unfold F.baizeref01_Some at hs
 refine CP.seqR ?_
 refine WP.alloc (T := 107) (t + 1) [[.slice a1 n1 c1], [.int .i64 x1], [.int .i64 x2]] [1, 1, 1] (by kernel_rfl) rfl ?_
 intro g1 b1 st1 hB1
 replace hR1 := hR1.mono st1 (fun x => x)
 replace tot := tot.trans st1.pure
 refine WP.alloc (T := 107) (t + 2) [[.slice none 0 0], [.int .i64 0], [.int .i64 0]] [1, 1, 1] (by kernel_rfl) rfl ?_
 intro g2 b2 st2 hB2
 replace hR1 := hR1.mono st2 (fun x => x)
 replace hB1 := hB1.mono st2 (fun x => x)
 replace tot := tot.trans st2.pure
 refine WP.stl 1 ?_
 refine WP.dn ?_
 refine NX.then_n ?_
 refine CP.seq ?_
 refine CP.seqR ?_
 refine WP.stl 1 ?_
 refine WP.loadB (v := .int .i64 x2) hB1 (by kernel_rfl) (by kernel_rfl) ?_
 refine WP.stl 1 ?_
 refine WP.dn ?_
 refine NX.then_n ?_
 refine CP.cond (b := (x2 != 0)) (by kernel_rfl) (fun h1 => ?_) (fun h1 => ?_)
 ·replace hs := of_if_t hs h1
  refine CP.seqR ?_
  refine WP.loadB (v := AG [[.slice a1 n1 c1], [.int .i64 x1], [.int .i64 x2]]) hB1 (by kernel_rfl) (by kernel_rfl) ?_
  refine WP.storeB (ty := 107) (off := 0) (v := AG [[.slice a1 n1 c1], [.int .i64 x1], [.int .i64 x2]]) hB2 [[.slice a1 n1 c1], [.int .i64 x1], [.int .i64 x2]] [1, 1, 1] (by kernel_rfl) (by kernel_rfl) rfl (by kernel_rfl) [[.slice a1 n1 c1], [.int .i64 x1], [.int .i64 x2]] (by kernel_rfl) (.one rfl (.one rfl (.one rfl .nil))) ?_
  intro g3 st3 hB3
  replace hB1 := hB1.mono st3 (WL.no1 (by omega))
  replace hR1 := hR1.mono st3 (WL.no1 (by omega))
  replace tot := tot.trans (st3.up1 (.inr (by omega)))
  clear hB2
  have hB2 := hB3
  clear hB3
  refine WP.stl 1 ?_
  refine WP.dn ?_
  refine NX.then_n ?_
  refine CP.ret ?_
  refine NX.then_r ?_
  replace hs := Option.some.inj hs
  simp only [Prod.mk.injEq] at hs
  obtain ⟨rfl, rfl, rfl, rfl⟩ := hs
  exact NX.fin (v := .tuple #[AG [[.slice a1 n1 c1], [.int .i64 x1], [.int .i64 x2]], .slice none 0 0]) (Res.two rfl (RV.box (agg := true) (size := 3) (rs := [[.slice a1 n1 c1], [.int .i64 x1], [.int .i64 x2]]) hB2 (by kernel_rfl) (by kernel_rfl) (by kernel_rfl) (by kernel_rfl)) (RV.tmp (by kernel_rfl))) tot htL ⟨a1, n1, c1, none, 0, 0, rfl, hR1, (OwnS.nil _ _ _ _)⟩
 replace hs := of_if_f hs h1
 refine CP.skip ?_
 refine NX.then_n ?_
 refine CP.seqR ?_
 refine WP.loadB (v := AG [[.slice a1 n1 c1], [.int .i64 x1], [.int .i64 x2]]) hB1 (by kernel_rfl) (by kernel_rfl) ?_
 replace hs := Option.bind_eq_some_iff.1 hs
 obtain ⟨⟨l2, x4, x5, x6⟩, hk1, hs⟩ := hs
 dsimp only at hs
 have hcal1 := P.baizeref01_Read g2 l1 x1 x2 18446744073709551615 a1 n1 c1 hR1 l2 x4 x5 x6 hk1
 refine WP.callC hcal1 (by kernel_rfl) ?_
 rintro _ g4 st4 ⟨a2, n2, c2, rfl, hR2⟩
 replace hB1 := hB1.mono st4 (fun x => x)
 replace hR1 := hR1.mono st4 (fun x => x)
 replace hB2 := hB2.mono st4 (fun x => x)
 replace tot := tot.trans st4.pure
 refine WP.stl 3 ?_
 refine WP.alloc (T := 107) (t + 3) [[.slice none 0 0], [.int .i64 0], [.int .i64 0]] [1, 1, 1] (by kernel_rfl) rfl ?_
 intro g5 b3 st5 hB4
 replace hB1 := hB1.mono st5 (fun x => x)
 replace hR1 := hR1.mono st5 (fun x => x)
 replace hB2 := hB2.mono st5 (fun x => x)
 replace hR2 := hR2.mono st5 (fun x => x)
 replace tot := tot.trans st5.pure
 refine WP.storeB (ty := 107) (off := 0) (v := AG [[.slice a2 n2 c2], [.int .i64 x4], [.int .i64 x5]]) hB4 [[.slice a2 n2 c2], [.int .i64 x4], [.int .i64 x5]] [1, 1, 1] (by kernel_rfl) (by kernel_rfl) rfl (by kernel_rfl) [[.slice a2 n2 c2], [.int .i64 x4], [.int .i64 x5]] (by kernel_rfl) (.one rfl (.one rfl (.one rfl .nil))) ?_
 intro g6 st6 hB5
 replace hB1 := hB1.mono st6 (WL.no1 (by omega))
 replace hR1 := hR1.mono st6 (WL.no1 (by omega))
 replace hB2 := hB2.mono st6 (WL.no1 (by omega))
 replace hR2 := hR2.mono st6 (WL.no1 (by omega))
 replace tot := tot.trans (st6.up1 (.inr (by omega)))
 clear hB4
 have hB4 := hB5
 clear hB5
 refine WP.stl 1 ?_
 refine WP.dn ?_
 refine NX.then_n ?_
 refine CP.refr 64 [(1, .int .i64 x3), (2, .pointer (some ⟨b1, 0, none⟩)), (4, .pointer (some ⟨b2, 0, none⟩)), (6, .pointer (some ⟨b3, 0, none⟩)), (7, .int .u64 x6)] (by kernel_rfl) (by kernel_rfl) ?_
 clear ds
 intro ds
 refine CP.seq ?_
 refine CP.seqR ?_
 refine WP.stl 1 ?_
 refine WP.loadB (v := .int .i64 x5) hB4 (by kernel_rfl) (by kernel_rfl) ?_
 refine WP.stl 1 ?_
 refine WP.dn ?_
 refine NX.then_n ?_
 refine CP.cond (b := (x5 != 0)) (by kernel_rfl) (fun h2 => ?_) (fun h2 => ?_)
 ·replace hs := of_if_t hs h2
  refine CP.seqR ?_
  refine WP.loadB (v := AG [[.slice a1 n1 c1], [.int .i64 x1], [.int .i64 x2]]) hB1 (by kernel_rfl) (by kernel_rfl) ?_
  refine WP.stl 1 ?_
  refine WP.loadB (v := .int .i64 x5) hB4 (by kernel_rfl) (by kernel_rfl) ?_
  replace hs := Option.bind_eq_some_iff.1 hs
  obtain ⟨⟨l3, x7, x8⟩, hk2, hs⟩ := hs
  dsimp only at hs
  have hcal2 := P.baizeref01_Fail g6 l1 x1 x2 x5 a1 n1 c1 hR1 l3 x7 x8 hk2
  refine WP.callC hcal2 (by kernel_rfl) ?_
  rintro _ g7 st7 ⟨a3, n3, c3, rfl, hR3⟩
  replace hB1 := hB1.mono st7 (fun x => x)
  replace hR1 := hR1.mono st7 (fun x => x)
  replace hB2 := hB2.mono st7 (fun x => x)
  replace hB4 := hB4.mono st7 (fun x => x)
  replace hR2 := hR2.mono st7 (fun x => x)
  replace tot := tot.trans st7.pure
  refine WP.storeB (ty := 107) (off := 0) (v := AG [[.slice a3 n3 c3], [.int .i64 x7], [.int .i64 x8]]) hB2 [[.slice a3 n3 c3], [.int .i64 x7], [.int .i64 x8]] [1, 1, 1] (by kernel_rfl) (by kernel_rfl) rfl (by kernel_rfl) [[.slice a3 n3 c3], [.int .i64 x7], [.int .i64 x8]] (by kernel_rfl) (.one rfl (.one rfl (.one rfl .nil))) ?_
  intro g8 st8 hB6
  replace hB1 := hB1.mono st8 (WL.no1 (by omega))
  replace hR1 := hR1.mono st8 (WL.no1 (by omega))
  replace hR3 := hR3.mono st8 (WL.no1 (by omega))
  replace hB4 := hB4.mono st8 (WL.no1 (by omega))
  replace hR2 := hR2.mono st8 (WL.no1 (by omega))
  replace tot := tot.trans (st8.up1 (.inr (by omega)))
  clear hB2
  have hB2 := hB6
  clear hB6
  refine WP.stl 1 ?_
  refine WP.dn ?_
  refine NX.then_n ?_
  refine CP.ret ?_
  refine NX.then_r ?_
  replace hs := Option.some.inj hs
  simp only [Prod.mk.injEq] at hs
  obtain ⟨rfl, rfl, rfl, rfl⟩ := hs
  exact NX.fin (v := .tuple #[AG [[.slice a3 n3 c3], [.int .i64 x7], [.int .i64 x8]], .slice none 0 0]) (Res.two rfl (RV.box (agg := true) (size := 3) (rs := [[.slice a3 n3 c3], [.int .i64 x7], [.int .i64 x8]]) hB2 (by kernel_rfl) (by kernel_rfl) (by kernel_rfl) (by kernel_rfl)) (RV.tmp (by kernel_rfl))) tot htL ⟨a3, n3, c3, none, 0, 0, rfl, hR3, (OwnS.nil _ _ _ _)⟩
 replace hs := of_if_f hs h2
 refine CP.skip ?_
 refine NX.then_n ?_
 refine CP.cut (fun tm g => ∃ (x9 : Int), Fr 64 [(1, .int .i64 x9), (2, .pointer (some ⟨b1, 0, none⟩)), (4, .pointer (some ⟨b2, 0, none⟩)), (6, .pointer (some ⟨b3, 0, none⟩)), (7, .int .u64 x6)] tm ∧ Step (fun l => NoM l ∨ t ≤ l) g0 g ∧ Box g (t + 1) b1 107 [[.slice a1 n1 c1], [.int .i64 x1], [.int .i64 x2]] [1, 1, 1] ∧ RdS (Kd.int .u8) g 5 a1 n1 c1 l1 ∧ Box g (t + 2) b2 107 [[.slice none 0 0], [.int .i64 0], [.int .i64 0]] [1, 1, 1] ∧ Box g (t + 3) b3 107 [[.slice a2 n2 c2], [.int .i64 x4], [.int .i64 x5]] [1, 1, 1] ∧ RdS (Kd.int .u8) g 5 a2 n2 c2 l2 ∧ (F.baizeref01_Some.c1 l1 x1 x2 l2 x4 x5 x6 x9) = some (o1, o2, o3, o4)) ?_ ?_
 ·refine CP.seqR ?_
  refine WP.stl 2 ?_
  refine WP.dn ?_
  refine NX.then_n ?_
  refine CP.cond (b := decide (x3 < 0)) (by kernel_rfl) (fun h6 => ?_) (fun h6 => ?_)
  ·replace hs := of_if_t hs h6
   refine CP.region ?_
   refine WP.stl 1 ?_
   refine WP.dn ?_
   refine NX.post ?_
   exact ⟨0, ⟨by kernel_rfl, by kernel_rfl⟩, tot, hB1, hR1, hB2, hB4, hR2, hs⟩
  replace hs := of_if_f hs h6
  refine CP.skip ?_
  refine NX.post ?_
  exact ⟨x3, ⟨by kernel_rfl, by kernel_rfl⟩, tot, hB1, hR1, hB2, hB4, hR2, hs⟩
 clear tot hs hB1 hR1 hB2 hB4 hR2
 rintro tm g ⟨x9, hF, tot, hB1, hR1, hB2, hB4, hR2, hs⟩
 clear ds
 obtain ⟨ds, rfl⟩ := hF.open
 clear hF
 unfold F.baizeref01_Some.c1 at hs
 refine CP.seq ?_
 refine CP.seqR ?_
 refine WP.stl 4 ?_
 refine WP.dn ?_
 refine NX.then_n ?_
 refine CP.cond (b := decide (x6 > (IntKind.u64.wrap x9))) (by kernel_rfl) (fun h4 => ?_) (fun h4 => ?_)
 ·replace hs := of_if_t hs h4
  refine CP.seqR ?_
  refine WP.loadB (v := AG [[.slice a1 n1 c1], [.int .i64 x1], [.int .i64 x2]]) hB1 (by kernel_rfl) (by kernel_rfl) ?_
  replace hs := Option.bind_eq_some_iff.1 hs
  obtain ⟨⟨l4, x10, x11⟩, hk3, hs⟩ := hs
  dsimp only at hs
  have hcal3 := P.baizeref01_Fail g l1 x1 x2 2 a1 n1 c1 hR1 l4 x10 x11 hk3
  refine WP.callC hcal3 (by kernel_rfl) ?_
  rintro _ g9 st9 ⟨a4, n4, c4, rfl, hR4⟩
  replace hB1 := hB1.mono st9 (fun x => x)
  replace hR1 := hR1.mono st9 (fun x => x)
  replace hB2 := hB2.mono st9 (fun x => x)
  replace hB4 := hB4.mono st9 (fun x => x)
  replace hR2 := hR2.mono st9 (fun x => x)
  replace tot := tot.trans st9.pure
  refine WP.storeB (ty := 107) (off := 0) (v := AG [[.slice a4 n4 c4], [.int .i64 x10], [.int .i64 x11]]) hB2 [[.slice a4 n4 c4], [.int .i64 x10], [.int .i64 x11]] [1, 1, 1] (by kernel_rfl) (by kernel_rfl) rfl (by kernel_rfl) [[.slice a4 n4 c4], [.int .i64 x10], [.int .i64 x11]] (by kernel_rfl) (.one rfl (.one rfl (.one rfl .nil))) ?_
  intro g10 st10 hB7
  replace hB1 := hB1.mono st10 (WL.no1 (by omega))
  replace hR1 := hR1.mono st10 (WL.no1 (by omega))
  replace hR4 := hR4.mono st10 (WL.no1 (by omega))
  replace hB4 := hB4.mono st10 (WL.no1 (by omega))
  replace hR2 := hR2.mono st10 (WL.no1 (by omega))
  replace tot := tot.trans (st10.up1 (.inr (by omega)))
  clear hB2
  have hB2 := hB7
  clear hB7
  refine WP.stl 1 ?_
  refine WP.dn ?_
  refine NX.then_n ?_
  refine CP.ret ?_
  refine NX.then_r ?_
  replace hs := Option.some.inj hs
  simp only [Prod.mk.injEq] at hs
  obtain ⟨rfl, rfl, rfl, rfl⟩ := hs
  exact NX.fin (v := .tuple #[AG [[.slice a4 n4 c4], [.int .i64 x10], [.int .i64 x11]], .slice none 0 0]) (Res.two rfl (RV.box (agg := true) (size := 3) (rs := [[.slice a4 n4 c4], [.int .i64 x10], [.int .i64 x11]]) hB2 (by kernel_rfl) (by kernel_rfl) (by kernel_rfl) (by kernel_rfl)) (RV.tmp (by kernel_rfl))) tot htL ⟨a4, n4, c4, none, 0, 0, rfl, hR4, (OwnS.nil _ _ _ _)⟩
 replace hs := of_if_f hs h4
 refine CP.skip ?_
 refine NX.then_n ?_
 refine CP.seq ?_
 refine CP.seqR ?_
 refine WP.stl 2 ?_
 refine WP.loadB (v := .slice a2 n2 c2) hB4 (by kernel_rfl) (by kernel_rfl) ?_
 refine WP.len (a := a2) (cp := c2) hR2.len (by kernel_rfl) ?_
 refine WP.stl 1 ?_
 refine WP.loadB (v := .int .i64 x4) hB4 (by kernel_rfl) (by kernel_rfl) ?_
 refine WP.stl 3 ?_
 refine WP.dn ?_
 refine NX.then_n ?_
 refine CP.refr 64 [(2, .pointer (some ⟨b1, 0, none⟩)), (4, .pointer (some ⟨b2, 0, none⟩)), (6, .pointer (some ⟨b3, 0, none⟩)), (7, .int .u64 x6), (41, .bool (decide (x6 > (IntKind.u64.wrap (IntKind.i64.wrap ((l2.length : Int) - x4))))))] (by kernel_rfl) (by kernel_rfl) ?_
 clear ds
 intro ds
 refine CP.cond (b := decide (x6 > (IntKind.u64.wrap (IntKind.i64.wrap ((l2.length : Int) - x4))))) (by kernel_rfl) (fun h5 => ?_) (fun h5 => ?_)
 ·replace hs := of_if_t hs h5
  refine CP.seqR ?_
  refine WP.loadB (v := AG [[.slice a1 n1 c1], [.int .i64 x1], [.int .i64 x2]]) hB1 (by kernel_rfl) (by kernel_rfl) ?_
  replace hs := Option.bind_eq_some_iff.1 hs
  obtain ⟨⟨l5, x12, x13⟩, hk4, hs⟩ := hs
  dsimp only at hs
  have hcal4 := P.baizeref01_Fail g l1 x1 x2 4 a1 n1 c1 hR1 l5 x12 x13 hk4
  refine WP.callC hcal4 (by kernel_rfl) ?_
  rintro _ g11 st11 ⟨a5, n5, c5, rfl, hR5⟩
  replace hB1 := hB1.mono st11 (fun x => x)
  replace hR1 := hR1.mono st11 (fun x => x)
  replace hB2 := hB2.mono st11 (fun x => x)
  replace hB4 := hB4.mono st11 (fun x => x)
  replace hR2 := hR2.mono st11 (fun x => x)
  replace tot := tot.trans st11.pure
  refine WP.storeB (ty := 107) (off := 0) (v := AG [[.slice a5 n5 c5], [.int .i64 x12], [.int .i64 x13]]) hB2 [[.slice a5 n5 c5], [.int .i64 x12], [.int .i64 x13]] [1, 1, 1] (by kernel_rfl) (by kernel_rfl) rfl (by kernel_rfl) [[.slice a5 n5 c5], [.int .i64 x12], [.int .i64 x13]] (by kernel_rfl) (.one rfl (.one rfl (.one rfl .nil))) ?_
  intro g12 st12 hB8
  replace hB1 := hB1.mono st12 (WL.no1 (by omega))
  replace hR1 := hR1.mono st12 (WL.no1 (by omega))
  replace hR5 := hR5.mono st12 (WL.no1 (by omega))
  replace hB4 := hB4.mono st12 (WL.no1 (by omega))
  replace hR2 := hR2.mono st12 (WL.no1 (by omega))
  replace tot := tot.trans (st12.up1 (.inr (by omega)))
  clear hB2
  have hB2 := hB8
  clear hB8
  refine WP.stl 1 ?_
  refine WP.dn ?_
  refine NX.then_n ?_
  refine CP.ret ?_
  refine NX.then_r ?_
  replace hs := Option.some.inj hs
  simp only [Prod.mk.injEq] at hs
  obtain ⟨rfl, rfl, rfl, rfl⟩ := hs
  exact NX.fin (v := .tuple #[AG [[.slice a5 n5 c5], [.int .i64 x12], [.int .i64 x13]], .slice none 0 0]) (Res.two rfl (RV.box (agg := true) (size := 3) (rs := [[.slice a5 n5 c5], [.int .i64 x12], [.int .i64 x13]]) hB2 (by kernel_rfl) (by kernel_rfl) (by kernel_rfl) (by kernel_rfl)) (RV.tmp (by kernel_rfl))) tot htL ⟨a5, n5, c5, none, 0, 0, rfl, hR5, (OwnS.nil _ _ _ _)⟩
 replace hs := of_if_f hs h5
 refine CP.skip ?_
 refine NX.then_n ?_
 refine CP.seqR ?_
 refine WP.mkSl (kd := (Kd.int .u8)) (t := 24) (e := 5) (bytes := 1) (t + 4) [] ([] : List Int) (by kernel_rfl) (by kernel_rfl) (Nat.le_of_ble_eq_true rfl) (Nat.le_of_ble_eq_true rfl) all_nil (rfl) rfl ?_
 intro g13 a6 st13 hR6
 replace hB2 := hB2.mono st13 (fun x => x)
 replace hB4 := hB4.mono st13 (fun x => x)
 replace hR2 := hR2.mono st13 (fun x => x)
 replace tot := tot.trans st13.pure
 refine WP.stl 1 ?_
 refine WP.loadB (v := .slice a2 n2 c2) hB4 (by kernel_rfl) (by kernel_rfl) ?_
 refine WP.stl 1 ?_
 refine WP.loadB (v := .int .i64 x4) hB4 (by kernel_rfl) (by kernel_rfl) ?_
 refine WP.stl 1 ?_
 refine WP.loadB (v := .int .i64 x4) hB4 (by kernel_rfl) (by kernel_rfl) ?_
 refine WP.stl 3 ?_
 by_cases hc1 : (0 : Int) ≤ x4 ∧ x4 ≤ (IntKind.i64.wrap (x4 + (IntKind.i64.wrap x6))) ∧ (IntKind.i64.wrap (x4 + (IntKind.i64.wrap x6))) ≤ (l2.length : Int)
 case neg => rw [if_neg hc1] at hs; cases hs
 replace hs := of_if_p hs hc1
 refine WP.sliceR (lo := some (.int .i64 x4)) (hi := some (.int .i64 (IntKind.i64.wrap (x4 + (IntKind.i64.wrap x6))))) hR2 x4 (IntKind.i64.wrap (x4 + (IntKind.i64.wrap x6))) (by kernel_rfl) (.inr ⟨_, rfl⟩) (.inr ⟨_, rfl⟩) hc1 ?_
 intro a7 c6 hR7
 by_cases hc2 : ([] : List Int).length + (sliceI l2 x4 (IntKind.i64.wrap (x4 + (IntKind.i64.wrap x6)))).length ≤ 140737488355328
 case neg => rw [if_neg hc2] at hs; cases hs
 replace hs := of_if_p hs hc2
 refine WP.append (kd := (Kd.int .u8)) (t := 24) (e := 5) (bytes := 1) (a2 := a7) (c2 := c6) hR6 hR7.src hR7.len (by kernel_rfl) (by kernel_rfl) (by omega) (by simp only [maxLen]; omega) (by omega) ?_
 intro g14 a8 c7 st14 hR8
 replace hB2 := hB2.mono st14 (WL.no1 (by omega))
 replace hB4 := hB4.mono st14 (WL.no1 (by omega))
 replace hR2 := hR2.mono st14 (WL.no1 (by omega))
 replace hR7 := hR7.mono st14 (WL.no1 (by omega))
 replace tot := tot.trans (st14.up1 (.inr (by omega)))
 refine WP.stl 1 ?_
 refine WP.dn ?_
 refine NX.then_n ?_
 refine CP.refr 64 [(4, .pointer (some ⟨b2, 0, none⟩)), (6, .pointer (some ⟨b3, 0, none⟩)), (7, .int .u64 x6), (8, .slice a8 (0 + ((IntKind.i64.wrap (x4 + (IntKind.i64.wrap x6))).toNat - x4.toNat)) c7)] (by kernel_rfl) (by kernel_rfl) ?_
 clear ds
 intro ds
 refine CP.seqR ?_
 refine WP.stl 1 ?_
 refine WP.loadB (v := .int .i64 x4) hB4 (by kernel_rfl) (by kernel_rfl) ?_
 refine WP.stl 4 ?_
 refine WP.storeB (ty := 3) (off := 1) (v := .int .i64 (IntKind.i64.wrap (x4 + (IntKind.i64.wrap x6)))) hB4 [[.int .i64 (IntKind.i64.wrap (x4 + (IntKind.i64.wrap x6)))]] [1] (by kernel_rfl) (by kernel_rfl) rfl (by kernel_rfl) [[.slice a2 n2 c2], [.int .i64 (IntKind.i64.wrap (x4 + (IntKind.i64.wrap x6)))], [.int .i64 x5]] (by kernel_rfl) (.one rfl .nil) ?_
 intro g15 st15 hB9
 replace hB2 := hB2.mono st15 (WL.no1 (by omega))
 replace hR2 := hR2.mono st15 (WL.no1 (by omega))
 replace hR8 := hR8.mono st15 (WL.no1 (by omega)) (WL.no1 (by omega))
 replace tot := tot.trans (st15.up1 (.inr (by omega)))
 clear hB4
 have hB4 := hB9
 clear hB9
 refine WP.dn ?_
 refine NX.then_n ?_
 refine CP.seqR ?_
 refine WP.loadB (v := AG [[.slice a2 n2 c2], [.int .i64 (IntKind.i64.wrap (x4 + (IntKind.i64.wrap x6)))], [.int .i64 x5]]) hB4 (by kernel_rfl) (by kernel_rfl) ?_
 refine WP.stl 1 ?_
 refine WP.storeB (ty := 107) (off := 0) (v := AG [[.slice a2 n2 c2], [.int .i64 (IntKind.i64.wrap (x4 + (IntKind.i64.wrap x6)))], [.int .i64 x5]]) hB2 [[.slice a2 n2 c2], [.int .i64 (IntKind.i64.wrap (x4 + (IntKind.i64.wrap x6)))], [.int .i64 x5]] [1, 1, 1] (by kernel_rfl) (by kernel_rfl) rfl (by kernel_rfl) [[.slice a2 n2 c2], [.int .i64 (IntKind.i64.wrap (x4 + (IntKind.i64.wrap x6)))], [.int .i64 x5]] (by kernel_rfl) (.one rfl (.one rfl (.one rfl .nil))) ?_
 intro g16 st16 hB10
 replace hR2 := hR2.mono st16 (WL.no1 (by omega))
 replace hB4 := hB4.mono st16 (WL.no1 (by omega))
 replace hR8 := hR8.mono st16 (WL.no1 (by omega)) (WL.no1 (by omega))
 replace tot := tot.trans (st16.up1 (.inr (by omega)))
 clear hB2
 have hB2 := hB10
 clear hB10
 refine WP.stl 1 ?_
 refine WP.dn ?_
 refine NX.then_n ?_
 refine CP.ret ?_
 obtain ⟨g17, hw1, st17, hnew⟩ := hR8.relab (by omega) r0
 refine NX.regw hw1 ?_
 replace hB2 := hB2.mono st17 (WL.no1 (by omega))
 replace hR2 := hR2.mono st17 (WL.no1 (by omega))
 replace tot := tot.trans (st17.up1 (.inr (by omega)))
 clear hR8
 have hR8 := hnew
 clear hnew
 replace hs := Option.some.inj hs
 simp only [Prod.mk.injEq] at hs
 obtain ⟨rfl, rfl, rfl, rfl⟩ := hs
 exact NX.fin (v := .tuple #[AG [[.slice a2 n2 c2], [.int .i64 (IntKind.i64.wrap (x4 + (IntKind.i64.wrap x6)))], [.int .i64 x5]], .slice a8 (0 + ((IntKind.i64.wrap (x4 + (IntKind.i64.wrap x6))).toNat - x4.toNat)) c7]) (Res.two rfl (RV.box (agg := true) (size := 3) (rs := [[.slice a2 n2 c2], [.int .i64 (IntKind.i64.wrap (x4 + (IntKind.i64.wrap x6)))], [.int .i64 x5]]) hB2 (by kernel_rfl) (by kernel_rfl) (by kernel_rfl) (by kernel_rfl)) (RV.tmp (by kernel_rfl))) tot htL ⟨a2, n2, c2, a8, (0 + ((IntKind.i64.wrap (x4 + (IntKind.i64.wrap x6))).toNat - x4.toNat)), c7, rfl, hR2, hR8⟩
end Go.Proofs.Ythfmgobnanifnaa
