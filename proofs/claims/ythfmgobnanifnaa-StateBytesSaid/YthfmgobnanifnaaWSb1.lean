/-
  Walks, written by program: each Go function computes the plain function of its name, in whatever world its arguments' facts hold.
-/
import Derived.Test.YthfmgobnanifnaaRows
import Derived.Test.YthfmgobnanifnaaLabN
namespace Go.Proofs.Ythfmgobnanifnaa
open Go.RowKit Go.Lab
attribute [local irreducible] WP CP NX wpList Code.wp Calls
set_option maxRecDepth 100000
set_option maxHeartbeats 4000000
set_option linter.unusedVariables false
def str_0 : ByteArray := ⟨#[115, 116, 97, 116, 101]⟩
def str_1 : ByteArray := ⟨#[108, 101, 110, 32, 111, 117, 116, 32, 111, 102, 32, 114, 97, 110, 103, 101]⟩
def str_2 : ByteArray := ⟨#[99, 97, 110, 110, 111, 116, 32, 98, 101, 32, 110, 101, 103, 97, 116, 105, 118, 101]⟩
def str_3 : ByteArray := ⟨#[0, 1, 2, 2, 3, 3, 3, 3, 4, 4, 4, 4, 4, 4, 4, 4, 5, 5, 5, 5, 5, 5, 5, 5, 5, 5, 5, 5, 5, 5, 5, 5, 6, 6, 6, 6, 6, 6, 6, 6, 6, 6, 6, 6, 6, 6, 6, 6, 6, 6, 6, 6, 6, 6, 6, 6, 6, 6, 6, 6, 6, 6, 6, 6, 7, 7, 7, 7, 7, 7, 7, 7, 7, 7, 7, 7, 7, 7, 7, 7, 7, 7, 7, 7, 7, 7, 7, 7, 7, 7, 7, 7, 7, 7, 7, 7, 7, 7, 7, 7, 7, 7, 7, 7, 7, 7, 7, 7, 7, 7, 7, 7, 7, 7, 7, 7, 7, 7, 7, 7, 7, 7, 7, 7, 7, 7, 7, 7, 8, 8, 8, 8, 8, 8, 8, 8, 8, 8, 8, 8, 8, 8, 8, 8, 8, 8, 8, 8, 8, 8, 8, 8, 8, 8, 8, 8, 8, 8, 8, 8, 8, 8, 8, 8, 8, 8, 8, 8, 8, 8, 8, 8, 8, 8, 8, 8, 8, 8, 8, 8, 8, 8, 8, 8, 8, 8, 8, 8, 8, 8, 8, 8, 8, 8, 8, 8, 8, 8, 8, 8, 8, 8, 8, 8, 8, 8, 8, 8, 8, 8, 8, 8, 8, 8, 8, 8, 8, 8, 8, 8, 8, 8, 8, 8, 8, 8, 8, 8, 8, 8, 8, 8, 8, 8, 8, 8, 8, 8, 8, 8, 8, 8, 8, 8, 8, 8, 8, 8, 8, 8, 8, 8, 8, 8, 8, 8]⟩
structure S_notary_entry where
  f1 : (Arr Int 8)
  f2 : (Arr Int 8)
  deriving Inhabited
def k_S_notary_entry : Kd S_notary_entry := Kd.pull (Kd.pair (Kd.arrI 8 .u8) (Kd.arrI 8 .u8)) (fun x => (x.f1, x.f2))
theorem k_S_notary_entry.opn {g : GW} {cs : List Value} {x : S_notary_entry} (h : k_S_notary_entry.R g cs x) : cs = [encA .u8 x.f1, encA .u8 x.f2].flatten := by
  obtain ⟨q0, d0, rfl, h0, h1⟩ := h
  replace h0 : q0 = encA .u8 x.f1 := h0
  subst h0
  replace h1 : d0 = encA .u8 x.f2 := h1
  subst h1
  exact by simp
theorem k_S_notary_entry.mk {g : GW} {s0 s1 : List Value} {f0 : (Arr Int 8)} {f1 : (Arr Int 8)} (h0 : ((Kd.arrI 8 .u8)).R g s0 f0) (h1 : ((Kd.arrI 8 .u8)).R g s1 f1) : k_S_notary_entry.R g [s0, s1].flatten ⟨f0, f1⟩ := by
  refine ⟨_, _, rfl, h0, (by simpa using h1)⟩
structure S_state_Signed where
  f1 : (Arr Int 8)
  f2 : Int
  f3 : (List Int)
  f4 : (List (List Int))
  deriving Inhabited
def k_S_state_Signed : Kd S_state_Signed := Kd.pull (Kd.pair (Kd.arrI 8 .u8) (Kd.pair (Kd.int .i64) (Kd.pair (Kd.slice 5 (Kd.int .u8)) (Kd.slice 24 (Kd.slice 5 (Kd.int .u8)))))) (fun x => (x.f1, x.f2, x.f3, x.f4))
theorem k_S_state_Signed.opn {g : GW} {cs : List Value} {x : S_state_Signed} (h : k_S_state_Signed.R g cs x) : ∃ (a2 : Option Addr) (n2 : Nat) (c2 : Nat) (a3 : Option Addr) (n3 : Nat) (c3 : Nat), cs = [encA .u8 x.f1, [.int .i64 x.f2], [.slice a2 n2 c2], [.slice a3 n3 c3]].flatten ∧ RdS (Kd.int .u8) g 5 a2 n2 c2 x.f3 ∧ RdS (Kd.slice 5 (Kd.int .u8)) g 24 a3 n3 c3 x.f4 := by
  obtain ⟨q0, d0, rfl, h0, q1, d1, rfl, h1, q2, d2, rfl, h2, h3⟩ := h
  replace h0 : q0 = encA .u8 x.f1 := h0
  subst h0
  replace h1 : q1 = [.int .i64 x.f2] := h1
  subst h1
  obtain ⟨a2, n2, c2, h2, hr2⟩ := h2
  subst h2
  obtain ⟨a3, n3, c3, h3, hr3⟩ := h3
  subst h3
  exact ⟨a2, n2, c2, a3, n3, c3, by simp, hr2, hr3⟩
theorem k_S_state_Signed.mk {g : GW} {s0 s1 s2 s3 : List Value} {f0 : (Arr Int 8)} {f1 : Int} {f2 : (List Int)} {f3 : (List (List Int))} (h0 : ((Kd.arrI 8 .u8)).R g s0 f0) (h1 : ((Kd.int .i64)).R g s1 f1) (h2 : ((Kd.slice 5 (Kd.int .u8))).R g s2 f2) (h3 : ((Kd.slice 24 (Kd.slice 5 (Kd.int .u8)))).R g s3 f3) : k_S_state_Signed.R g [s0, s1, s2, s3].flatten ⟨f0, f1, f2, f3⟩ := by
  refine ⟨_, _, rfl, h0, _, _, rfl, h1, _, _, rfl, h2, (by simpa using h3)⟩
structure S_state_State where
  f1 : (Arr Int 8)
  f2 : Int
  f3 : (List Int)
  deriving Inhabited
def k_S_state_State : Kd S_state_State := Kd.pull (Kd.pair (Kd.arrI 8 .u8) (Kd.pair (Kd.int .i64) (Kd.slice 5 (Kd.int .u8)))) (fun x => (x.f1, x.f2, x.f3))
theorem k_S_state_State.opn {g : GW} {cs : List Value} {x : S_state_State} (h : k_S_state_State.R g cs x) : ∃ (a2 : Option Addr) (n2 : Nat) (c2 : Nat), cs = [encA .u8 x.f1, [.int .i64 x.f2], [.slice a2 n2 c2]].flatten ∧ RdS (Kd.int .u8) g 5 a2 n2 c2 x.f3 := by
  obtain ⟨q0, d0, rfl, h0, q1, d1, rfl, h1, h2⟩ := h
  replace h0 : q0 = encA .u8 x.f1 := h0
  subst h0
  replace h1 : q1 = [.int .i64 x.f2] := h1
  subst h1
  obtain ⟨a2, n2, c2, h2, hr2⟩ := h2
  subst h2
  exact ⟨a2, n2, c2, by simp, hr2⟩
theorem k_S_state_State.mk {g : GW} {s0 s1 s2 : List Value} {f0 : (Arr Int 8)} {f1 : Int} {f2 : (List Int)} (h0 : ((Kd.arrI 8 .u8)).R g s0 f0) (h1 : ((Kd.int .i64)).R g s1 f1) (h2 : ((Kd.slice 5 (Kd.int .u8))).R g s2 f2) : k_S_state_State.R g [s0, s1, s2].flatten ⟨f0, f1, f2⟩ := by
  refine ⟨_, _, rfl, h0, _, _, rfl, h1, (by simpa using h2)⟩
def kv_S_notary_entry (x : S_notary_entry) : Value := AG [encA .u8 x.f1, encA .u8 x.f2]
def eqk_S_notary_entry (x y : S_notary_entry) : Bool := ((x.f1.1 == y.f1.1) && (x.f2.1 == y.f2.1))
theorem keyOk_S_notary_entry : KeyOk Try.prog 173 kv_S_notary_entry eqk_S_notary_entry where
  eqv := fun x y => (EqV.struct (d := 9999) (t := 173) (xs := [encA .u8 x.f1, encA .u8 x.f2]) (ys := [encA .u8 y.f1, encA .u8 y.f2]) (by kernel_rfl) (by kernel_rfl) (EqFi.cons (ns := [8, 8]) (ms := [8, 8]) (t' := 23) (x := AG [encA .u8 x.f1]) (y := AG [encA .u8 y.f1]) (by simp [len_encA]) (by simp [len_encA]) (by kernel_rfl) (by kernel_rfl) (EqV.arr (d := 9997) (t := 23) (e := 5) (m := 8) (k := .u8) (x := x.f1) (y := y.f1) (by kernel_rfl) (by kernel_rfl)) (EqFi.one (ns := [8, 8]) (ms := [8, 8]) (t' := 23) (x := AG [encA .u8 x.f2]) (y := AG [encA .u8 y.f2]) (by simp [len_encA]) (by simp [len_encA]) (by kernel_rfl) (by kernel_rfl) (EqV.arr (d := 9997) (t := 23) (e := 5) (m := 8) (k := .u8) (x := x.f2) (y := y.f2) (by kernel_rfl) (by kernel_rfl)) (Nat.le_of_ble_eq_true rfl))))
  chk := fun w b x => by
    obtain ⟨a0_0, a0_1, a0_2, a0_3, a0_4, a0_5, a0_6, a0_7, h0⟩ := Arr.ex8 x.f1
    obtain ⟨a1_0, a1_1, a1_2, a1_3, a1_4, a1_5, a1_6, a1_7, h1⟩ := Arr.ex8 x.f2
    obtain ⟨x0, x1⟩ := x
    simp only [] at h0 h1
    subst h0; subst h1
    exact evalS_run (a := ()) (by kernel_rfl) w
  inj := fun x y h => by
    obtain ⟨x0, x1⟩ := x
    obtain ⟨y0, y1⟩ := y
    simp only [eqk_S_notary_entry, Bool.and_eq_true, beq_iff_eq] at h
    simp only [kv_S_notary_entry, encA, h]
  bits := fun x => sameBits_ints 9999 _ (by intro c hc; simp only [List.flatten_cons, List.flatten_nil, encA, List.mem_append, List.mem_map, List.not_mem_nil, or_false] at hc; rcases hc with ⟨_, _, rfl⟩ | ⟨_, _, rfl⟩ <;> exact ⟨_, _, rfl⟩)
  now := ⟨.struct (Try.prog.fieldsOf 173), by kernel_rfl, fun _ _ => rfl⟩
def wf_S_state_State (x : S_state_State) : Prop := (∀ y ∈ x.f1.1, (Lit.int .u8 y).wf = true) ∧ (Lit.int .i64 x.f2).wf = true ∧ (x.f3.length ≤ maxLen ∧ ∀ y ∈ x.f3, (Lit.int .u8 y).wf = true)
def wf_S_state_Signed (x : S_state_Signed) : Prop := ((∀ y ∈ x.f1.1, (Lit.int .u8 y).wf = true) ∧ (Lit.int .i64 x.f2).wf = true ∧ (x.f3.length ≤ maxLen ∧ ∀ y ∈ x.f3, (Lit.int .u8 y).wf = true)) ∧ (x.f4.length ≤ maxLen ∧ ∀ y ∈ x.f4, (y.length ≤ maxLen ∧ ∀ yy ∈ y, (Lit.int .u8 yy).wf = true))
def F.baizelaw32_few (l1 : List Int) : Option ((List Int)) := (if (0 : Int) ≤ 0 ∧ 0 ≤ (imin (l1.length : Int) 5000) ∧ (imin (l1.length : Int) 5000) ≤ (l1.length : Int) then (some (sliceI l1 0 (imin (l1.length : Int) 5000))) else none)
theorem P.baizelaw32_few (g0 : GW) (l1 : List Int) (a1 : Option Addr) (n1 : Nat) (c1 : Nat) (hR1 : RdS (Kd.int .u8) g0 5 a1 n1 c1 l1) (o1 : List Int) (hs : F.baizelaw32_few l1 = some o1) :
  Calls Try.prog 11 #[.slice a1 n1 c1] g0.w (Ret NoM g0 fun v g => ∃ (a_1 : Option Addr) (n_1 : Nat) (c_1 : Nat), v = .slice a_1 n_1 c_1 ∧ RdS (Kd.int .u8) g 5 a_1 n_1 c_1 o1) := by
 refine calls_of (args := [.slice a1 n1 c1]) Try.func11 rfl (0) ?_
 intro t ht htL
 refine ⟨_, rfl, ?_⟩
 refine CP.refr 8 [(0, .slice a1 n1 c1)] (by kernel_rfl) (by kernel_rfl) ?_
 intro ds
 have tot : Step (fun l => NoM l ∨ t ≤ l) g0 g0 := Step.refl _ _
 unfold F.baizelaw32_few at hs
 refine CP.seqR ?_
 refine WP.stl 1 ?_
 refine WP.dn ?_
 refine NX.then_n ?_
 refine CP.seqR ?_
 refine WP.stl 2 ?_
 refine WP.len (a := a1) (cp := c1) hR1.len (by kernel_rfl) ?_
 refine WP.stl 1 ?_
 by_cases hc1 : (0 : Int) ≤ 0 ∧ 0 ≤ (imin (l1.length : Int) 5000) ∧ (imin (l1.length : Int) 5000) ≤ (l1.length : Int)
 case neg => rw [if_neg hc1] at hs; cases hs
 replace hs := of_if_p hs hc1
 refine WP.sliceR (lo := none) (hi := some (.int .i64 (imin (l1.length : Int) 5000))) hR1 0 (imin (l1.length : Int) 5000) (by kernel_rfl) (.inl ⟨rfl, rfl⟩) (.inr ⟨_, rfl⟩) hc1 ?_
 intro a2 c2 hR2
 refine WP.stl 1 ?_
 refine WP.dn ?_
 refine NX.then_n ?_
 refine CP.ret ?_
 replace hs := Option.some.inj hs
 obtain rfl := hs
 exact NX.fin (v := .slice a2 ((imin (l1.length : Int) 5000).toNat - (0 : Int).toNat) c2) (Res.still (by kernel_rfl)) tot htL ⟨a2, ((imin (l1.length : Int) 5000).toNat - (0 : Int).toNat), c2, rfl, hR2⟩
def N.baizelaw32_plain_0 : List (List Nat) := [[], [], [1], [1, 2], [], [4], [4, 5], [], [7], [7, 8], [1, 2, 3, 4, 5, 6, 7, 8, 9], [], [1, 2, 3, 4, 5, 6, 7, 8, 9, 10, 11], [0], [0, 1, 2, 3, 4, 5, 6, 7, 8, 9, 10, 11, 12, 13]]
def F.baizelaw32_plain.c1 (nx1 : (List (List Int)) → Int → Option ((Arr Int 8) × Int × (List Int) × (List (List Int)) × (Arr Int 8) × Int × (List Int) × (List (List Int)))) (d1 : Arr Int 8) (x1 : Int) (l2 : List (List Int)) (l3 : List Int) (l5 : List (List Int)) (x2 : Int) (q3 : Bool) : Option ((Arr Int 8) × Int × (List Int) × (List (List Int)) × (Arr Int 8) × Int × (List Int) × (List (List Int))) := (if q3 = true then (if (0 : Int) ≤ x2 ∧ x2 < (l2.length : Int) then ((F.baizelaw32_few (getI l2 x2)).bind fun l8 => (if l5.length + ([l8]).length ≤ 5864062014805 then (nx1 (l5 ++ [l8]) (IntKind.i64.wrap (x2 + 1))) else none)) else none) else (some (d1, x1, l3, l5, d1, x1, l3, l5)))
def F.baizelaw32_plain.l1 (d1 : Arr Int 8) (x1 : Int) (l2 : List (List Int)) (l3 : List Int) : Nat → (List (List Int)) → Int → Option ((Arr Int 8) × Int × (List Int) × (List (List Int)) × (Arr Int 8) × Int × (List Int) × (List (List Int)))
 | 0, _, _ => none
 | k + 1, l5, x2 => (if decide (x2 < (l2.length : Int)) = true then (F.baizelaw32_plain.c1 (F.baizelaw32_plain.l1 d1 x1 l2 l3 k) d1 x1 l2 l3 l5 x2 (decide (x2 < 12))) else (F.baizelaw32_plain.c1 (F.baizelaw32_plain.l1 d1 x1 l2 l3 k) d1 x1 l2 l3 l5 x2 false))
def F.baizelaw32_plain (d1 : Arr Int 8) (x1 : Int) (l1 : List Int) (l2 : List (List Int)) : Option ((Arr Int 8) × Int × (List Int) × (List (List Int)) × (Arr Int 8) × Int × (List Int) × (List (List Int))) := ((F.baizelaw32_few l1).bind fun l3 => (F.baizelaw32_plain.l1 d1 x1 l2 l3 fuel ([]) 0))
theorem P.baizelaw32_plain (g0 : GW) (d1 : Arr Int 8) (x1 : Int) (l1 : List Int) (l2 : List (List Int)) (a1 : Option Addr) (n1 : Nat) (c1 : Nat) (a2 : Option Addr) (n2 : Nat) (c2 : Nat) (hR1 : RdS (Kd.int .u8) g0 5 a1 n1 c1 l1) (hR2 : RdS (Kd.slice 5 (Kd.int .u8)) g0 24 a2 n2 c2 l2) (o1 : Arr Int 8) (o2 : Int) (o3 : List Int) (o4 : List (List Int)) (o5 : Arr Int 8) (o6 : Int) (o7 : List Int) (o8 : List (List Int)) (hs : F.baizelaw32_plain d1 x1 l1 l2 = some (o1, o2, o3, o4, o5, o6, o7, o8)) :
  Calls Try.prog 24 #[AG [encA .u8 d1, [.int .i64 x1], [.slice a1 n1 c1], [.slice a2 n2 c2]]] g0.w (Ret NoM g0 fun v g => ∃ (a_1 : Option Addr) (n_1 : Nat) (c_1 : Nat) (a_4 : Option Addr) (n_4 : Nat) (c_4 : Nat) (a_7 : Option Addr) (n_7 : Nat) (c_7 : Nat) (a_10 : Option Addr) (n_10 : Nat) (c_10 : Nat), v = .tuple #[AG [encA .u8 o1, [.int .i64 o2], [.slice a_1 n_1 c_1], [.slice a_4 n_4 c_4]], AG [encA .u8 o5, [.int .i64 o6], [.slice a_7 n_7 c_7], [.slice a_10 n_10 c_10]]] ∧ RdS (Kd.int .u8) g 5 a_1 n_1 c_1 o3 ∧ RdS (Kd.slice 5 (Kd.int .u8)) g 24 a_4 n_4 c_4 o4 ∧ RdS (Kd.int .u8) g 5 a_7 n_7 c_7 o7 ∧ RdS (Kd.slice 5 (Kd.int .u8)) g 24 a_10 n_10 c_10 o8) := by
 refine calls_of (args := [AG [encA .u8 d1, [.int .i64 x1], [.slice a1 n1 c1], [.slice a2 n2 c2]]]) Try.func24 rfl (0) ?_
 intro t ht htL
 refine ⟨_, rfl, ?_⟩
 refine CP.refr 47 [(0, AG [encA .u8 d1, [.int .i64 x1], [.slice a1 n1 c1], [.slice a2 n2 c2]])] (by kernel_rfl) (by kernel_rfl) ?_
 intro ds
 have tot : Step (fun l => NoM l ∨ t ≤ l) g0 g0 := Step.refl _ _
 unfold F.baizelaw32_plain at hs
 refine CP.seqR ?_
 refine WP.alloc (T := 61) (t + 1) [encA .u8 d1, [.int .i64 x1], [.slice a1 n1 c1], [.slice a2 n2 c2]] [8, 1, 1, 1] (by kernel_rfl) (by simp [len_encA]) ?_
 intro g1 b1 st1 hB1
 replace hR1 := hR1.mono st1 (fun x => x)
 replace hR2 := hR2.mono st1 (fun x => x)
 replace tot := tot.trans st1.pure
 refine WP.alloc (T := 61) (t + 2) [encA .u8 (zA 8), [.int .i64 0], [.slice none 0 0], [.slice none 0 0]] [8, 1, 1, 1] (by kernel_rfl) (by simp [len_encA]) ?_
 intro g2 b2 st2 hB2
 replace hR1 := hR1.mono st2 (fun x => x)
 replace hR2 := hR2.mono st2 (fun x => x)
 replace hB1 := hB1.mono st2 (fun x => x)
 replace tot := tot.trans st2.pure
 refine WP.alloc (T := 65) (t + 3) [encA .u8 (zA 8), [.int .i64 0], [.slice none 0 0], [.slice none 0 0]] [8, 1, 1, 1] (by kernel_rfl) (by simp [len_encA]) ?_
 intro g3 b3 st3 hB3
 replace hR1 := hR1.mono st3 (fun x => x)
 replace hR2 := hR2.mono st3 (fun x => x)
 replace hB1 := hB1.mono st3 (fun x => x)
 replace hB2 := hB2.mono st3 (fun x => x)
 replace tot := tot.trans st3.pure
 refine WP.dn ?_
 refine NX.then_n ?_
 refine CP.seqR ?_
 refine WP.stl 2 ?_
 refine WP.loadB (v := .slice a1 n1 c1) hB1 (by kernel_rfl) (by kernel_rfl) ?_
 replace hs := Option.bind_eq_some_iff.1 hs
 obtain ⟨l3, hk1, hs⟩ := hs
 have hcal1 := P.baizelaw32_few g3 l1 a1 n1 c1 hR1 l3 hk1
 refine WP.callC hcal1 (by kernel_rfl) ?_
 rintro _ g4 st4 ⟨a3, n3, c3, rfl, hR3⟩
 replace hB1 := hB1.mono st4 (fun x => x)
 replace hR1 := hR1.mono st4 (fun x => x)
 replace hR2 := hR2.mono st4 (fun x => x)
 replace hB2 := hB2.mono st4 (fun x => x)
 replace hB3 := hB3.mono st4 (fun x => x)
 replace tot := tot.trans st4.pure
 refine WP.stl 2 ?_
 refine WP.storeB (ty := 24) (off := 9) (v := .slice a3 n3 c3) hB1 [[.slice a3 n3 c3]] [1] (by kernel_rfl) (by kernel_rfl) rfl (by kernel_rfl) [encA .u8 d1, [.int .i64 x1], [.slice a3 n3 c3], [.slice a2 n2 c2]] (by kernel_rfl) (.one rfl .nil) ?_
 intro g5 st5 hB4
 replace hR3 := hR3.mono st5 (WL.no1 (by omega))
 replace hR2 := hR2.mono st5 (WL.no1 (by omega))
 replace hB2 := hB2.mono st5 (WL.no1 (by omega))
 replace hB3 := hB3.mono st5 (WL.no1 (by omega))
 replace hR1 := hR1.mono st5 (WL.no1 (by omega))
 replace tot := tot.trans (st5.up1 (.inr (by omega)))
 clear hB1
 have hB1 := hB4
 clear hB4
 refine WP.dn ?_
 refine NX.then_n ?_
 refine CP.seqR ?_
 refine WP.stl 1 ?_
 refine WP.dn ?_
 refine NX.then_n ?_
 refine CP.seq ?_
 refine CP.seqR ?_
 refine WP.stl 1 ?_
 refine WP.dn ?_
 refine NX.then_n ?_
 refine CP.block ?_
 generalize fuel = k1 at hs
 refine CP.loop (fun k1 tm g => ∃ (l5 : List (List Int)) (a8 : Option Addr) (n6 : Nat) (c7 : Nat) (x2 : Int), Fr 47 [(1, .pointer (some ⟨b1, 0, none⟩)), (2, .pointer (some ⟨b2, 0, none⟩)), (3, .pointer (some ⟨b3, 0, none⟩)), (4, .slice a8 n6 c7), (5, .int .i64 x2)] tm ∧ Step (fun l => NoM l ∨ t ≤ l) g0 g ∧ Box g (t + 1) b1 61 [encA .u8 d1, [.int .i64 x1], [.slice a3 n3 c3], [.slice a2 n2 c2]] [8, 1, 1, 1] ∧ RdS (Kd.int .u8) g 5 a3 n3 c3 l3 ∧ RdS (Kd.slice 5 (Kd.int .u8)) g 24 a2 n2 c2 l2 ∧ Box g (t + 2) b2 61 [encA .u8 (zA 8), [.int .i64 0], [.slice none 0 0], [.slice none 0 0]] [8, 1, 1, 1] ∧ Box g (t + 3) b3 65 [encA .u8 (zA 8), [.int .i64 0], [.slice none 0 0], [.slice none 0 0]] [8, 1, 1, 1] ∧ OwnS (Kd.slice 5 (Kd.int .u8)) g (t + 5) 24 a8 n6 c7 l5 ∧ F.baizelaw32_plain.l1 d1 x1 l2 l3 k1 l5 x2 = some (o1, o2, o3, o4, o5, o6, o7, o8)) k1 ?_ ?_ ?_
 ·exact ⟨[], none, 0, 0, 0, ⟨by kernel_rfl, by kernel_rfl⟩, tot, hB1, hR3, hR2, hB2, hB3, (OwnS.nil _ _ _ _), hs⟩
 ·rintro tm g ⟨l5, a8, n6, c7, x2, hF, tot, hB1, hR3, hR2, hB2, hB3, hR8, hs⟩
  exact absurd hs (by simp [F.baizelaw32_plain.l1])
 clear tot hs hB1 hR3 hR2 hB2 hB3
 rintro k1 tm g ⟨l5, a8, n6, c7, x2, hF, tot, hB1, hR3, hR2, hB2, hB3, hR8, hs⟩
 clear ds
 obtain ⟨ds, rfl⟩ := hF.open
 clear hF
 unfold F.baizelaw32_plain.l1 at hs
 refine CP.seq ?_
 refine CP.cut (fun tm g => ∃ (q3 : Bool), Fr 47 [(1, .pointer (some ⟨b1, 0, none⟩)), (2, .pointer (some ⟨b2, 0, none⟩)), (3, .pointer (some ⟨b3, 0, none⟩)), (4, .slice a8 n6 c7), (5, .int .i64 x2), (20, .bool q3)] tm ∧ Step (fun l => NoM l ∨ t ≤ l) g0 g ∧ Box g (t + 1) b1 61 [encA .u8 d1, [.int .i64 x1], [.slice a3 n3 c3], [.slice a2 n2 c2]] [8, 1, 1, 1] ∧ RdS (Kd.int .u8) g 5 a3 n3 c3 l3 ∧ RdS (Kd.slice 5 (Kd.int .u8)) g 24 a2 n2 c2 l2 ∧ Box g (t + 2) b2 61 [encA .u8 (zA 8), [.int .i64 0], [.slice none 0 0], [.slice none 0 0]] [8, 1, 1, 1] ∧ Box g (t + 3) b3 65 [encA .u8 (zA 8), [.int .i64 0], [.slice none 0 0], [.slice none 0 0]] [8, 1, 1, 1] ∧ OwnS (Kd.slice 5 (Kd.int .u8)) g (t + 5) 24 a8 n6 c7 l5 ∧ (F.baizelaw32_plain.c1 (F.baizelaw32_plain.l1 d1 x1 l2 l3 k1) d1 x1 l2 l3 l5 x2 q3) = some (o1, o2, o3, o4, o5, o6, o7, o8)) ?_ ?_
 ·refine CP.region ?_
  refine WP.stl 2 ?_
  refine WP.loadB (v := .slice a2 n2 c2) hB1 (by kernel_rfl) (by kernel_rfl) ?_
  refine WP.len (a := a2) (cp := c2) hR2.len (by kernel_rfl) ?_
  refine WP.stl 2 ?_
  refine WP.guard 17 (b := decide (x2 < (l2.length : Int))) (by kernel_rfl) (fun h7 => ?_) (fun h7 => ?_)
  ·replace hs := of_if_t hs h7
   refine WP.stl 3 ?_
   refine WP.dn ?_
   refine NX.post ?_
   exact ⟨decide (x2 < 12), ⟨by kernel_rfl, by kernel_rfl⟩, tot, hB1, hR3, hR2, hB2, hB3, hR8, hs⟩
  replace hs := of_if_f hs h7
  refine WP.stl 3 ?_
  refine WP.dn ?_
  refine NX.post ?_
  exact ⟨false, ⟨by kernel_rfl, by kernel_rfl⟩, tot, hB1, hR3, hR2, hB2, hB3, hR8, hs⟩
 clear tot hs hB1 hR3 hR2 hB2 hB3 hR8
 rintro tm g ⟨q3, hF, tot, hB1, hR3, hR2, hB2, hB3, hR8, hs⟩
 clear ds
 obtain ⟨ds, rfl⟩ := hF.open
 clear hF
 unfold F.baizelaw32_plain.c1 at hs
 refine CP.cond (b := q3) (by kernel_rfl) (fun h6 => ?_) (fun h6 => ?_)
 ·replace hs := of_if_t hs h6
  refine CP.skip ?_
  refine NX.then_n ?_
  refine CP.seq ?_
  refine CP.block ?_
  refine CP.region ?_
  refine WP.stl 2 ?_
  refine WP.loadB (v := .slice a2 n2 c2) hB1 (by kernel_rfl) (by kernel_rfl) ?_
  refine WP.stl 1 ?_
  by_cases hc5 : (0 : Int) ≤ x2 ∧ x2 < (l2.length : Int)
  case neg => rw [if_neg hc5] at hs; cases hs
  replace hs := of_if_p hs hc5
  obtain ⟨b6, u3, ha3⟩ := hR2.at hc5
  refine WP.indexA (t := 42) (e := 24) (sz := 1) (cap := c2) (k := .i64) (i := x2) hR2.len ha3 (by kernel_rfl) (by kernel_rfl) hc5 ?_
  obtain ⟨cs3, hcR3, hcV3⟩ := hR2.src.view (getI_some hc5) ha3
  obtain ⟨a14, n10, c12, hcR3, hR14⟩ := Kd.o_sl hcR3
  refine WP.loadV [[.slice a14 n10 c12]] [1] hcV3 hcR3 rfl (f := 0) (ty := 24) (agg := false) (size := 1) (rs := [[.slice a14 n10 c12]]) (v := .slice a14 n10 c12) (by kernel_rfl) (by kernel_rfl) (by kernel_rfl) (by kernel_rfl) ?_
  replace hs := Option.bind_eq_some_iff.1 hs
  obtain ⟨l8, hk4, hs⟩ := hs
  have hcal4 := P.baizelaw32_few g (getI l2 x2) a14 n10 c12 hR14 l8 hk4
  refine WP.callC hcal4 (by kernel_rfl) ?_
  rintro _ g18 st18 ⟨a15, n11, c13, rfl, hR15⟩
  replace hB1 := hB1.mono st18 (fun x => x)
  replace hR3 := hR3.mono st18 (fun x => x)
  replace hR2 := hR2.mono st18 (fun x => x)
  replace hB2 := hB2.mono st18 (fun x => x)
  replace hB3 := hB3.mono st18 (fun x => x)
  replace hR8 := hR8.mono st18 (fun x => x) (fun x => x)
  replace hR14 := hR14.mono st18 (fun x => x)
  replace tot := tot.trans st18.pure
  refine WP.mkSl (kd := (Kd.slice 5 (Kd.int .u8))) (t := 42) (e := 24) (bytes := 24) (t + 7) [.slice a15 n11 c13] [l8] (by kernel_rfl) (by kernel_rfl) (Nat.le_of_ble_eq_true rfl) (Nat.le_of_ble_eq_true rfl) (all_cons rfl all_nil) (⟨_, _, rfl, (by exact ⟨_, _, _, rfl, hR15⟩), rfl⟩) rfl ?_
  intro g19 a16 st19 hR16
  replace hB1 := hB1.mono st19 (fun x => x)
  replace hR3 := hR3.mono st19 (fun x => x)
  replace hR2 := hR2.mono st19 (fun x => x)
  replace hB2 := hB2.mono st19 (fun x => x)
  replace hB3 := hB3.mono st19 (fun x => x)
  replace hR8 := hR8.mono st19 (fun x => x) (fun x => x)
  replace hR14 := hR14.mono st19 (fun x => x)
  replace hR15 := hR15.mono st19 (fun x => x)
  replace tot := tot.trans st19.pure
  by_cases hc6 : l5.length + ([l8]).length ≤ 5864062014805
  case neg => rw [if_neg hc6] at hs; cases hs
  replace hs := of_if_p hs hc6
  refine WP.append (kd := (Kd.slice 5 (Kd.int .u8))) (t := 42) (e := 24) (bytes := 24) (a2 := a16) (c2 := 1) hR8 hR16.src hR16.len (by kernel_rfl) (by kernel_rfl) (by omega) (by simp only [maxLen]; omega) (by omega) ?_
  intro g20 a17 c14 st20 hR17
  replace hB1 := hB1.mono st20 (WL.no1 (by omega))
  replace hR3 := hR3.mono st20 (WL.no1 (by omega))
  replace hR2 := hR2.mono st20 (WL.no1 (by omega))
  replace hB2 := hB2.mono st20 (WL.no1 (by omega))
  replace hB3 := hB3.mono st20 (WL.no1 (by omega))
  replace hR14 := hR14.mono st20 (WL.no1 (by omega))
  replace hR15 := hR15.mono st20 (WL.no1 (by omega))
  replace hR16 := hR16.mono st20 (WL.no1 (by omega)) (WL.no1 (by omega))
  replace tot := tot.trans (st20.up1 (.inr (by omega)))
  refine WP.stl 1 ?_
  refine WP.dn ?_
  refine NX.block_n ?_
  refine NX.then_n ?_
  refine CP.region ?_
  refine WP.stl 3 ?_
  refine WP.dn ?_
  refine NX.post ?_
  exact ⟨(l5 ++ [l8]), a17, (n6 + 1), c14, (IntKind.i64.wrap (x2 + 1)), ⟨by kernel_rfl, by kernel_rfl⟩, tot, hB1, hR3, hR2, hB2, hB3, hR17, hs⟩
 replace hs := of_if_f hs h6
 refine CP.exit ?_
 refine NX.then_e ?_
 refine NX.then_e ?_
 refine NX.block_s ?_
 refine NX.then_n ?_
 refine CP.seqR ?_
 refine WP.stl 2 ?_
 refine WP.storeB (ty := 42) (off := 10) (v := .slice a8 n6 c7) hB1 [[.slice a8 n6 c7]] [1] (by kernel_rfl) (by kernel_rfl) rfl (by kernel_rfl) [encA .u8 d1, [.int .i64 x1], [.slice a3 n3 c3], [.slice a8 n6 c7]] (by kernel_rfl) (.one rfl .nil) ?_
 intro g21 st21 hB11
 replace hR3 := hR3.mono st21 (WL.no1 (by omega))
 replace hR8 := hR8.mono st21 (WL.no1 (by omega)) (WL.no1 (by omega))
 replace hB2 := hB2.mono st21 (WL.no1 (by omega))
 replace hB3 := hB3.mono st21 (WL.no1 (by omega))
 replace tot := tot.trans (st21.up1 (.inr (by omega)))
 clear hB1
 have hB1 := hB11
 clear hB11
 refine WP.dn ?_
 refine NX.then_n ?_
 refine CP.seq ?_
 refine CP.drawL (by kernel_rfl) [0, 3, 6, 9, 10, 12, 13, 14] N.baizelaw32_plain_0 [⟨none, [], [], fun l g => Box g (t + 1) b1 61 [encA .u8 d1, [.int .i64 x1], [.slice a3 n3 c3], [.slice a8 n6 c7]] [8, 1, 1, 1]⟩, ⟨none, [], [], fun l g => RdS (Kd.int .u8) g 5 a3 n3 c3 l3⟩, ⟨none, [], [], fun l g => OwnS (Kd.slice 5 (Kd.int .u8)) g (t + 5) 24 a8 n6 c7 l5⟩, ⟨none, [0], [], fun l g => Box g (t + 2) b2 61 [encA .u8 (zA 8), [.int .i64 0], [.slice none 0 0], [.slice none 0 0]] [8, 1, 1, 1]⟩, ⟨none, [1], [], fun l g => Box g (t + 3) b3 65 [encA .u8 (zA 8), [.int .i64 0], [.slice none 0 0], [.slice none 0 0]] [8, 1, 1, 1]⟩, ⟨some 0, [], [0], fun l g => l.getD 0 undef = AG [encA .u8 d1, [.int .i64 x1], [.slice a3 n3 c3], [.slice a8 n6 c7]]⟩, ⟨some 1, [], [1], fun l g => l.getD 0 undef = AG [encA .u8 d1]⟩, ⟨some 2, [], [2], fun l g => l.getD 0 undef = .int .i64 x1⟩, ⟨some 3, [], [3], fun l g => l.getD 0 undef = .slice a3 n3 c3⟩, ⟨some 4, [], [4], fun l g => l.getD 0 undef = AG [encA .u8 d1, [.int .i64 x1], [.slice a3 n3 c3]]⟩, ⟨some 5, [], [5], fun l g => l.getD 0 undef = AG [encA .u8 d1, [.int .i64 x1], [.slice a3 n3 c3], [.slice a8 n6 c7]]⟩, ⟨some 6, [0], [], fun l g => Box g (t + 2) b2 61 [encA .u8 d1, [.int .i64 x1], [.slice a3 n3 c3], [.slice a8 n6 c7]] [8, 1, 1, 1]⟩, ⟨some 7, [1], [], fun l g => Box g (t + 3) b3 65 [encA .u8 d1, [.int .i64 x1], [.slice a3 n3 c3], [.slice a8 n6 c7]] [8, 1, 1, 1]⟩] [[], [], [], [], [], [], [0], [1]] [(t + 2), (t + 3)] [1, 2, 4, 5, 7, 8, 11] [] (by kernel_rfl) (by simp <;> omega) (by simp <;> omega) ⟨fun _ _ _ _ st h0 hl hj hB1 => (hB1.mono st (fun h => absurd (hl _ h) (by simp <;> omega))), fun _ _ _ _ st h0 hl hj hR3 => (RdS.mono (e := 5) hR3 st h0), fun _ _ _ _ st h0 hl hj hR8 => (hR8.mono st h0 (fun h => absurd (hl _ h) (by simp <;> omega))), fun _ _ _ _ st h0 hl hj hB2 => (hB2.mono st (hj 0 (by simp) _ rfl)), fun _ _ _ _ st h0 hl hj hB3 => (hB3.mono st (hj 1 (by simp) _ rfl)), fun _ _ _ _ st h0 hl hj e0 => e0, fun _ _ _ _ st h0 hl hj e1 => e1, fun _ _ _ _ st h0 hl hj e2 => e2, fun _ _ _ _ st h0 hl hj e3 => e3, fun _ _ _ _ st h0 hl hj e4 => e4, fun _ _ _ _ st h0 hl hj e5 => e5, fun _ _ _ _ st h0 hl hj hB2 => (hB2.mono st (hj 0 (by simp) _ rfl)), fun _ _ _ _ st h0 hl hj hB3 => (hB3.mono st (hj 1 (by simp) _ rfl)), tv⟩ ⟨hB1, hR3, hR8, hB2, hB3, tv, tv, tv, tv, tv, tv, tv, tv, tv⟩ (by kernel_rfl) (fun vs => by kernel_rfl) ?_ ?_ ?_
 ·intro j hj; exact absurd hj (by simp)
 ·intro j hj
  have hq : j = 0 ∨ j = 1 ∨ j = 2 ∨ j = 3 ∨ j = 4 ∨ j = 5 ∨ j = 6 ∨ j = 7 := by have h : j < 8 := hj; omega
  rcases hq with rfl | rfl | rfl | rfl | rfl | rfl | rfl | rfl
  ·intro vs gq stq hl hf
   obtain ⟨v0, v1, v2, v3, v4, v5, v6, v7, rfl⟩ := len_k8 hl
   have hB1 := (show Box gq (t + 1) b1 61 [encA .u8 d1, [.int .i64 x1], [.slice a3 n3 c3], [.slice a8 n6 c7]] [8, 1, 1, 1] from hf _ (memI 0 rfl) (by kernel_rfl))
   refine WP.loadB (v := AG [encA .u8 d1, [.int .i64 x1], [.slice a3 n3 c3], [.slice a8 n6 c7]]) hB1 (by kernel_rfl) (by kernel_rfl) ?_
   refine WP.dn (Shown.ok (v := AG [encA .u8 d1, [.int .i64 x1], [.slice a3 n3 c3], [.slice a8 n6 c7]]) (by kernel_rfl) (Step.refl _ _) ?_)
   exact ⟨tv, tv, tv, tv, tv, rfl, tv, tv, tv, tv, tv, tv, tv, tv⟩
  ·intro vs gq stq hl hf
   obtain ⟨v0, v1, v2, v3, v4, v5, v6, v7, rfl⟩ := len_k8 hl
   have hB1 := (show Box gq (t + 1) b1 61 [encA .u8 d1, [.int .i64 x1], [.slice a3 n3 c3], [.slice a8 n6 c7]] [8, 1, 1, 1] from hf _ (memI 0 rfl) (by kernel_rfl))
   refine WP.loadB (v := AG [encA .u8 d1]) hB1 (by kernel_rfl) (by kernel_rfl) ?_
   refine WP.dn (Shown.ok (v := AG [encA .u8 d1]) (by kernel_rfl) (Step.refl _ _) ?_)
   exact ⟨tv, tv, tv, tv, tv, tv, rfl, tv, tv, tv, tv, tv, tv, tv⟩
  ·intro vs gq stq hl hf
   obtain ⟨v0, v1, v2, v3, v4, v5, v6, v7, rfl⟩ := len_k8 hl
   have hB1 := (show Box gq (t + 1) b1 61 [encA .u8 d1, [.int .i64 x1], [.slice a3 n3 c3], [.slice a8 n6 c7]] [8, 1, 1, 1] from hf _ (memI 0 rfl) (by kernel_rfl))
   refine WP.loadB (v := .int .i64 x1) hB1 (by kernel_rfl) (by kernel_rfl) ?_
   refine WP.dn (Shown.ok (v := .int .i64 x1) (by kernel_rfl) (Step.refl _ _) ?_)
   exact ⟨tv, tv, tv, tv, tv, tv, tv, rfl, tv, tv, tv, tv, tv, tv⟩
  ·intro vs gq stq hl hf
   obtain ⟨v0, v1, v2, v3, v4, v5, v6, v7, rfl⟩ := len_k8 hl
   have hB1 := (show Box gq (t + 1) b1 61 [encA .u8 d1, [.int .i64 x1], [.slice a3 n3 c3], [.slice a8 n6 c7]] [8, 1, 1, 1] from hf _ (memI 0 rfl) (by kernel_rfl))
   refine WP.loadB (v := .slice a3 n3 c3) hB1 (by kernel_rfl) (by kernel_rfl) ?_
   refine WP.dn (Shown.ok (v := .slice a3 n3 c3) (by kernel_rfl) (Step.refl _ _) ?_)
   exact ⟨tv, tv, tv, tv, tv, tv, tv, tv, rfl, tv, tv, tv, tv, tv⟩
  ·intro vs gq stq hl hf
   obtain ⟨v0, v1, v2, v3, v4, v5, v6, v7, rfl⟩ := len_k8 hl
   have hR3 := (show RdS (Kd.int .u8) gq 5 a3 n3 c3 l3 from hf _ (memI 1 rfl) (by kernel_rfl))
   have e1 := (show v1 = AG [encA .u8 d1] from hf _ (memI 6 rfl) (by kernel_rfl))
   subst e1
   have e2 := (show v2 = .int .i64 x1 from hf _ (memI 7 rfl) (by kernel_rfl))
   subst e2
   have e3 := (show v3 = .slice a3 n3 c3 from hf _ (memI 8 rfl) (by kernel_rfl))
   subst e3
   refine WP.buildS (places := #[(0, 8), (8, 1), (9, 1)]) (t := 63) [encA .u8 (zA 8), [.int .i64 0], [.slice none 0 0]] [8, 1, 1] (by kernel_rfl) (by kernel_rfl) (by simp [len_encA]) (by kernel_rfl) ((.cons (i := 0) (off := 0) (v := AG [encA .u8 d1]) (mid := [encA .u8 d1, [.int .i64 0], [.slice none 0 0]]) [encA .u8 d1] [8] (by kernel_rfl) (by kernel_rfl) (by simp [len_encA]) (by kernel_rfl) (.cons (i := 1) (off := 8) (v := .int .i64 x1) (mid := [encA .u8 d1, [.int .i64 x1], [.slice none 0 0]]) [[.int .i64 x1]] [1] (by kernel_rfl) (by kernel_rfl) rfl (by kernel_rfl) (.cons (i := 2) (off := 9) (v := .slice a3 n3 c3) (mid := [encA .u8 d1, [.int .i64 x1], [.slice a3 n3 c3]]) [[.slice a3 n3 c3]] [1] (by kernel_rfl) (by kernel_rfl) rfl (by kernel_rfl) .nil)))) ?_
   refine WP.dn (Shown.ok (v := AG [encA .u8 d1, [.int .i64 x1], [.slice a3 n3 c3]]) (by kernel_rfl) (Step.refl _ _) ?_)
   exact ⟨tv, tv, tv, tv, tv, tv, tv, tv, tv, rfl, tv, tv, tv, tv⟩
  ·intro vs gq stq hl hf
   obtain ⟨v0, v1, v2, v3, v4, v5, v6, v7, rfl⟩ := len_k8 hl
   have hR3 := (show RdS (Kd.int .u8) gq 5 a3 n3 c3 l3 from hf _ (memI 1 rfl) (by kernel_rfl))
   have hR8 := (show OwnS (Kd.slice 5 (Kd.int .u8)) gq (t + 5) 24 a8 n6 c7 l5 from hf _ (memI 2 rfl) (by kernel_rfl))
   have e4 := (show v4 = AG [encA .u8 d1, [.int .i64 x1], [.slice a3 n3 c3]] from hf _ (memI 9 rfl) (by kernel_rfl))
   subst e4
   refine WP.buildS (places := #[(0, 10), (10, 1)]) (t := 65) [encA .u8 (zA 8), [.int .i64 0], [.slice none 0 0], [.slice none 0 0]] [8, 1, 1, 1] (by kernel_rfl) (by kernel_rfl) (by simp [len_encA]) (by kernel_rfl) ((.cons (i := 0) (off := 0) (v := AG [encA .u8 d1, [.int .i64 x1], [.slice a3 n3 c3]]) (mid := [encA .u8 d1, [.int .i64 x1], [.slice a3 n3 c3], [.slice none 0 0]]) [encA .u8 d1, [.int .i64 x1], [.slice a3 n3 c3]] [8, 1, 1] (by kernel_rfl) (by kernel_rfl) (by simp [len_encA]) (by kernel_rfl) (.cons (i := 1) (off := 10) (v := .slice a8 n6 c7) (mid := [encA .u8 d1, [.int .i64 x1], [.slice a3 n3 c3], [.slice a8 n6 c7]]) [[.slice a8 n6 c7]] [1] (by kernel_rfl) (by kernel_rfl) rfl (by kernel_rfl) .nil))) ?_
   refine WP.dn (Shown.ok (v := AG [encA .u8 d1, [.int .i64 x1], [.slice a3 n3 c3], [.slice a8 n6 c7]]) (by kernel_rfl) (Step.refl _ _) ?_)
   exact ⟨tv, tv, tv, tv, tv, tv, tv, tv, tv, tv, rfl, tv, tv, tv⟩
  ·intro vs gq stq hl hf
   obtain ⟨v0, v1, v2, v3, v4, v5, v6, v7, rfl⟩ := len_k8 hl
   have hB2 := (show Box gq (t + 2) b2 61 [encA .u8 (zA 8), [.int .i64 0], [.slice none 0 0], [.slice none 0 0]] [8, 1, 1, 1] from hf _ (memI 3 rfl) (by kernel_rfl))
   have e0 := (show v0 = AG [encA .u8 d1, [.int .i64 x1], [.slice a3 n3 c3], [.slice a8 n6 c7]] from hf _ (memI 5 rfl) (by kernel_rfl))
   subst e0
   refine WP.storeB (ty := 61) (off := 0) (v := AG [encA .u8 d1, [.int .i64 x1], [.slice a3 n3 c3], [.slice a8 n6 c7]]) hB2 [encA .u8 d1, [.int .i64 x1], [.slice a3 n3 c3], [.slice a8 n6 c7]] [8, 1, 1, 1] (by kernel_rfl) (by kernel_rfl) (by simp [len_encA]) (by kernel_rfl) [encA .u8 d1, [.int .i64 x1], [.slice a3 n3 c3], [.slice a8 n6 c7]] (by kernel_rfl) (.arr (.one rfl (.one rfl (.one rfl .nil)))) ?_
   intro g22 st22 hB12
   refine WP.dn (Shown.o (v := undef) st22 ?_)
   exact ⟨tv, tv, tv, tv, tv, tv, tv, tv, tv, tv, tv, hB12, tv, tv⟩
  ·intro vs gq stq hl hf
   obtain ⟨v0, v1, v2, v3, v4, v5, v6, v7, rfl⟩ := len_k8 hl
   have hB3 := (show Box gq (t + 3) b3 65 [encA .u8 (zA 8), [.int .i64 0], [.slice none 0 0], [.slice none 0 0]] [8, 1, 1, 1] from hf _ (memI 4 rfl) (by kernel_rfl))
   have e5 := (show v5 = AG [encA .u8 d1, [.int .i64 x1], [.slice a3 n3 c3], [.slice a8 n6 c7]] from hf _ (memI 10 rfl) (by kernel_rfl))
   subst e5
   refine WP.storeB (ty := 65) (off := 0) (v := AG [encA .u8 d1, [.int .i64 x1], [.slice a3 n3 c3], [.slice a8 n6 c7]]) hB3 [encA .u8 d1, [.int .i64 x1], [.slice a3 n3 c3], [.slice a8 n6 c7]] [8, 1, 1, 1] (by kernel_rfl) (by kernel_rfl) (by simp [len_encA]) (by kernel_rfl) [encA .u8 d1, [.int .i64 x1], [.slice a3 n3 c3], [.slice a8 n6 c7]] (by kernel_rfl) (.arr (.one rfl (.one rfl (.one rfl .nil)))) ?_
   intro g23 st23 hB13
   refine WP.dn (Shown.o (v := undef) st23 ?_)
   exact ⟨tv, tv, tv, tv, tv, tv, tv, tv, tv, tv, tv, tv, hB13, tv⟩
 intro vs g24 st24 hl hf
 obtain ⟨v0, v1, v2, v3, v4, v5, v6, v7, rfl⟩ := len_k8 hl
 have hB2 := (show Box g24 (t + 2) b2 61 [encA .u8 d1, [.int .i64 x1], [.slice a3 n3 c3], [.slice a8 n6 c7]] [8, 1, 1, 1] from hf _ (memI 11 rfl) (by kernel_rfl))
 have hB3 := (show Box g24 (t + 3) b3 65 [encA .u8 d1, [.int .i64 x1], [.slice a3 n3 c3], [.slice a8 n6 c7]] [8, 1, 1, 1] from hf _ (memI 12 rfl) (by kernel_rfl))
 replace hR3 := hR3.mono st24 (WL.no2 (by omega) (by omega))
 replace hR8 := hR8.mono st24 (WL.no2 (by omega) (by omega)) (WL.no2 (by omega) (by omega))
 replace tot := tot.trans (st24.up2 (.inr (by omega)) (.inr (by omega)))
 refine NX.then_n ?_
 refine CP.refr 47 [(2, .pointer (some ⟨b2, 0, none⟩)), (3, .pointer (some ⟨b3, 0, none⟩))] (by kernel_rfl) (by kernel_rfl) ?_
 clear ds
 intro ds
 refine CP.ret ?_
 obtain ⟨g25, hw1, st25, hnew⟩ := hR8.freeze (by omega)
 refine NX.regw hw1 ?_
 replace hB2 := hB2.mono st25 (WL.no1 (by omega))
 replace hR3 := hR3.mono st25 (WL.no1 (by omega))
 replace hB3 := hB3.mono st25 (WL.no1 (by omega))
 replace tot := tot.trans (st25.up1 (.inr (by omega)))
 clear hR8
 have hR8 := hnew
 clear hnew
 replace hs := Option.some.inj hs
 simp only [Prod.mk.injEq] at hs
 obtain ⟨rfl, rfl, rfl, rfl, rfl, rfl, rfl, rfl⟩ := hs
 exact NX.fin (v := .tuple #[AG [encA .u8 d1, [.int .i64 x1], [.slice a3 n3 c3], [.slice a8 n6 c7]], AG [encA .u8 d1, [.int .i64 x1], [.slice a3 n3 c3], [.slice a8 n6 c7]]]) (Res.two rfl (RV.box (agg := true) (size := 11) (rs := [encA .u8 d1, [.int .i64 x1], [.slice a3 n3 c3], [.slice a8 n6 c7]]) hB2 (by kernel_rfl) (by kernel_rfl) (by kernel_rfl) (by kernel_rfl)) (RV.box (agg := true) (size := 11) (rs := [encA .u8 d1, [.int .i64 x1], [.slice a3 n3 c3], [.slice a8 n6 c7]]) hB3 (by kernel_rfl) (by kernel_rfl) (by kernel_rfl) (by kernel_rfl))) tot htL ⟨a3, n3, c3, a8, n6, c7, a3, n3, c3, a8, n6, c7, rfl, hR3, hR8, hR3, hR8⟩
def F.state_Signed_may_1 (l1 : List Int) : Option (Bool) := (some (decide ((l1.length : Int) > 4096)))
theorem P.state_Signed_may_1 (g0 : GW) (l1 : List Int) (a1 : Option Addr) (n1 : Nat) (c1 : Nat) (hR1 : RdS (Kd.int .u8) g0 5 a1 n1 c1 l1) (o1 : Bool) (hs : F.state_Signed_may_1 l1 = some o1) :
  Calls Try.prog 81 #[.slice a1 n1 c1] g0.w (Ret NoM g0 fun v g => v = .bool o1) := by
 refine calls_of (args := [.slice a1 n1 c1]) Try.func81 rfl (0) ?_
 intro t ht htL
 refine ⟨_, rfl, ?_⟩
 refine CP.refr 6 [(0, .slice a1 n1 c1)] (by kernel_rfl) (by kernel_rfl) ?_
 intro ds
 have tot : Step (fun l => NoM l ∨ t ≤ l) g0 g0 := Step.refl _ _
 unfold F.state_Signed_may_1 at hs
 refine CP.seqR ?_
 refine WP.stl 1 ?_
 refine WP.dn ?_
 refine NX.then_n ?_
 refine CP.seqR ?_
 refine WP.stl 1 ?_
 refine WP.len (a := a1) (cp := c1) hR1.len (by kernel_rfl) ?_
 refine WP.stl 2 ?_
 refine WP.dn ?_
 refine NX.then_n ?_
 refine CP.ret ?_
 replace hs := Option.some.inj hs
 obtain rfl := hs
 exact NX.fin (v := .bool (decide ((l1.length : Int) > 4096))) (Res.still (by kernel_rfl)) tot htL rfl
def F.slices_IndexFunc_byte_byte.l1 (l1 : List (List Int)) : Nat → Int → Option (Int)
 | 0, _ => none
 | k + 1, x1 => (if decide (x1 < (l1.length : Int)) = true then (if (0 : Int) ≤ x1 ∧ x1 < (l1.length : Int) then ((F.state_Signed_may_1 (getI l1 x1)).bind fun q3 => (if q3 = true then (some x1) else (F.slices_IndexFunc_byte_byte.l1 l1 k (IntKind.i64.wrap (x1 + 1))))) else none) else (some (-1)))
def F.slices_IndexFunc_byte_byte (l1 : List (List Int)) : Option (Int) := (F.slices_IndexFunc_byte_byte.l1 l1 fuel 0)
theorem P.slices_IndexFunc_byte_byte (g0 : GW) (l1 : List (List Int)) (a1 : Option Addr) (n1 : Nat) (c1 : Nat) (hR1 : RdS (Kd.slice 5 (Kd.int .u8)) g0 24 a1 n1 c1 l1) (o1 : Int) (hs : F.slices_IndexFunc_byte_byte l1 = some o1) :
  Calls Try.prog 92 #[.slice a1 n1 c1, .func (.func 81) #[] #[]] g0.w (Ret NoM g0 fun v g => v = .int .i64 o1) := by
 refine calls_of (args := [.slice a1 n1 c1, .func (.func 81) #[] #[]]) Try.func92 rfl (0) ?_
 intro t ht htL
 refine ⟨_, rfl, ?_⟩
 refine CP.refr 19 [(0, .slice a1 n1 c1), (1, .func (.func 81) #[] #[])] (by kernel_rfl) (by kernel_rfl) ?_
 intro ds
 have tot : Step (fun l => NoM l ∨ t ≤ l) g0 g0 := Step.refl _ _
 unfold F.slices_IndexFunc_byte_byte at hs
 refine CP.seqR ?_
 refine WP.stl 1 ?_
 refine WP.dn ?_
 refine NX.then_n ?_
 refine CP.seq ?_
 refine CP.seqR ?_
 refine WP.stl 1 ?_
 refine WP.len (a := a1) (cp := c1) hR1.len (by kernel_rfl) ?_
 refine WP.stl 1 ?_
 refine WP.dn ?_
 refine NX.then_n ?_
 refine CP.block ?_
 generalize fuel = k1 at hs
 refine CP.loop (fun k1 tm g => ∃ (x1 : Int), Fr 19 [(0, .slice a1 n1 c1), (1, .func (.func 81) #[] #[]), (7, .int .i64 (l1.length : Int)), (8, .int .i64 x1)] tm ∧ Step (fun l => NoM l ∨ t ≤ l) g0 g ∧ RdS (Kd.slice 5 (Kd.int .u8)) g 24 a1 n1 c1 l1 ∧ F.slices_IndexFunc_byte_byte.l1 l1 k1 x1 = some o1) k1 ?_ ?_ ?_
 ·exact ⟨0, ⟨by kernel_rfl, by kernel_rfl⟩, tot, hR1, hs⟩
 ·rintro tm g ⟨x1, hF, tot, hR1, hs⟩
  exact absurd hs (by simp [F.slices_IndexFunc_byte_byte.l1])
 clear tot hs hR1
 rintro k1 tm g ⟨x1, hF, tot, hR1, hs⟩
 clear ds
 obtain ⟨ds, rfl⟩ := hF.open
 clear hF
 unfold F.slices_IndexFunc_byte_byte.l1 at hs
 refine CP.seqR ?_
 refine WP.stl 1 ?_
 refine WP.dn ?_
 refine NX.then_n ?_
 refine CP.seq ?_
 refine CP.cond (b := decide (x1 < (l1.length : Int))) (by kernel_rfl) (fun h5 => ?_) (fun h5 => ?_)
 ·replace hs := of_if_t hs h5
  refine CP.skip ?_
  refine NX.then_n ?_
  refine CP.seq ?_
  refine CP.block ?_
  refine CP.seqR ?_
  refine WP.stl 2 ?_
  refine WP.dn ?_
  refine NX.then_n ?_
  refine CP.seqR ?_
  refine WP.stl 3 ?_
  by_cases hc3 : (0 : Int) ≤ x1 ∧ x1 < (l1.length : Int)
  case neg => rw [if_neg hc3] at hs; cases hs
  replace hs := of_if_p hs hc3
  obtain ⟨b3, u3, ha3⟩ := hR1.at hc3
  refine WP.indexA (t := 42) (e := 24) (sz := 1) (cap := c1) (k := .i64) (i := x1) hR1.len ha3 (by kernel_rfl) (by kernel_rfl) hc3 ?_
  obtain ⟨cs3, hcR3, hcV3⟩ := hR1.src.view (getI_some hc3) ha3
  obtain ⟨a4, n4, c4, hcR3, hR4⟩ := Kd.o_sl hcR3
  refine WP.loadV [[.slice a4 n4 c4]] [1] hcV3 hcR3 rfl (f := 0) (ty := 24) (agg := false) (size := 1) (rs := [[.slice a4 n4 c4]]) (v := .slice a4 n4 c4) (by kernel_rfl) (by kernel_rfl) (by kernel_rfl) (by kernel_rfl) ?_
  replace hs := Option.bind_eq_some_iff.1 hs
  obtain ⟨q3, hk3, hs⟩ := hs
  have hcal3 := P.state_Signed_may_1 g (getI l1 x1) a4 n4 c4 hR4 q3 hk3
  refine WP.callC hcal3 (by kernel_rfl) ?_
  rintro _ g3 st3 rfl
  replace hR1 := hR1.mono st3 (fun x => x)
  replace hR4 := hR4.mono st3 (fun x => x)
  replace tot := tot.trans st3.pure
  refine WP.dn ?_
  refine NX.then_n ?_
  refine CP.cond (b := q3) (by kernel_rfl) (fun h6 => ?_) (fun h6 => ?_)
  ·replace hs := of_if_t hs h6
   refine CP.seqR ?_
   refine WP.stl 2 ?_
   refine WP.dn ?_
   refine NX.then_n ?_
   refine CP.ret ?_
   refine NX.block_r ?_
   refine NX.then_r ?_
   refine NX.then_r ?_
   refine NX.block_r ?_
   refine NX.then_r ?_
   replace hs := Option.some.inj hs
   obtain rfl := hs
   exact NX.fin (v := .int .i64 x1) (Res.still (by kernel_rfl)) tot htL rfl
  replace hs := of_if_f hs h6
  refine CP.skip ?_
  refine NX.block_n ?_
  refine NX.then_n ?_
  refine CP.region ?_
  refine WP.stl 2 ?_
  refine WP.dn ?_
  refine NX.post ?_
  exact ⟨(IntKind.i64.wrap (x1 + 1)), ⟨by kernel_rfl, by kernel_rfl⟩, tot, hR1, hs⟩
 replace hs := of_if_f hs h5
 refine CP.exit ?_
 refine NX.then_e ?_
 refine NX.then_e ?_
 refine NX.block_s ?_
 refine NX.then_n ?_
 refine CP.seqR ?_
 refine WP.stl 1 ?_
 refine WP.dn ?_
 refine NX.then_n ?_
 refine CP.ret ?_
 replace hs := Option.some.inj hs
 obtain rfl := hs
 exact NX.fin (v := .int .i64 (-1)) (Res.still (by kernel_rfl)) tot htL rfl
def F.slices_ContainsFunc_byte_byte (l1 : List (List Int)) : Option (Bool) := ((F.slices_IndexFunc_byte_byte l1).bind fun x1 => (some (decide (x1 ≥ 0))))
theorem P.slices_ContainsFunc_byte_byte (g0 : GW) (l1 : List (List Int)) (a1 : Option Addr) (n1 : Nat) (c1 : Nat) (hR1 : RdS (Kd.slice 5 (Kd.int .u8)) g0 24 a1 n1 c1 l1) (o1 : Bool) (hs : F.slices_ContainsFunc_byte_byte l1 = some o1) :
  Calls Try.prog 80 #[.slice a1 n1 c1, .func (.func 81) #[] #[]] g0.w (Ret NoM g0 fun v g => v = .bool o1) := by
 refine calls_of (args := [.slice a1 n1 c1, .func (.func 81) #[] #[]]) Try.func80 rfl (0) ?_
 intro t ht htL
 refine ⟨_, rfl, ?_⟩
 refine CP.refr 9 [(0, .slice a1 n1 c1), (1, .func (.func 81) #[] #[])] (by kernel_rfl) (by kernel_rfl) ?_
 intro ds
 have tot : Step (fun l => NoM l ∨ t ≤ l) g0 g0 := Step.refl _ _
 unfold F.slices_ContainsFunc_byte_byte at hs
 refine CP.seqR ?_
 refine WP.stl 1 ?_
 refine WP.dn ?_
 refine NX.then_n ?_
 refine CP.seqR ?_
 refine WP.stl 2 ?_
 replace hs := Option.bind_eq_some_iff.1 hs
 obtain ⟨x1, hk1, hs⟩ := hs
 have hcal1 := P.slices_IndexFunc_byte_byte g0 l1 a1 n1 c1 hR1 x1 hk1
 refine WP.callC hcal1 (by kernel_rfl) ?_
 rintro _ g1 st1 rfl
 replace hR1 := hR1.mono st1 (fun x => x)
 replace tot := tot.trans st1.pure
 refine WP.stl 2 ?_
 refine WP.dn ?_
 refine NX.then_n ?_
 refine CP.ret ?_
 replace hs := Option.some.inj hs
 obtain rfl := hs
 exact NX.fin (v := .bool (decide (x1 ≥ 0))) (Res.still (by kernel_rfl)) tot htL rfl
def F.state_Signed_may.c1 (q2 : Bool) : Option (Bool) := (some q2)
def F.state_Signed_may (d1 : Arr Int 8) (x1 : Int) (l1 : List Int) (l2 : List (List Int)) : Option (Bool) := ((F.slices_ContainsFunc_byte_byte l2).bind fun q1 => (if (!q1) = true then (if decide (x1 ≥ 0) = true then (if decide (x1 ≤ 1099511627776) = true then (if decide ((l1.length : Int) ≤ 4096) = true then (if decide ((l2.length : Int) ≥ 2) = true then (F.state_Signed_may.c1 (decide ((l2.length : Int) ≤ 8))) else (F.state_Signed_may.c1 false)) else (F.state_Signed_may.c1 false)) else (F.state_Signed_may.c1 false)) else (F.state_Signed_may.c1 false)) else (F.state_Signed_may.c1 false)))
theorem P.state_Signed_may (g0 : GW) (d1 : Arr Int 8) (x1 : Int) (l1 : List Int) (l2 : List (List Int)) (a1 : Option Addr) (n1 : Nat) (c1 : Nat) (a2 : Option Addr) (n2 : Nat) (c2 : Nat) (hR1 : RdS (Kd.int .u8) g0 5 a1 n1 c1 l1) (hR2 : RdS (Kd.slice 5 (Kd.int .u8)) g0 24 a2 n2 c2 l2) (o1 : Bool) (hs : F.state_Signed_may d1 x1 l1 l2 = some o1) :
  Calls Try.prog 63 #[AG [encA .u8 d1, [.int .i64 x1], [.slice a1 n1 c1], [.slice a2 n2 c2]]] g0.w (Ret NoM g0 fun v g => v = .bool o1) := by
 refine calls_of (args := [AG [encA .u8 d1, [.int .i64 x1], [.slice a1 n1 c1], [.slice a2 n2 c2]]]) Try.func63 rfl (0) ?_
 intro t ht htL
 refine ⟨_, rfl, ?_⟩
 refine CP.refr 40 [(0, AG [encA .u8 d1, [.int .i64 x1], [.slice a1 n1 c1], [.slice a2 n2 c2]])] (by kernel_rfl) (by kernel_rfl) ?_
 intro ds
 have tot : Step (fun l => NoM l ∨ t ≤ l) g0 g0 := Step.refl _ _
 unfold F.state_Signed_may at hs
 refine CP.seqR ?_
 refine WP.alloc (T := 61) (t + 1) [encA .u8 d1, [.int .i64 x1], [.slice a1 n1 c1], [.slice a2 n2 c2]] [8, 1, 1, 1] (by kernel_rfl) (by simp [len_encA]) ?_
 intro g1 b1 st1 hB1
 replace hR1 := hR1.mono st1 (fun x => x)
 replace hR2 := hR2.mono st1 (fun x => x)
 replace tot := tot.trans st1.pure
 refine WP.stl 1 ?_
 refine WP.dn ?_
 refine NX.then_n ?_
 refine CP.seqR ?_
 refine WP.stl 1 ?_
 refine WP.loadB (v := .slice a2 n2 c2) hB1 (by kernel_rfl) (by kernel_rfl) ?_
 replace hs := Option.bind_eq_some_iff.1 hs
 obtain ⟨q1, hk1, hs⟩ := hs
 have hcal1 := P.slices_ContainsFunc_byte_byte g1 l2 a2 n2 c2 hR2 q1 hk1
 refine WP.callC hcal1 (by kernel_rfl) ?_
 rintro _ g2 st2 rfl
 replace hB1 := hB1.mono st2 (fun x => x)
 replace hR1 := hR1.mono st2 (fun x => x)
 replace hR2 := hR2.mono st2 (fun x => x)
 replace tot := tot.trans st2.pure
 refine WP.stl 1 ?_
 refine WP.dn ?_
 refine NX.then_n ?_
 refine CP.seqR ?_
 refine WP.stl 1 ?_
 refine WP.loadB (v := .slice a2 n2 c2) hB1 (by kernel_rfl) (by kernel_rfl) ?_
 refine WP.len (a := a2) (cp := c2) hR2.len (by kernel_rfl) ?_
 refine WP.stl 1 ?_
 refine WP.dn ?_
 refine NX.then_n ?_
 refine CP.cut (fun tm g => ∃ (q2 : Bool), Fr 40 [(2, .bool q2)] tm ∧ Step (fun l => NoM l ∨ t ≤ l) g0 g ∧ (F.state_Signed_may.c1 q2) = some o1) ?_ ?_
 ·refine CP.region ?_
  refine WP.stl 3 ?_
  refine WP.guard 13 (b := (!q1)) (by kernel_rfl) (fun h6 => ?_) (fun h6 => ?_)
  ·replace hs := of_if_t hs h6
   refine WP.stl 2 ?_
   refine WP.loadB (v := .int .i64 x1) hB1 (by kernel_rfl) (by kernel_rfl) ?_
   refine WP.stl 3 ?_
   refine WP.guard 19 (b := decide (x1 ≥ 0)) (by kernel_rfl) (fun h7 => ?_) (fun h7 => ?_)
   ·replace hs := of_if_t hs h7
    refine WP.stl 2 ?_
    refine WP.loadB (v := .int .i64 x1) hB1 (by kernel_rfl) (by kernel_rfl) ?_
    refine WP.stl 3 ?_
    refine WP.guard 25 (b := decide (x1 ≤ 1099511627776)) (by kernel_rfl) (fun h8 => ?_) (fun h8 => ?_)
    ·replace hs := of_if_t hs h8
     refine WP.stl 2 ?_
     refine WP.loadB (v := .slice a1 n1 c1) hB1 (by kernel_rfl) (by kernel_rfl) ?_
     refine WP.len (a := a1) (cp := c1) hR1.len (by kernel_rfl) ?_
     refine WP.stl 3 ?_
     refine WP.guard 32 (b := decide ((l1.length : Int) ≤ 4096)) (by kernel_rfl) (fun h9 => ?_) (fun h9 => ?_)
     ·replace hs := of_if_t hs h9
      refine WP.stl 4 ?_
      refine WP.guard 36 (b := decide ((l2.length : Int) ≥ 2)) (by kernel_rfl) (fun h10 => ?_) (fun h10 => ?_)
      ·replace hs := of_if_t hs h10
       refine WP.stl 4 ?_
       refine WP.dn ?_
       refine NX.post ?_
       exact ⟨decide ((l2.length : Int) ≤ 8), ⟨by kernel_rfl, by kernel_rfl⟩, tot, hs⟩
      replace hs := of_if_f hs h10
      refine WP.stl 4 ?_
      refine WP.dn ?_
      refine NX.post ?_
      exact ⟨false, ⟨by kernel_rfl, by kernel_rfl⟩, tot, hs⟩
     replace hs := of_if_f hs h9
     refine WP.stl 8 ?_
     refine WP.dn ?_
     refine NX.post ?_
     exact ⟨false, ⟨by kernel_rfl, by kernel_rfl⟩, tot, hs⟩
    replace hs := of_if_f hs h8
    refine WP.stl 15 ?_
    refine WP.dn ?_
    refine NX.post ?_
    exact ⟨false, ⟨by kernel_rfl, by kernel_rfl⟩, tot, hs⟩
   replace hs := of_if_f hs h7
   refine WP.stl 21 ?_
   refine WP.dn ?_
   refine NX.post ?_
   exact ⟨false, ⟨by kernel_rfl, by kernel_rfl⟩, tot, hs⟩
  replace hs := of_if_f hs h6
  refine WP.stl 27 ?_
  refine WP.dn ?_
  refine NX.post ?_
  exact ⟨false, ⟨by kernel_rfl, by kernel_rfl⟩, tot, hs⟩
 clear tot hs hB1 hR1 hR2
 rintro tm g ⟨q2, hF, tot, hs⟩
 clear ds
 obtain ⟨ds, rfl⟩ := hF.open
 clear hF
 unfold F.state_Signed_may.c1 at hs
 refine CP.ret ?_
 replace hs := Option.some.inj hs
 obtain rfl := hs
 exact NX.fin (v := .bool q2) (Res.still (by kernel_rfl)) tot htL rfl
def F.slices_Clone_byte_byte_nil : Option ((List Int)) := (some ([]))
theorem P.slices_Clone_byte_byte_nil (g0 : GW) (r0 : Nat) (o1 : List Int) (hs : F.slices_Clone_byte_byte_nil = some o1) :
  Calls Try.prog 45 #[.slice none 0 0] g0.w (Ret NoM g0 fun v g => ∃ (a_1 : Option Addr) (n_1 : Nat) (c_1 : Nat), v = .slice a_1 n_1 c_1 ∧ OwnS (Kd.int .u8) g r0 5 a_1 n_1 c_1 o1) := by
 refine calls_of (args := [.slice none 0 0]) Try.func45 rfl (r0 + 0) ?_
 intro t ht htL
 refine ⟨_, rfl, ?_⟩
 refine CP.refr 8 [(0, .slice none 0 0)] (by kernel_rfl) (by kernel_rfl) ?_
 intro ds
 have tot : Step (fun l => NoM l ∨ t ≤ l) g0 g0 := Step.refl _ _
 unfold F.slices_Clone_byte_byte_nil at hs
 refine CP.seqR ?_
 refine WP.stl 1 ?_
 refine WP.dn ?_
 refine NX.then_n ?_
 refine CP.seq ?_
 refine CP.seqR ?_
 refine WP.stl 2 ?_
 refine WP.dn ?_
 refine NX.then_n ?_
 refine CP.cond_t (by kernel_rfl) ?_
 refine CP.seqR ?_
 refine WP.stl 1 ?_
 refine WP.dn ?_
 refine NX.then_n ?_
 refine CP.ret ?_
 refine NX.then_r ?_
 replace hs := Option.some.inj hs
 obtain rfl := hs
 exact NX.fin (v := .slice none 0 0) (Res.still (by kernel_rfl)) tot htL ⟨none, 0, 0, rfl, (OwnS.nil _ _ _ _)⟩
def F.slices_Clone_byte_byte_some (l1 : List Int) : Option ((List Int)) := (if ([] : List Int).length + l1.length ≤ 140737488355328 then (some (([] : List Int) ++ l1)) else none)
theorem P.slices_Clone_byte_byte_some (g0 : GW) (r0 : Nat) (l1 : List Int) (n1 : Nat) (c1 : Nat) (p1 : Addr) (hR1 : RdS (Kd.int .u8) g0 5 (some p1) n1 c1 l1) (o1 : List Int) (hs : F.slices_Clone_byte_byte_some l1 = some o1) :
  Calls Try.prog 45 #[.slice (some p1) n1 c1] g0.w (Ret NoM g0 fun v g => ∃ (a_1 : Option Addr) (n_1 : Nat) (c_1 : Nat), v = .slice a_1 n_1 c_1 ∧ OwnS (Kd.int .u8) g r0 5 a_1 n_1 c_1 o1) := by
 refine calls_of (args := [.slice (some p1) n1 c1]) Try.func45 rfl (r0 + 0) ?_
 intro t ht htL
 refine ⟨_, rfl, ?_⟩
 refine CP.refr 8 [(0, .slice (some p1) n1 c1)] (by kernel_rfl) (by kernel_rfl) ?_
 intro ds
 have tot : Step (fun l => NoM l ∨ t ≤ l) g0 g0 := Step.refl _ _
 unfold F.slices_Clone_byte_byte_some at hs
 refine CP.seqR ?_
 refine WP.stl 1 ?_
 refine WP.dn ?_
 refine NX.then_n ?_
 refine CP.seq ?_
 refine CP.seqR ?_
 refine WP.stl 2 ?_
 refine WP.dn ?_
 refine NX.then_n ?_
 refine CP.cond_f (by kernel_rfl) ?_
 refine CP.skip ?_
 refine NX.then_n ?_
 refine CP.seqR ?_
 refine WP.mkSl (kd := (Kd.int .u8)) (t := 24) (e := 5) (bytes := 1) (t + 1) [] ([] : List Int) (by kernel_rfl) (by kernel_rfl) (Nat.le_of_ble_eq_true rfl) (Nat.le_of_ble_eq_true rfl) all_nil (rfl) rfl ?_
 intro g1 a1 st1 hR2
 replace hR1 := hR1.mono st1 (fun x => x)
 replace tot := tot.trans st1.pure
 refine WP.stl 1 ?_
 by_cases hc1 : ([] : List Int).length + l1.length ≤ 140737488355328
 case neg => rw [if_neg hc1] at hs; cases hs
 replace hs := of_if_p hs hc1
 refine WP.append (kd := (Kd.int .u8)) (t := 24) (e := 5) (bytes := 1) (a2 := (some p1)) (c2 := c1) hR2 hR1.src hR1.len (by kernel_rfl) (by kernel_rfl) (by omega) (by simp only [maxLen]; omega) (by omega) ?_
 intro g2 a2 c2 st2 hR3
 replace hR1 := hR1.mono st2 (WL.no1 (by omega))
 replace tot := tot.trans (st2.up1 (.inr (by omega)))
 refine WP.stl 1 ?_
 refine WP.dn ?_
 refine NX.then_n ?_
 refine CP.ret ?_
 obtain ⟨g3, hw1, st3, hnew⟩ := hR3.relab (by omega) r0
 refine NX.regw hw1 ?_
 replace tot := tot.trans (st3.up1 (.inr (by omega)))
 clear hR3
 have hR3 := hnew
 clear hnew
 replace hs := Option.some.inj hs
 obtain rfl := hs
 exact NX.fin (v := .slice a2 (0 + n1) c2) (Res.still (by kernel_rfl)) tot htL ⟨a2, (0 + n1), c2, rfl, hR3⟩
def F.slices_Clone_byte_byte (l1 : List Int) : Option ((List Int)) := F.slices_Clone_byte_byte_some l1
theorem P.slices_Clone_byte_byte (g0 : GW) (r0 : Nat) (l1 : List Int) (a1 : Option Addr) (n1 : Nat) (c1 : Nat) (hR1 : RdS (Kd.int .u8) g0 5 a1 n1 c1 l1) (o1 : List Int) (hs : F.slices_Clone_byte_byte l1 = some o1) :
  Calls Try.prog 45 #[.slice a1 n1 c1] g0.w (Ret NoM g0 fun v g => ∃ (a_1 : Option Addr) (n_1 : Nat) (c_1 : Nat), v = .slice a_1 n_1 c_1 ∧ OwnS (Kd.int .u8) g r0 5 a_1 n_1 c_1 o1) := by
 rcases hR1.nilOr with ⟨rfl, rfl, rfl, rfl⟩ | ⟨b, rfl⟩
 ·exact P.slices_Clone_byte_byte_nil _ _ _ hs
 ·exact P.slices_Clone_byte_byte_some _ _ _ _ _ _ hR1 _ hs
def F.octet_PutNum.l1 : Nat → Int → (List Int) → Option ((List Int))
 | 0, _, _ => none
 | k + 1, x2, l3 => (if decide (x2 ≥ 128) = true then (if l3.length + ([(bitOr .u8 (IntKind.u8.wrap x2) 128)]).length ≤ 140737488355328 then (F.octet_PutNum.l1 k (shV false .u64 x2 7) (l3 ++ [(bitOr .u8 (IntKind.u8.wrap x2) 128)])) else none) else (if l3.length + ([(IntKind.u8.wrap x2)]).length ≤ 140737488355328 then (some (l3 ++ [(IntKind.u8.wrap x2)])) else none))
def F.octet_PutNum (l1 : List Int) (x1 : Int) : Option ((List Int)) := ((F.slices_Clone_byte_byte l1).bind fun l2 => (F.octet_PutNum.l1 fuel x1 l2))
theorem P.octet_PutNum (g0 : GW) (r0 : Nat) (l1 : List Int) (x1 : Int) (a1 : Option Addr) (n1 : Nat) (c1 : Nat) (hR1 : RdS (Kd.int .u8) g0 5 a1 n1 c1 l1) (o1 : List Int) (hs : F.octet_PutNum l1 x1 = some o1) :
  Calls Try.prog 43 #[.slice a1 n1 c1, .int .u64 x1] g0.w (Ret NoM g0 fun v g => ∃ (a_1 : Option Addr) (n_1 : Nat) (c_1 : Nat), v = .slice a_1 n_1 c_1 ∧ OwnS (Kd.int .u8) g r0 5 a_1 n_1 c_1 o1) := by
 refine calls_of (args := [.slice a1 n1 c1, .int .u64 x1]) Try.func43 rfl (r0 + 0) ?_
 intro t ht htL
 refine ⟨_, rfl, ?_⟩
 refine CP.refr 23 [(0, .slice a1 n1 c1), (1, .int .u64 x1)] (by kernel_rfl) (by kernel_rfl) ?_
 intro ds
 have tot : Step (fun l => NoM l ∨ t ≤ l) g0 g0 := Step.refl _ _
 unfold F.octet_PutNum at hs
 refine CP.seqR ?_
 refine WP.stl 1 ?_
 refine WP.dn ?_
 refine NX.then_n ?_
 refine CP.seqR ?_
 refine WP.stl 1 ?_
 replace hs := Option.bind_eq_some_iff.1 hs
 obtain ⟨l2, hk1, hs⟩ := hs
 have hcal1 := P.slices_Clone_byte_byte g0 (t + 1) l1 a1 n1 c1 hR1 l2 hk1
 refine WP.callC hcal1 (by kernel_rfl) ?_
 rintro _ g1 st1 ⟨a2, n2, c2, rfl, hR2⟩
 replace hR1 := hR1.mono st1 (fun x => x)
 replace tot := tot.trans st1.pure
 refine WP.stl 1 ?_
 refine WP.dn ?_
 refine NX.then_n ?_
 refine CP.seq ?_
 refine CP.block ?_
 generalize fuel = k1 at hs
 refine CP.loop (fun k1 tm g => ∃ (x2 : Int) (l3 : List Int) (a7 : Option Addr) (n3 : Nat) (c5 : Nat), Fr 23 [(1, .int .u64 x2), (5, .slice a7 n3 c5)] tm ∧ Step (fun l => NoM l ∨ t ≤ l) g0 g ∧ OwnS (Kd.int .u8) g (t + 1) 5 a7 n3 c5 l3 ∧ F.octet_PutNum.l1 k1 x2 l3 = some o1) k1 ?_ ?_ ?_
 ·exact ⟨x1, l2, a2, n2, c2, ⟨by kernel_rfl, by kernel_rfl⟩, tot, hR2, hs⟩
 ·rintro tm g ⟨x2, l3, a7, n3, c5, hF, tot, hR7, hs⟩
  exact absurd hs (by simp [F.octet_PutNum.l1])
 clear tot hs hR2
 rintro k1 tm g ⟨x2, l3, a7, n3, c5, hF, tot, hR7, hs⟩
 clear ds
 obtain ⟨ds, rfl⟩ := hF.open
 clear hF
 unfold F.octet_PutNum.l1 at hs
 refine CP.seq ?_
 refine CP.seqR ?_
 refine WP.stl 2 ?_
 refine WP.dn ?_
 refine NX.then_n ?_
 refine CP.cond (b := decide (x2 ≥ 128)) (by kernel_rfl) (fun h3 => ?_) (fun h3 => ?_)
 ·replace hs := of_if_t hs h3
  refine CP.skip ?_
  refine NX.then_n ?_
  refine CP.block ?_
  refine CP.seqR ?_
  refine WP.stl 4 ?_
  refine WP.mkSl (kd := (Kd.int .u8)) (t := 24) (e := 5) (bytes := 1) (t + 6) [.int .u8 (bitOr .u8 (IntKind.u8.wrap x2) 128)] [(bitOr .u8 (IntKind.u8.wrap x2) 128)] (by kernel_rfl) (by kernel_rfl) (Nat.le_of_ble_eq_true rfl) (Nat.le_of_ble_eq_true rfl) (all_cons rfl all_nil) (⟨_, _, rfl, (by exact rfl), rfl⟩) rfl ?_
  intro g10 a13 st10 hR13
  replace hR7 := hR7.mono st10 (fun x => x) (fun x => x)
  replace tot := tot.trans st10.pure
  by_cases hc5 : l3.length + ([(bitOr .u8 (IntKind.u8.wrap x2) 128)]).length ≤ 140737488355328
  case neg => rw [if_neg hc5] at hs; cases hs
  replace hs := of_if_p hs hc5
  refine WP.append (kd := (Kd.int .u8)) (t := 24) (e := 5) (bytes := 1) (a2 := a13) (c2 := 1) hR7 hR13.src hR13.len (by kernel_rfl) (by kernel_rfl) (by omega) (by simp only [maxLen]; omega) (by omega) ?_
  intro g11 a14 c9 st11 hR14
  replace hR13 := hR13.mono st11 (WL.no1 (by omega)) (WL.no1 (by omega))
  replace tot := tot.trans (st11.up1 (.inr (by omega)))
  refine WP.stl 1 ?_
  refine WP.dn ?_
  refine NX.then_n ?_
  refine CP.region ?_
  refine WP.stl 3 ?_
  refine WP.dn ?_
  refine NX.block_n ?_
  refine NX.post ?_
  exact ⟨(shV false .u64 x2 7), (l3 ++ [(bitOr .u8 (IntKind.u8.wrap x2) 128)]), a14, (n3 + 1), c9, ⟨by kernel_rfl, by kernel_rfl⟩, tot, hR14, hs⟩
 replace hs := of_if_f hs h3
 refine CP.exit ?_
 refine NX.then_e ?_
 refine NX.then_e ?_
 refine NX.block_s ?_
 refine NX.then_n ?_
 refine CP.seqR ?_
 refine WP.stl 3 ?_
 refine WP.mkSl (kd := (Kd.int .u8)) (t := 24) (e := 5) (bytes := 1) (t + 7) [.int .u8 (IntKind.u8.wrap x2)] [(IntKind.u8.wrap x2)] (by kernel_rfl) (by kernel_rfl) (Nat.le_of_ble_eq_true rfl) (Nat.le_of_ble_eq_true rfl) (all_cons rfl all_nil) (⟨_, _, rfl, (by exact rfl), rfl⟩) rfl ?_
 intro g12 a15 st12 hR15
 replace hR7 := hR7.mono st12 (fun x => x) (fun x => x)
 replace tot := tot.trans st12.pure
 by_cases hc6 : l3.length + ([(IntKind.u8.wrap x2)]).length ≤ 140737488355328
 case neg => rw [if_neg hc6] at hs; cases hs
 replace hs := of_if_p hs hc6
 refine WP.append (kd := (Kd.int .u8)) (t := 24) (e := 5) (bytes := 1) (a2 := a15) (c2 := 1) hR7 hR15.src hR15.len (by kernel_rfl) (by kernel_rfl) (by omega) (by simp only [maxLen]; omega) (by omega) ?_
 intro g13 a16 c10 st13 hR16
 replace hR15 := hR15.mono st13 (WL.no1 (by omega)) (WL.no1 (by omega))
 replace tot := tot.trans (st13.up1 (.inr (by omega)))
 refine WP.stl 1 ?_
 refine WP.dn ?_
 refine NX.then_n ?_
 refine CP.ret ?_
 obtain ⟨g14, hw1, st14, hnew⟩ := hR16.relab (by omega) r0
 refine NX.regw hw1 ?_
 replace tot := tot.trans (st14.up1 (.inr (by omega)))
 clear hR16
 have hR16 := hnew
 clear hnew
 replace hs := Option.some.inj hs
 obtain rfl := hs
 exact NX.fin (v := .slice a16 (n3 + 1) c10) (Res.still (by kernel_rfl)) tot htL ⟨a16, (n3 + 1), c10, rfl, hR16⟩
def F.octet_PutBytes (l1 : List Int) (l2 : List Int) : Option ((List Int)) := ((F.octet_PutNum l1 (IntKind.u64.wrap (l2.length : Int))).bind fun l3 => (if l3.length + l2.length ≤ 140737488355328 then (some (l3 ++ l2)) else none))
theorem P.octet_PutBytes (g0 : GW) (r0 : Nat) (l1 : List Int) (l2 : List Int) (a1 : Option Addr) (n1 : Nat) (c1 : Nat) (a2 : Option Addr) (n2 : Nat) (c2 : Nat) (hR1 : RdS (Kd.int .u8) g0 5 a1 n1 c1 l1) (hR2 : RdS (Kd.int .u8) g0 5 a2 n2 c2 l2) (o1 : List Int) (hs : F.octet_PutBytes l1 l2 = some o1) :
  Calls Try.prog 40 #[.slice a1 n1 c1, .slice a2 n2 c2] g0.w (Ret NoM g0 fun v g => ∃ (a_1 : Option Addr) (n_1 : Nat) (c_1 : Nat), v = .slice a_1 n_1 c_1 ∧ OwnS (Kd.int .u8) g r0 5 a_1 n_1 c_1 o1) := by
 refine calls_of (args := [.slice a1 n1 c1, .slice a2 n2 c2]) Try.func40 rfl (r0 + 0) ?_
 intro t ht htL
 refine ⟨_, rfl, ?_⟩
 refine CP.refr 12 [(0, .slice a1 n1 c1), (1, .slice a2 n2 c2)] (by kernel_rfl) (by kernel_rfl) ?_
 intro ds
 have tot : Step (fun l => NoM l ∨ t ≤ l) g0 g0 := Step.refl _ _
 unfold F.octet_PutBytes at hs
 refine CP.seqR ?_
 refine WP.stl 1 ?_
 refine WP.dn ?_
 refine NX.then_n ?_
 refine CP.seqR ?_
 refine WP.stl 2 ?_
 refine WP.len (a := a2) (cp := c2) hR2.len (by kernel_rfl) ?_
 refine WP.stl 1 ?_
 replace hs := Option.bind_eq_some_iff.1 hs
 obtain ⟨l3, hk1, hs⟩ := hs
 have hcal1 := P.octet_PutNum g0 (t + 1) l1 (IntKind.u64.wrap (l2.length : Int)) a1 n1 c1 hR1 l3 hk1
 refine WP.callC hcal1 (by kernel_rfl) ?_
 rintro _ g1 st1 ⟨a3, n3, c3, rfl, hR3⟩
 replace hR1 := hR1.mono st1 (fun x => x)
 replace hR2 := hR2.mono st1 (fun x => x)
 replace tot := tot.trans st1.pure
 refine WP.stl 1 ?_
 by_cases hc1 : l3.length + l2.length ≤ 140737488355328
 case neg => rw [if_neg hc1] at hs; cases hs
 replace hs := of_if_p hs hc1
 refine WP.append (kd := (Kd.int .u8)) (t := 24) (e := 5) (bytes := 1) (a2 := a2) (c2 := c2) hR3 hR2.src hR2.len (by kernel_rfl) (by kernel_rfl) (by omega) (by simp only [maxLen]; omega) (by omega) ?_
 intro g2 a4 c4 st2 hR4
 replace hR1 := hR1.mono st2 (WL.no1 (by omega))
 replace hR2 := hR2.mono st2 (WL.no1 (by omega))
 replace tot := tot.trans (st2.up1 (.inr (by omega)))
 refine WP.stl 1 ?_
 refine WP.dn ?_
 refine NX.then_n ?_
 refine CP.ret ?_
 obtain ⟨g3, hw1, st3, hnew⟩ := hR4.relab (by omega) r0
 refine NX.regw hw1 ?_
 replace tot := tot.trans (st3.up1 (.inr (by omega)))
 clear hR4
 have hR4 := hnew
 clear hnew
 replace hs := Option.some.inj hs
 obtain rfl := hs
 exact NX.fin (v := .slice a4 (n3 + n2) c4) (Res.still (by kernel_rfl)) tot htL ⟨a4, (n3 + n2), c4, rfl, hR4⟩
def N.state_Signed_Encode_0 : List (List Nat) := [[], [0], [0, 1], [0, 1, 2], [], [4], [4, 5], [4, 5, 6], [0, 1, 2, 3, 4, 5, 6, 7], [0, 1, 2, 3, 4, 5, 6, 7, 8]]
def N.state_Signed_Encode_1 : List (List Nat) := [[], [], [1], [1, 2], [0, 1, 2, 3], [], [5], [5, 6], [5, 6, 7], [0, 1, 2, 3, 4, 5, 6, 7, 8], [0, 1, 2, 3, 4, 5, 6, 7, 8, 9]]
def F.state_Signed_Encode.l1 (l2 : List (List Int)) : Nat → (List Int) → Int → Option ((List Int) × Int)
 | 0, _, _ => none
 | k + 1, l9, x2 => (if decide (x2 < (l2.length : Int)) = true then (if (0 : Int) ≤ x2 ∧ x2 < (l2.length : Int) then ((F.octet_PutBytes l9 (getI l2 x2)).bind fun l12 => (F.state_Signed_Encode.l1 l2 k l12 (IntKind.i64.wrap (x2 + 1)))) else none) else (some (l9, 0)))
def F.state_Signed_Encode (d1 : Arr Int 8) (x1 : Int) (l1 : List Int) (l2 : List (List Int)) : Option ((List Int) × Int) := ((F.state_Signed_may d1 x1 l1 l2).bind fun q1 => (if (!q1) = true then (some ([], 2)) else ((F.octet_PutBytes ([]) d1.1).bind fun l3 => ((F.octet_PutNum l3 (IntKind.u64.wrap x1)).bind fun l4 => ((F.octet_PutBytes l4 l1).bind fun l6 => ((F.octet_PutNum l6 (IntKind.u64.wrap (l2.length : Int))).bind fun l7 => (F.state_Signed_Encode.l1 l2 fuel l7 0)))))))
theorem P.state_Signed_Encode (g0 : GW) (r0 : Nat) (d1 : Arr Int 8) (x1 : Int) (l1 : List Int) (l2 : List (List Int)) (a1 : Option Addr) (n1 : Nat) (c1 : Nat) (a2 : Option Addr) (n2 : Nat) (c2 : Nat) (hR1 : RdS (Kd.int .u8) g0 5 a1 n1 c1 l1) (hR2 : RdS (Kd.slice 5 (Kd.int .u8)) g0 24 a2 n2 c2 l2) (o1 : List Int) (o2 : Int) (hs : F.state_Signed_Encode d1 x1 l1 l2 = some (o1, o2)) :
  Calls Try.prog 31 #[AG [encA .u8 d1, [.int .i64 x1], [.slice a1 n1 c1], [.slice a2 n2 c2]]] g0.w (Ret NoM g0 fun v g => ∃ (a_1 : Option Addr) (n_1 : Nat) (c_1 : Nat), v = .tuple #[.slice a_1 n_1 c_1, .int .i64 o2] ∧ OwnS (Kd.int .u8) g r0 5 a_1 n_1 c_1 o1) := by
 refine calls_of (args := [AG [encA .u8 d1, [.int .i64 x1], [.slice a1 n1 c1], [.slice a2 n2 c2]]]) Try.func31 rfl (r0 + 0) ?_
 intro t ht htL
 refine ⟨_, rfl, ?_⟩
 refine CP.refr 41 [(0, AG [encA .u8 d1, [.int .i64 x1], [.slice a1 n1 c1], [.slice a2 n2 c2]])] (by kernel_rfl) (by kernel_rfl) ?_
 intro ds
 have tot : Step (fun l => NoM l ∨ t ≤ l) g0 g0 := Step.refl _ _
 unfold F.state_Signed_Encode at hs
 refine CP.seqR ?_
 refine WP.alloc (T := 61) (t + 1) [encA .u8 d1, [.int .i64 x1], [.slice a1 n1 c1], [.slice a2 n2 c2]] [8, 1, 1, 1] (by kernel_rfl) (by simp [len_encA]) ?_
 intro g1 b1 st1 hB1
 replace hR1 := hR1.mono st1 (fun x => x)
 replace hR2 := hR2.mono st1 (fun x => x)
 replace tot := tot.trans st1.pure
 refine WP.stl 2 ?_
 refine WP.dn ?_
 refine NX.then_n ?_
 refine CP.seq ?_
 refine CP.seqR ?_
 refine WP.loadB (v := AG [encA .u8 d1, [.int .i64 x1], [.slice a1 n1 c1], [.slice a2 n2 c2]]) hB1 (by kernel_rfl) (by kernel_rfl) ?_
 replace hs := Option.bind_eq_some_iff.1 hs
 obtain ⟨q1, hk1, hs⟩ := hs
 have hcal1 := P.state_Signed_may g1 d1 x1 l1 l2 a1 n1 c1 a2 n2 c2 hR1 hR2 q1 hk1
 refine WP.callC hcal1 (by kernel_rfl) ?_
 rintro _ g2 st2 rfl
 replace hB1 := hB1.mono st2 (fun x => x)
 replace hR1 := hR1.mono st2 (fun x => x)
 replace hR2 := hR2.mono st2 (fun x => x)
 replace tot := tot.trans st2.pure
 refine WP.stl 1 ?_
 refine WP.dn ?_
 refine NX.then_n ?_
 refine CP.cond (b := (!q1)) (by kernel_rfl) (fun h1 => ?_) (fun h1 => ?_)
 ·replace hs := of_if_t hs h1
  refine CP.seqR ?_
  refine WP.stl 2 ?_
  refine WP.dn ?_
  refine NX.then_n ?_
  refine CP.ret ?_
  refine NX.then_r ?_
  replace hs := Option.some.inj hs
  obtain ⟨rfl, rfl⟩ := Prod.mk.inj hs
  exact NX.fin (v := .tuple #[.slice none 0 0, .int .i64 2]) (Res.still (by kernel_rfl)) tot htL ⟨none, 0, 0, rfl, (OwnS.nil _ _ _ _)⟩
 replace hs := of_if_f hs h1
 refine CP.skip ?_
 refine NX.then_n ?_
 refine CP.seq ?_
 obtain ⟨g3, hw1, st3, hnew⟩ := hB1.relab 0
 refine CP.regw hw1 ?_
 replace hR1 := hR1.mono st3 (WL.no1 (by omega))
 replace hR2 := hR2.mono st3 (WL.no1 (by omega))
 replace tot := tot.trans (st3.up1 (.inr (by omega)))
 clear hB1
 have hB1 := hnew
 clear hnew
 replace hs := Option.bind_eq_some_iff.1 hs
 obtain ⟨l3, hk2, hs⟩ := hs
 replace hs := Option.bind_eq_some_iff.1 hs
 obtain ⟨l4, hk3, hs⟩ := hs
 refine CP.drawL (by kernel_rfl) [2, 3, 6, 8] N.state_Signed_Encode_0 [⟨none, [], [], fun l g => Box g 0 b1 61 [encA .u8 d1, [.int .i64 x1], [.slice a1 n1 c1], [.slice a2 n2 c2]] [8, 1, 1, 1]⟩, ⟨some 0, [], [0], fun l g => ∃ (a4 : Option Addr), l.getD 0 undef = .slice a4 ((8 : Int).toNat - (0 : Int).toNat) (8 - (0 : Int).toNat) ∧ RdS (Kd.int .u8) g 5 a4 ((8 : Int).toNat - (0 : Int).toNat) (8 - (0 : Int).toNat) d1.1⟩, ⟨some 1, [0], [1], fun l g => ∃ (a5 : Option Addr) (c3 : Nat), l.getD 0 undef = .slice a5 l3.length c3 ∧ OwnS (Kd.int .u8) g (t + 2) 5 a5 l3.length c3 l3⟩, ⟨some 2, [], [2], fun l g => l.getD 0 undef = .int .i64 x1⟩, ⟨some 3, [], [3], fun l g => ∃ (a6 : Option Addr) (c4 : Nat), l.getD 0 undef = .slice a6 l4.length c4 ∧ OwnS (Kd.int .u8) g (t + 3) 5 a6 l4.length c4 l4⟩, ⟨some 3, [], [1], fun l g => ∃ (a5 : Option Addr) (c3 : Nat), l.getD 0 undef = .slice a5 l3.length c3 ∧ RdS (Kd.int .u8) g 5 a5 l3.length c3 l3⟩] [[], [], [], [0]] [(t + 2)] [0, 1, 4, 5] [7, 9] (by kernel_rfl) (by simp <;> omega) (by simp) ⟨fun _ _ _ _ st h0 hl hj hB1 => (hB1.mono st (fun h => absurd (hl _ h) (by simp <;> omega))), fun _ _ _ _ st h0 hl hj ⟨a4, e0, hR4⟩ => ⟨a4, e0, (RdS.mono (e := 5) hR4 st h0)⟩, fun _ _ _ _ st h0 hl hj ⟨a5, c3, e1, hR5⟩ => ⟨a5, c3, e1, (hR5.mono st h0 (hj 0 (by simp) _ rfl))⟩, fun _ _ _ _ st h0 hl hj e2 => e2, fun _ _ _ _ st h0 hl hj ⟨a6, c4, e3, hR6⟩ => ⟨a6, c4, e3, (hR6.mono st h0 (fun h => absurd (hl _ h) (by simp <;> omega)))⟩, fun _ _ _ _ st h0 hl hj ⟨a5, c3, e1, hR5⟩ => ⟨a5, c3, e1, (RdS.mono (e := 5) hR5 st h0)⟩, tv⟩ ⟨hB1, tv, tv, tv, tv, tv, tv⟩ (by kernel_rfl) (fun vs => by kernel_rfl) ?_ ?_ ?_
 ·intro j hj
  have hq : j = 0 ∨ j = 1 := by have h : j < 2 := hj; omega
  rcases hq with rfl | rfl
  ·intro vs gq stq hl hf
   obtain ⟨v0, v1, v2, v3, rfl⟩ := len_k4 hl
   have e2 := (show v2 = .int .i64 x1 from hf _ (memI 3 rfl) (by kernel_rfl))
   subst e2
   show Option.isSome _ = true
   kernel_rfl
  ·intro vs gq stq hl hf
   obtain ⟨v0, v1, v2, v3, rfl⟩ := len_k4 hl
   obtain ⟨a6, c4, e3, hR6⟩ := (show ∃ (a6 : Option Addr) (c4 : Nat), v3 = .slice a6 l4.length c4 ∧ OwnS (Kd.int .u8) gq (t + 3) 5 a6 l4.length c4 l4 from hf _ (memI 4 rfl) (by kernel_rfl))
   subst e3
   show Option.isSome _ = true
   kernel_rfl
 ·intro j hj
  have hq : j = 0 ∨ j = 1 ∨ j = 2 ∨ j = 3 := by have h : j < 4 := hj; omega
  rcases hq with rfl | rfl | rfl | rfl
  ·intro vs gq stq hl hf
   obtain ⟨v0, v1, v2, v3, rfl⟩ := len_k4 hl
   have hB1 := (show Box gq 0 b1 61 [encA .u8 d1, [.int .i64 x1], [.slice a1 n1 c1], [.slice a2 n2 c2]] [8, 1, 1, 1] from hf _ (memI 0 rfl) (by kernel_rfl))
   refine WP.sliceZ (o := 0) (m := 8) (k := .u8) (d := d1) (e := 5) (lo := none) (hi := none) hB1 (by kernel_rfl) (0 : Int) (8 : Int) (by kernel_rfl) (.inl ⟨rfl, rfl⟩) (.inl ⟨rfl, rfl⟩) (by decide) ?_
   intro a4 hR4
   rw [sliceI_all (m := 8) (d := d1) (j := (8 : Int)) rfl] at hR4
   refine WP.dn (Shown.ok (v := .slice a4 ((8 : Int).toNat - (0 : Int).toNat) (8 - (0 : Int).toNat)) (by kernel_rfl) (Step.refl _ _) ?_)
   exact ⟨tv, ⟨a4, rfl, hR4⟩, tv, tv, tv, tv, tv⟩
  ·intro vs gq stq hl hf
   obtain ⟨v0, v1, v2, v3, rfl⟩ := len_k4 hl
   obtain ⟨a4, e0, hR4⟩ := (show ∃ (a4 : Option Addr), v0 = .slice a4 ((8 : Int).toNat - (0 : Int).toNat) (8 - (0 : Int).toNat) ∧ RdS (Kd.int .u8) gq 5 a4 ((8 : Int).toNat - (0 : Int).toNat) (8 - (0 : Int).toNat) d1.1 from hf _ (memI 1 rfl) (by kernel_rfl))
   subst e0
   have hcal2 := P.octet_PutBytes gq (t + 2) ([]) d1.1 none 0 0 a4 ((8 : Int).toNat - (0 : Int).toNat) (8 - (0 : Int).toNat) (RdS.nil _ _ _) hR4 l3 hk2
   refine WP.callC hcal2 (by kernel_rfl) ?_
   rintro _ g4 st4 ⟨a5, n3, c3, rfl, hR5⟩
   obtain rfl := hR5.len
   refine WP.dn (Shown.o (v := .slice a5 l3.length c3) st4.pure ?_)
   exact ⟨tv, tv, ⟨a5, c3, rfl, hR5⟩, tv, tv, tv, tv⟩
  ·intro vs gq stq hl hf
   obtain ⟨v0, v1, v2, v3, rfl⟩ := len_k4 hl
   have hB1 := (show Box gq 0 b1 61 [encA .u8 d1, [.int .i64 x1], [.slice a1 n1 c1], [.slice a2 n2 c2]] [8, 1, 1, 1] from hf _ (memI 0 rfl) (by kernel_rfl))
   refine WP.loadB (v := .int .i64 x1) hB1 (by kernel_rfl) (by kernel_rfl) ?_
   refine WP.dn (Shown.ok (v := .int .i64 x1) (by kernel_rfl) (Step.refl _ _) ?_)
   exact ⟨tv, tv, tv, rfl, tv, tv, tv⟩
  ·intro vs gq stq hl hf
   obtain ⟨v0, v1, v2, v3, rfl⟩ := len_k4 hl
   obtain ⟨a5, c3, e1, hR5⟩ := (show ∃ (a5 : Option Addr) (c3 : Nat), v1 = .slice a5 l3.length c3 ∧ OwnS (Kd.int .u8) gq (t + 2) 5 a5 l3.length c3 l3 from hf _ (memI 2 rfl) (by kernel_rfl))
   subst e1
   have e2 := (show v2 = .int .i64 x1 from hf _ (memI 3 rfl) (by kernel_rfl))
   subst e2
   obtain ⟨gf1, hwf1, stf1, hnew⟩ := hR5.freeze (by omega)
   refine WP.regw hwf1 ?_
   clear hR5
   have hR5 := hnew
   clear hnew
   have hcal3 := P.octet_PutNum gf1 (t + 3) l3 (IntKind.u64.wrap x1) a5 l3.length c3 hR5 l4 hk3
   refine WP.callC hcal3 (by kernel_rfl) ?_
   rintro _ g5 st5 ⟨a6, n4, c4, rfl, hR6⟩
   obtain rfl := hR6.len
   replace st5 : Step (WL []) _ _ := Step.pure st5
   have hz1 := hR5.mono st5 (WL.no (by simp <;> omega))
   replace st5 := Step.both stf1 st5
   refine WP.dn (Shown.o (v := .slice a6 l4.length c4) st5 ?_)
   exact ⟨tv, tv, tv, tv, ⟨a6, c4, rfl, hR6⟩, ⟨a5, c3, rfl, hz1⟩, tv⟩
 intro vs g6 st6 hl hf
 obtain ⟨v0, v1, v2, v3, rfl⟩ := len_k4 hl
 obtain ⟨a6, c4, e3, hR6⟩ := (show ∃ (a6 : Option Addr) (c4 : Nat), v3 = .slice a6 l4.length c4 ∧ OwnS (Kd.int .u8) g6 (t + 3) 5 a6 l4.length c4 l4 from hf _ (memI 4 rfl) (by kernel_rfl))
 subst e3
 replace hB1 := hB1.mono st6 (WL.no1 (by omega))
 replace hR1 := hR1.mono st6 (WL.no1 (by omega))
 replace hR2 := hR2.mono st6 (WL.no1 (by omega))
 replace tot := tot.trans (st6.up1 (.inr (by omega)))
 refine NX.then_n ?_
 refine CP.refr 41 [(1, .pointer (some ⟨b1, 0, none⟩)), (4, .slice a6 l4.length c4)] (by kernel_rfl) (by kernel_rfl) ?_
 clear ds
 intro ds
 refine CP.seq ?_
 obtain ⟨g8, hw2, st8, hnew⟩ := hR6.freeze (by omega)
 refine CP.regw hw2 ?_
 replace hB1 := hB1.mono st8 (WL.no1 (by omega))
 replace hR1 := hR1.mono st8 (WL.no1 (by omega))
 replace hR2 := hR2.mono st8 (WL.no1 (by omega))
 replace tot := tot.trans (st8.up1 (.inr (by omega)))
 clear hR6
 have hR6 := hnew
 clear hnew
 replace hs := Option.bind_eq_some_iff.1 hs
 obtain ⟨l6, hk5, hs⟩ := hs
 replace hs := Option.bind_eq_some_iff.1 hs
 obtain ⟨l7, hk6, hs⟩ := hs
 refine CP.drawL (by kernel_rfl) [3, 4, 6, 7, 9] N.state_Signed_Encode_1 [⟨none, [], [], fun l g => Box g 0 b1 61 [encA .u8 d1, [.int .i64 x1], [.slice a1 n1 c1], [.slice a2 n2 c2]] [8, 1, 1, 1]⟩, ⟨none, [], [], fun l g => RdS (Kd.int .u8) g 5 a1 n1 c1 l1⟩, ⟨none, [], [], fun l g => RdS (Kd.slice 5 (Kd.int .u8)) g 24 a2 n2 c2 l2⟩, ⟨none, [], [], fun l g => RdS (Kd.int .u8) g 5 a6 l4.length c4 l4⟩, ⟨some 0, [], [0], fun l g => l.getD 0 undef = .slice a1 n1 c1⟩, ⟨some 1, [0], [1], fun l g => ∃ (a8 : Option Addr) (c6 : Nat), l.getD 0 undef = .slice a8 l6.length c6 ∧ OwnS (Kd.int .u8) g (t + 5) 5 a8 l6.length c6 l6⟩, ⟨some 2, [], [2], fun l g => l.getD 0 undef = .slice a2 n2 c2⟩, ⟨some 3, [], [3], fun l g => l.getD 0 undef = .int .i64 (l2.length : Int)⟩, ⟨some 4, [], [4], fun l g => ∃ (a9 : Option Addr) (c7 : Nat), l.getD 0 undef = .slice a9 l7.length c7 ∧ OwnS (Kd.int .u8) g (t + 6) 5 a9 l7.length c7 l7⟩, ⟨some 4, [], [1], fun l g => ∃ (a8 : Option Addr) (c6 : Nat), l.getD 0 undef = .slice a8 l6.length c6 ∧ RdS (Kd.int .u8) g 5 a8 l6.length c6 l6⟩] [[], [], [], [], [0]] [(t + 5)] [0, 1, 2, 5] [8, 10] (by kernel_rfl) (by simp <;> omega) (by simp) ⟨fun _ _ _ _ st h0 hl hj hB1 => (hB1.mono st (fun h => absurd (hl _ h) (by simp <;> omega))), fun _ _ _ _ st h0 hl hj hR1 => (RdS.mono (e := 5) hR1 st h0), fun _ _ _ _ st h0 hl hj hR2 => (RdS.mono (e := 24) hR2 st h0), fun _ _ _ _ st h0 hl hj hR6 => (RdS.mono (e := 5) hR6 st h0), fun _ _ _ _ st h0 hl hj e0 => e0, fun _ _ _ _ st h0 hl hj ⟨a8, c6, e1, hR8⟩ => ⟨a8, c6, e1, (hR8.mono st h0 (hj 0 (by simp) _ rfl))⟩, fun _ _ _ _ st h0 hl hj e2 => e2, fun _ _ _ _ st h0 hl hj e3 => e3, fun _ _ _ _ st h0 hl hj ⟨a9, c7, e4, hR9⟩ => ⟨a9, c7, e4, (hR9.mono st h0 (fun h => absurd (hl _ h) (by simp <;> omega)))⟩, fun _ _ _ _ st h0 hl hj ⟨a8, c6, e1, hR8⟩ => ⟨a8, c6, e1, (RdS.mono (e := 5) hR8 st h0)⟩, tv⟩ ⟨hB1, hR1, hR2, hR6, tv, tv, tv, tv, tv, tv, tv⟩ (by kernel_rfl) (fun vs => by kernel_rfl) ?_ ?_ ?_
 ·intro j hj
  have hq : j = 0 ∨ j = 1 := by have h : j < 2 := hj; omega
  rcases hq with rfl | rfl
  ·intro vs gq stq hl hf
   obtain ⟨v0, v1, v2, v3, v4, rfl⟩ := len_k5 hl
   have e3 := (show v3 = .int .i64 (l2.length : Int) from hf _ (memI 7 rfl) (by kernel_rfl))
   subst e3
   show Option.isSome _ = true
   kernel_rfl
  ·intro vs gq stq hl hf
   obtain ⟨v0, v1, v2, v3, v4, rfl⟩ := len_k5 hl
   obtain ⟨a9, c7, e4, hR9⟩ := (show ∃ (a9 : Option Addr) (c7 : Nat), v4 = .slice a9 l7.length c7 ∧ OwnS (Kd.int .u8) gq (t + 6) 5 a9 l7.length c7 l7 from hf _ (memI 8 rfl) (by kernel_rfl))
   subst e4
   show Option.isSome _ = true
   kernel_rfl
 ·intro j hj
  have hq : j = 0 ∨ j = 1 ∨ j = 2 ∨ j = 3 ∨ j = 4 := by have h : j < 5 := hj; omega
  rcases hq with rfl | rfl | rfl | rfl | rfl
  ·intro vs gq stq hl hf
   obtain ⟨v0, v1, v2, v3, v4, rfl⟩ := len_k5 hl
   have hB1 := (show Box gq 0 b1 61 [encA .u8 d1, [.int .i64 x1], [.slice a1 n1 c1], [.slice a2 n2 c2]] [8, 1, 1, 1] from hf _ (memI 0 rfl) (by kernel_rfl))
   refine WP.loadB (v := .slice a1 n1 c1) hB1 (by kernel_rfl) (by kernel_rfl) ?_
   refine WP.dn (Shown.ok (v := .slice a1 n1 c1) (by kernel_rfl) (Step.refl _ _) ?_)
   exact ⟨tv, tv, tv, tv, rfl, tv, tv, tv, tv, tv, tv⟩
  ·intro vs gq stq hl hf
   obtain ⟨v0, v1, v2, v3, v4, rfl⟩ := len_k5 hl
   have hR1 := (show RdS (Kd.int .u8) gq 5 a1 n1 c1 l1 from hf _ (memI 1 rfl) (by kernel_rfl))
   have hR6 := (show RdS (Kd.int .u8) gq 5 a6 l4.length c4 l4 from hf _ (memI 3 rfl) (by kernel_rfl))
   have e0 := (show v0 = .slice a1 n1 c1 from hf _ (memI 4 rfl) (by kernel_rfl))
   subst e0
   have hcal5 := P.octet_PutBytes gq (t + 5) l4 l1 a6 l4.length c4 a1 n1 c1 hR6 hR1 l6 hk5
   refine WP.callC hcal5 (by kernel_rfl) ?_
   rintro _ g9 st9 ⟨a8, n6, c6, rfl, hR8⟩
   obtain rfl := hR8.len
   refine WP.dn (Shown.o (v := .slice a8 l6.length c6) st9.pure ?_)
   exact ⟨tv, tv, tv, tv, tv, ⟨a8, c6, rfl, hR8⟩, tv, tv, tv, tv, tv⟩
  ·intro vs gq stq hl hf
   obtain ⟨v0, v1, v2, v3, v4, rfl⟩ := len_k5 hl
   have hB1 := (show Box gq 0 b1 61 [encA .u8 d1, [.int .i64 x1], [.slice a1 n1 c1], [.slice a2 n2 c2]] [8, 1, 1, 1] from hf _ (memI 0 rfl) (by kernel_rfl))
   refine WP.loadB (v := .slice a2 n2 c2) hB1 (by kernel_rfl) (by kernel_rfl) ?_
   refine WP.dn (Shown.ok (v := .slice a2 n2 c2) (by kernel_rfl) (Step.refl _ _) ?_)
   exact ⟨tv, tv, tv, tv, tv, tv, rfl, tv, tv, tv, tv⟩
  ·intro vs gq stq hl hf
   obtain ⟨v0, v1, v2, v3, v4, rfl⟩ := len_k5 hl
   have hR2 := (show RdS (Kd.slice 5 (Kd.int .u8)) gq 24 a2 n2 c2 l2 from hf _ (memI 2 rfl) (by kernel_rfl))
   have e2 := (show v2 = .slice a2 n2 c2 from hf _ (memI 6 rfl) (by kernel_rfl))
   subst e2
   refine WP.len (a := a2) (cp := c2) hR2.len (by kernel_rfl) ?_
   refine WP.dn (Shown.ok (v := .int .i64 (l2.length : Int)) (by kernel_rfl) (Step.refl _ _) ?_)
   exact ⟨tv, tv, tv, tv, tv, tv, tv, rfl, tv, tv, tv⟩
  ·intro vs gq stq hl hf
   obtain ⟨v0, v1, v2, v3, v4, rfl⟩ := len_k5 hl
   obtain ⟨a8, c6, e1, hR8⟩ := (show ∃ (a8 : Option Addr) (c6 : Nat), v1 = .slice a8 l6.length c6 ∧ OwnS (Kd.int .u8) gq (t + 5) 5 a8 l6.length c6 l6 from hf _ (memI 5 rfl) (by kernel_rfl))
   subst e1
   have e3 := (show v3 = .int .i64 (l2.length : Int) from hf _ (memI 7 rfl) (by kernel_rfl))
   subst e3
   obtain ⟨gf2, hwf2, stf2, hnew⟩ := hR8.freeze (by omega)
   refine WP.regw hwf2 ?_
   clear hR8
   have hR8 := hnew
   clear hnew
   have hcal6 := P.octet_PutNum gf2 (t + 6) l6 (IntKind.u64.wrap (l2.length : Int)) a8 l6.length c6 hR8 l7 hk6
   refine WP.callC hcal6 (by kernel_rfl) ?_
   rintro _ g10 st10 ⟨a9, n7, c7, rfl, hR9⟩
   obtain rfl := hR9.len
   replace st10 : Step (WL []) _ _ := Step.pure st10
   have hz2 := hR8.mono st10 (WL.no (by simp <;> omega))
   replace st10 := Step.both stf2 st10
   refine WP.dn (Shown.o (v := .slice a9 l7.length c7) st10 ?_)
   exact ⟨tv, tv, tv, tv, tv, tv, tv, tv, ⟨a9, c7, rfl, hR9⟩, ⟨a8, c6, rfl, hz2⟩, tv⟩
 intro vs g11 st11 hl hf
 obtain ⟨v0, v1, v2, v3, v4, rfl⟩ := len_k5 hl
 obtain ⟨a9, c7, e4, hR9⟩ := (show ∃ (a9 : Option Addr) (c7 : Nat), v4 = .slice a9 l7.length c7 ∧ OwnS (Kd.int .u8) g11 (t + 6) 5 a9 l7.length c7 l7 from hf _ (memI 8 rfl) (by kernel_rfl))
 subst e4
 replace hB1 := hB1.mono st11 (WL.no1 (by omega))
 replace hR1 := hR1.mono st11 (WL.no1 (by omega))
 replace hR2 := hR2.mono st11 (WL.no1 (by omega))
 replace tot := tot.trans (st11.up1 (.inr (by omega)))
 refine NX.then_n ?_
 refine CP.refr 41 [(1, .pointer (some ⟨b1, 0, none⟩)), (4, .slice a9 l7.length c7)] (by kernel_rfl) (by kernel_rfl) ?_
 clear ds
 intro ds
 refine CP.seq ?_
 refine CP.seqR ?_
 refine WP.stl 1 ?_
 refine WP.loadB (v := .slice a2 n2 c2) hB1 (by kernel_rfl) (by kernel_rfl) ?_
 refine WP.len (a := a2) (cp := c2) hR2.len (by kernel_rfl) ?_
 refine WP.stl 1 ?_
 refine WP.dn ?_
 refine NX.then_n ?_
 refine CP.block ?_
 generalize fuel = k1 at hs
 refine CP.loop (fun k1 tm g => ∃ (l9 : List Int) (a12 : Option Addr) (n10 : Nat) (c10 : Nat) (x2 : Int), Fr 41 [(4, .slice a12 n10 c10), (30, .slice a2 n2 c2), (31, .int .i64 (l2.length : Int)), (32, .int .i64 x2)] tm ∧ Step (fun l => NoM l ∨ t ≤ l) g0 g ∧ OwnS (Kd.int .u8) g (t + 6) 5 a12 n10 c10 l9 ∧ RdS (Kd.slice 5 (Kd.int .u8)) g 24 a2 n2 c2 l2 ∧ F.state_Signed_Encode.l1 l2 k1 l9 x2 = some (o1, o2)) k1 ?_ ?_ ?_
 ·exact ⟨l7, a9, l7.length, c7, 0, ⟨by kernel_rfl, by kernel_rfl⟩, tot, hR9, hR2, hs⟩
 ·rintro tm g ⟨l9, a12, n10, c10, x2, hF, tot, hR12, hR2, hs⟩
  exact absurd hs (by simp [F.state_Signed_Encode.l1])
 clear tot hs hR9 hR2
 rintro k1 tm g ⟨l9, a12, n10, c10, x2, hF, tot, hR12, hR2, hs⟩
 clear ds
 obtain ⟨ds, rfl⟩ := hF.open
 clear hF
 unfold F.state_Signed_Encode.l1 at hs
 refine CP.seqR ?_
 refine WP.stl 1 ?_
 refine WP.dn ?_
 refine NX.then_n ?_
 refine CP.seq ?_
 refine CP.cond (b := decide (x2 < (l2.length : Int))) (by kernel_rfl) (fun h4 => ?_) (fun h4 => ?_)
 ·replace hs := of_if_t hs h4
  refine CP.skip ?_
  refine NX.then_n ?_
  refine CP.seq ?_
  refine CP.block ?_
  refine CP.seqR ?_
  by_cases hc3 : (0 : Int) ≤ x2 ∧ x2 < (l2.length : Int)
  case neg => rw [if_neg hc3] at hs; cases hs
  replace hs := of_if_p hs hc3
  obtain ⟨b4, u3, ha3⟩ := hR2.at hc3
  refine WP.indexA (t := 42) (e := 24) (sz := 1) (cap := c2) (k := .i64) (i := x2) hR2.len ha3 (by kernel_rfl) (by kernel_rfl) hc3 ?_
  obtain ⟨cs3, hcR3, hcV3⟩ := hR2.src.view (getI_some hc3) ha3
  obtain ⟨a16, n14, c14, hcR3, hR16⟩ := Kd.o_sl hcR3
  refine WP.loadV [[.slice a16 n14 c14]] [1] hcV3 hcR3 rfl (f := 0) (ty := 24) (agg := false) (size := 1) (rs := [[.slice a16 n14 c14]]) (v := .slice a16 n14 c14) (by kernel_rfl) (by kernel_rfl) (by kernel_rfl) (by kernel_rfl) ?_
  refine WP.stl 1 ?_
  refine WP.dn ?_
  refine NX.then_n ?_
  refine CP.region ?_
  refine WP.stl 2 ?_
  replace hs := Option.bind_eq_some_iff.1 hs
  obtain ⟨l12, hk9, hs⟩ := hs
  obtain ⟨g17, hw5, st17, hnew⟩ := hR12.freeze (by omega)
  refine WP.regw hw5 ?_
  replace hR2 := hR2.mono st17 (WL.no1 (by omega))
  replace hR16 := hR16.mono st17 (WL.no1 (by omega))
  replace tot := tot.trans (st17.up1 (.inr (by omega)))
  clear hR12
  have hR12 := hnew
  clear hnew
  have hcal9 := P.octet_PutBytes g17 (t + 9) l9 (getI l2 x2) a12 n10 c10 a16 n14 c14 hR12 hR16 l12 hk9
  refine WP.callC hcal9 (by kernel_rfl) ?_
  rintro _ g16 st16 ⟨a17, n15, c15, rfl, hR17⟩
  replace hR12 := hR12.mono st16 (fun x => x)
  replace hR2 := hR2.mono st16 (fun x => x)
  replace hR16 := hR16.mono st16 (fun x => x)
  replace tot := tot.trans st16.pure
  refine WP.stl 1 ?_
  refine WP.dn ?_
  refine NX.block_n ?_
  refine NX.then_n ?_
  refine CP.region ?_
  refine WP.stl 2 ?_
  refine WP.dn ?_
  obtain ⟨g18, hw6, st18, hnew⟩ := hR17.relab (by omega) (t + 6)
  refine NX.regw hw6 ?_
  replace hR2 := hR2.mono st18 (WL.no1 (by omega))
  replace tot := tot.trans (st18.up1 (.inr (by omega)))
  clear hR17
  have hR17 := hnew
  clear hnew
  refine NX.post ?_
  exact ⟨l12, a17, n15, c15, (IntKind.i64.wrap (x2 + 1)), ⟨by kernel_rfl, by kernel_rfl⟩, tot, hR17, hR2, hs⟩
 replace hs := of_if_f hs h4
 refine CP.exit ?_
 refine NX.then_e ?_
 refine NX.then_e ?_
 refine NX.block_s ?_
 refine NX.then_n ?_
 refine CP.seqR ?_
 refine WP.stl 3 ?_
 refine WP.dn ?_
 refine NX.then_n ?_
 refine CP.ret ?_
 obtain ⟨g19, hw7, st19, hnew⟩ := hR12.relab (by omega) r0
 refine NX.regw hw7 ?_
 replace tot := tot.trans (st19.up1 (.inr (by omega)))
 clear hR12
 have hR12 := hnew
 clear hnew
 replace hs := Option.some.inj hs
 obtain ⟨rfl, rfl⟩ := Prod.mk.inj hs
 exact NX.fin (v := .tuple #[.slice a12 n10 c10, .int .i64 0]) (Res.still (by kernel_rfl)) tot htL ⟨a12, n10, c10, rfl, hR12⟩
def F.baizeref32_Right.l1 (l2 : List (List Int)) : Nat → Int → Option (Bool)
 | 0, _ => none
 | k + 1, x2 => (if decide (x2 < (l2.length : Int)) = true then (if (0 : Int) ≤ x2 ∧ x2 < (l2.length : Int) then (if decide (((getI l2 x2).length : Int) > 4096) = true then (some false) else (F.baizeref32_Right.l1 l2 k (IntKind.i64.wrap (x2 + 1)))) else none) else (some true))
def F.baizeref32_Right.c1 (l2 : List (List Int)) (q1 : Bool) : Option (Bool) := (if q1 = true then (some false) else (F.baizeref32_Right.l1 l2 fuel 0))
def F.baizeref32_Right (d1 : Arr Int 8) (x1 : Int) (l1 : List Int) (l2 : List (List Int)) : Option (Bool) := (if decide (x1 < 0) = true then (F.baizeref32_Right.c1 l2 true) else (if decide (x1 > 1099511627776) = true then (F.baizeref32_Right.c1 l2 true) else (if decide ((l1.length : Int) > 4096) = true then (F.baizeref32_Right.c1 l2 true) else (if decide ((l2.length : Int) < 2) = true then (F.baizeref32_Right.c1 l2 true) else (F.baizeref32_Right.c1 l2 (decide ((l2.length : Int) > 8)))))))
theorem P.baizeref32_Right (g0 : GW) (d1 : Arr Int 8) (x1 : Int) (l1 : List Int) (l2 : List (List Int)) (a1 : Option Addr) (n1 : Nat) (c1 : Nat) (a2 : Option Addr) (n2 : Nat) (c2 : Nat) (hR1 : RdS (Kd.int .u8) g0 5 a1 n1 c1 l1) (hR2 : RdS (Kd.slice 5 (Kd.int .u8)) g0 24 a2 n2 c2 l2) (o1 : Bool) (hs : F.baizeref32_Right d1 x1 l1 l2 = some o1) :
  Calls Try.prog 32 #[AG [encA .u8 d1, [.int .i64 x1], [.slice a1 n1 c1], [.slice a2 n2 c2]]] g0.w (Ret NoM g0 fun v g => v = .bool o1) := by
 refine calls_of (args := [AG [encA .u8 d1, [.int .i64 x1], [.slice a1 n1 c1], [.slice a2 n2 c2]]]) Try.func32 rfl (0) ?_
 intro t ht htL
 refine ⟨_, rfl, ?_⟩
 refine CP.refr 47 [(0, AG [encA .u8 d1, [.int .i64 x1], [.slice a1 n1 c1], [.slice a2 n2 c2]])] (by kernel_rfl) (by kernel_rfl) ?_
 intro ds
 have tot : Step (fun l => NoM l ∨ t ≤ l) g0 g0 := Step.refl _ _
 unfold F.baizeref32_Right at hs
 refine CP.seqR ?_
 refine WP.alloc (T := 65) (t + 1) [encA .u8 d1, [.int .i64 x1], [.slice a1 n1 c1], [.slice a2 n2 c2]] [8, 1, 1, 1] (by kernel_rfl) (by simp [len_encA]) ?_
 intro g1 b1 st1 hB1
 replace hR1 := hR1.mono st1 (fun x => x)
 replace hR2 := hR2.mono st1 (fun x => x)
 replace tot := tot.trans st1.pure
 refine WP.stl 1 ?_
 refine WP.dn ?_
 refine NX.then_n ?_
 refine CP.seq ?_
 refine CP.cut (fun tm g => ∃ (q1 : Bool), Fr 47 [(1, .pointer (some ⟨b1, 0, none⟩)), (32, .bool q1)] tm ∧ Step (fun l => NoM l ∨ t ≤ l) g0 g ∧ Box g (t + 1) b1 65 [encA .u8 d1, [.int .i64 x1], [.slice a1 n1 c1], [.slice a2 n2 c2]] [8, 1, 1, 1] ∧ RdS (Kd.int .u8) g 5 a1 n1 c1 l1 ∧ RdS (Kd.slice 5 (Kd.int .u8)) g 24 a2 n2 c2 l2 ∧ (F.baizeref32_Right.c1 l2 q1) = some o1) ?_ ?_
 ·refine CP.region ?_
  refine WP.stl 2 ?_
  refine WP.loadB (v := .int .i64 x1) hB1 (by kernel_rfl) (by kernel_rfl) ?_
  refine WP.stl 2 ?_
  refine WP.guard 8 (b := decide (x1 < 0)) (by kernel_rfl) (fun h12 => ?_) (fun h12 => ?_)
  ·replace hs := of_if_t hs h12
   refine WP.stl 24 ?_
   refine WP.dn ?_
   refine NX.post ?_
   exact ⟨true, ⟨by kernel_rfl, by kernel_rfl⟩, tot, hB1, hR1, hR2, hs⟩
  replace hs := of_if_f hs h12
  refine WP.stl 2 ?_
  refine WP.loadB (v := .int .i64 x1) hB1 (by kernel_rfl) (by kernel_rfl) ?_
  refine WP.stl 3 ?_
  refine WP.guard 14 (b := decide (x1 > 1099511627776)) (by kernel_rfl) (fun h13 => ?_) (fun h13 => ?_)
  ·replace hs := of_if_t hs h13
   refine WP.stl 18 ?_
   refine WP.dn ?_
   refine NX.post ?_
   exact ⟨true, ⟨by kernel_rfl, by kernel_rfl⟩, tot, hB1, hR1, hR2, hs⟩
  replace hs := of_if_f hs h13
  refine WP.stl 2 ?_
  refine WP.loadB (v := .slice a1 n1 c1) hB1 (by kernel_rfl) (by kernel_rfl) ?_
  refine WP.len (a := a1) (cp := c1) hR1.len (by kernel_rfl) ?_
  refine WP.stl 3 ?_
  refine WP.guard 21 (b := decide ((l1.length : Int) > 4096)) (by kernel_rfl) (fun h14 => ?_) (fun h14 => ?_)
  ·replace hs := of_if_t hs h14
   refine WP.stl 11 ?_
   refine WP.dn ?_
   refine NX.post ?_
   exact ⟨true, ⟨by kernel_rfl, by kernel_rfl⟩, tot, hB1, hR1, hR2, hs⟩
  replace hs := of_if_f hs h14
  refine WP.stl 1 ?_
  refine WP.loadB (v := .slice a2 n2 c2) hB1 (by kernel_rfl) (by kernel_rfl) ?_
  refine WP.len (a := a2) (cp := c2) hR2.len (by kernel_rfl) ?_
  refine WP.stl 3 ?_
  refine WP.guard 27 (b := decide ((l2.length : Int) < 2)) (by kernel_rfl) (fun h15 => ?_) (fun h15 => ?_)
  ·replace hs := of_if_t hs h15
   refine WP.stl 5 ?_
   refine WP.dn ?_
   refine NX.post ?_
   exact ⟨true, ⟨by kernel_rfl, by kernel_rfl⟩, tot, hB1, hR1, hR2, hs⟩
  replace hs := of_if_f hs h15
  refine WP.stl 1 ?_
  refine WP.loadB (v := .slice a2 n2 c2) hB1 (by kernel_rfl) (by kernel_rfl) ?_
  refine WP.len (a := a2) (cp := c2) hR2.len (by kernel_rfl) ?_
  refine WP.stl 2 ?_
  refine WP.dn ?_
  refine NX.post ?_
  exact ⟨decide ((l2.length : Int) > 8), ⟨by kernel_rfl, by kernel_rfl⟩, tot, hB1, hR1, hR2, hs⟩
 clear tot hs hB1 hR1 hR2
 rintro tm g ⟨q1, hF, tot, hB1, hR1, hR2, hs⟩
 clear ds
 obtain ⟨ds, rfl⟩ := hF.open
 clear hF
 unfold F.baizeref32_Right.c1 at hs
 refine CP.cond (b := q1) (by kernel_rfl) (fun h5 => ?_) (fun h5 => ?_)
 ·replace hs := of_if_t hs h5
  refine CP.seqR ?_
  refine WP.stl 1 ?_
  refine WP.dn ?_
  refine NX.then_n ?_
  refine CP.ret ?_
  refine NX.then_r ?_
  replace hs := Option.some.inj hs
  obtain rfl := hs
  exact NX.fin (v := .bool false) (Res.still (by kernel_rfl)) tot htL rfl
 replace hs := of_if_f hs h5
 refine CP.skip ?_
 refine NX.then_n ?_
 refine CP.seq ?_
 refine CP.seqR ?_
 refine WP.stl 1 ?_
 refine WP.dn ?_
 refine NX.then_n ?_
 refine CP.block ?_
 generalize fuel = k1 at hs
 refine CP.loop (fun k1 tm g => ∃ (x2 : Int), Fr 47 [(1, .pointer (some ⟨b1, 0, none⟩)), (3, .int .i64 x2)] tm ∧ Step (fun l => NoM l ∨ t ≤ l) g0 g ∧ Box g (t + 1) b1 65 [encA .u8 d1, [.int .i64 x1], [.slice a1 n1 c1], [.slice a2 n2 c2]] [8, 1, 1, 1] ∧ RdS (Kd.int .u8) g 5 a1 n1 c1 l1 ∧ RdS (Kd.slice 5 (Kd.int .u8)) g 24 a2 n2 c2 l2 ∧ F.baizeref32_Right.l1 l2 k1 x2 = some o1) k1 ?_ ?_ ?_
 ·exact ⟨0, ⟨by kernel_rfl, by kernel_rfl⟩, tot, hB1, hR1, hR2, hs⟩
 ·rintro tm g ⟨x2, hF, tot, hB1, hR1, hR2, hs⟩
  exact absurd hs (by simp [F.baizeref32_Right.l1])
 clear tot hs hB1 hR1 hR2
 rintro k1 tm g ⟨x2, hF, tot, hB1, hR1, hR2, hs⟩
 clear ds
 obtain ⟨ds, rfl⟩ := hF.open
 clear hF
 unfold F.baizeref32_Right.l1 at hs
 refine CP.seq ?_
 refine CP.seqR ?_
 refine WP.stl 2 ?_
 refine WP.loadB (v := .slice a2 n2 c2) hB1 (by kernel_rfl) (by kernel_rfl) ?_
 refine WP.len (a := a2) (cp := c2) hR2.len (by kernel_rfl) ?_
 refine WP.stl 1 ?_
 refine WP.dn ?_
 refine NX.then_n ?_
 refine CP.cond (b := decide (x2 < (l2.length : Int))) (by kernel_rfl) (fun h10 => ?_) (fun h10 => ?_)
 ·replace hs := of_if_t hs h10
  refine CP.skip ?_
  refine NX.then_n ?_
  refine CP.seq ?_
  refine CP.block ?_
  refine CP.seqR ?_
  refine WP.stl 1 ?_
  refine WP.loadB (v := .slice a2 n2 c2) hB1 (by kernel_rfl) (by kernel_rfl) ?_
  refine WP.stl 1 ?_
  by_cases hc3 : (0 : Int) ≤ x2 ∧ x2 < (l2.length : Int)
  case neg => rw [if_neg hc3] at hs; cases hs
  replace hs := of_if_p hs hc3
  obtain ⟨b4, u3, ha3⟩ := hR2.at hc3
  refine WP.indexA (t := 42) (e := 24) (sz := 1) (cap := c2) (k := .i64) (i := x2) hR2.len ha3 (by kernel_rfl) (by kernel_rfl) hc3 ?_
  obtain ⟨cs3, hcR3, hcV3⟩ := hR2.src.view (getI_some hc3) ha3
  obtain ⟨a5, n5, c5, hcR3, hR5⟩ := Kd.o_sl hcR3
  refine WP.loadV [[.slice a5 n5 c5]] [1] hcV3 hcR3 rfl (f := 0) (ty := 24) (agg := false) (size := 1) (rs := [[.slice a5 n5 c5]]) (v := .slice a5 n5 c5) (by kernel_rfl) (by kernel_rfl) (by kernel_rfl) (by kernel_rfl) ?_
  refine WP.len (a := a5) (cp := c5) hR5.len (by kernel_rfl) ?_
  refine WP.stl 1 ?_
  refine WP.dn ?_
  refine NX.then_n ?_
  refine CP.cond (b := decide (((getI l2 x2).length : Int) > 4096)) (by kernel_rfl) (fun h11 => ?_) (fun h11 => ?_)
  ·replace hs := of_if_t hs h11
   refine CP.seqR ?_
   refine WP.stl 1 ?_
   refine WP.dn ?_
   refine NX.then_n ?_
   refine CP.refr 47 [(2, .bool false)] (by kernel_rfl) (by kernel_rfl) ?_
   clear ds
   intro ds
   refine CP.ret ?_
   refine NX.block_r ?_
   refine NX.then_r ?_
   refine NX.then_r ?_
   refine NX.block_r ?_
   refine NX.then_r ?_
   replace hs := Option.some.inj hs
   obtain rfl := hs
   exact NX.fin (v := .bool false) (Res.still (by kernel_rfl)) tot htL rfl
  replace hs := of_if_f hs h11
  refine CP.skip ?_
  refine NX.block_n ?_
  refine NX.then_n ?_
  refine CP.region ?_
  refine WP.stl 3 ?_
  refine WP.dn ?_
  refine NX.post ?_
  exact ⟨(IntKind.i64.wrap (x2 + 1)), ⟨by kernel_rfl, by kernel_rfl⟩, tot, hB1, hR1, hR2, hs⟩
 replace hs := of_if_f hs h10
 refine CP.exit ?_
 refine NX.then_e ?_
 refine NX.then_e ?_
 refine NX.block_s ?_
 refine NX.then_n ?_
 refine CP.seqR ?_
 refine WP.stl 1 ?_
 refine WP.dn ?_
 refine NX.then_n ?_
 refine CP.ret ?_
 replace hs := Option.some.inj hs
 obtain rfl := hs
 exact NX.fin (v := .bool true) (Res.still (by kernel_rfl)) tot htL rfl
def F.notary_NewBook : Option ((List (S_notary_entry × Int))) := (some ([] : (List (S_notary_entry × Int))))
theorem P.notary_NewBook (g0 : GW) (r0 : Nat) (r1 : Nat) (o1 : (List (S_notary_entry × Int))) (hs : F.notary_NewBook = some o1) :
  Calls Try.prog 18 #[] g0.w (Ret NoM g0 fun v g => ∃ (b_1 : Nat) (b_2 : Nat), v = .pointer (some ⟨b_1, 0, none⟩) ∧ Box g r0 b_1 90 [[.slice none 0 0], [.map (some b_2)]] [1, 1] ∧ MapB g r1 b_2 kv_S_notary_entry (Value.int .i64) o1) := by
 refine calls_of (args := []) Try.func18 rfl (r0 + r1 + 0) ?_
 intro t ht htL
 refine ⟨_, rfl, ?_⟩
 refine CP.refr 4 [] (by kernel_rfl) (by kernel_rfl) ?_
 intro ds
 have tot : Step (fun l => NoM l ∨ t ≤ l) g0 g0 := Step.refl _ _
 unfold F.notary_NewBook at hs
 refine CP.seqR ?_
 refine WP.stl 1 ?_
 refine WP.dn ?_
 refine NX.then_n ?_
 refine CP.seqR ?_
 refine WP.mkMap (t + 1) kv_S_notary_entry (Value.int .i64) (by kernel_rfl) ?_
 intro g1 b1 st1 hB1
 replace tot := tot.trans st1.pure
 refine WP.stl 1 ?_
 refine WP.alloc (T := 90) (t + 2) [[.slice none 0 0], [.map (some b1)]] [1, 1] (by kernel_rfl) rfl ?_
 intro g2 b2 st2 hB2
 replace hB1 := hB1.mono st2 (fun x => x)
 replace tot := tot.trans st2.pure
 refine WP.stl 1 ?_
 refine WP.dn ?_
 refine NX.then_n ?_
 refine CP.ret ?_
 obtain ⟨g3, hw1, st3, hnew⟩ := hB2.relab r0
 refine NX.regw hw1 ?_
 replace hB1 := hB1.mono st3 (WL.no1 (by omega))
 replace tot := tot.trans (st3.up1 (.inr (by omega)))
 clear hB2
 have hB2 := hnew
 clear hnew
 obtain ⟨g4, hw2, st4, hnew⟩ := hB1.relab r1
 refine NX.regw hw2 ?_
 replace hB2 := hB2.mono st4 (WL.no1 (by omega))
 replace tot := tot.trans (st4.up1 (.inr (by omega)))
 clear hB1
 have hB1 := hnew
 clear hnew
 replace hs := Option.some.inj hs
 obtain rfl := hs
 exact NX.fin (v := .pointer (some ⟨b2, 0, none⟩)) (Res.still (by kernel_rfl)) tot htL ⟨b2, b1, rfl, hB2, hB1⟩
def F.notary_Book_Signer (l1 : List S_notary_entry) (w1 : (List (S_notary_entry × Int))) (d1 : Arr Int 8) : Option ((Arr Int 8)) := (some d1)
theorem P.notary_Book_Signer (g0 : GW) (m0 : Nat) (m1 : Nat) (l1 : List S_notary_entry) (w1 : (List (S_notary_entry × Int))) (d1 : Arr Int 8) (a1 : Option Addr) (n1 : Nat) (c1 : Nat) (b1 : Nat) (b2 : Nat) (hR1 : RdS k_S_notary_entry g0 173 a1 n1 c1 l1) (hB1 : MapB g0 m1 b2 kv_S_notary_entry (Value.int .i64) w1) (hB2 : Box g0 m0 b1 90 [[.slice a1 n1 c1], [.map (some b2)]] [1, 1]) (hm1_0 : m1 ≠ m0) (hm0 : m0 ≠ 0) (hm1 : m1 ≠ 0) (o1 : Arr Int 8) (hs : F.notary_Book_Signer l1 w1 d1 = some o1) :
  Calls Try.prog 19 #[.pointer (some ⟨b1, 0, none⟩), AG [encA .u8 d1]] g0.w (Ret NoM g0 fun v g => v = .iface 92 (AG [[.pointer (some ⟨b1, 0, none⟩)], encA .u8 o1])) := by
 refine calls_of (args := [.pointer (some ⟨b1, 0, none⟩), AG [encA .u8 d1]]) Try.func19 rfl (m0 + m1 + 0) ?_
 intro t ht htL
 refine ⟨_, rfl, ?_⟩
 refine CP.refr 9 [(0, .pointer (some ⟨b1, 0, none⟩)), (1, AG [encA .u8 d1])] (by kernel_rfl) (by kernel_rfl) ?_
 intro ds
 have tot : Step (fun l => NoM l ∨ t ≤ l) g0 g0 := Step.refl _ _
 unfold F.notary_Book_Signer at hs
 refine CP.seqR ?_
 refine WP.alloc (T := 23) (t + 1) [encA .u8 d1] [8] (by kernel_rfl) (by simp [len_encA]) ?_
 intro g1 b3 st1 hB3
 replace hB2 := hB2.mono st1 (fun x => x)
 replace hR1 := hR1.mono st1 (fun x => x)
 replace hB1 := hB1.mono st1 (fun x => x)
 replace tot := tot.trans st1.pure
 refine WP.stl 1 ?_
 refine WP.dn ?_
 refine NX.then_n ?_
 refine CP.seqR ?_
 refine WP.stl 1 ?_
 refine WP.loadB (v := AG [encA .u8 d1]) hB3 (by kernel_rfl) (by kernel_rfl) ?_
 refine WP.buildS (places := #[(0, 1), (1, 8)]) (t := 92) [[.pointer none], encA .u8 (zA 8)] [1, 8] (by kernel_rfl) (by kernel_rfl) (by simp [len_encA]) (by kernel_rfl) ((.cons (i := 0) (off := 0) (v := .pointer (some ⟨b1, 0, none⟩)) (mid := [[.pointer (some ⟨b1, 0, none⟩)], encA .u8 (zA 8)]) [[.pointer (some ⟨b1, 0, none⟩)]] [1] (by kernel_rfl) (by kernel_rfl) rfl (by kernel_rfl) (.cons (i := 1) (off := 1) (v := AG [encA .u8 d1]) (mid := [[.pointer (some ⟨b1, 0, none⟩)], encA .u8 d1]) [encA .u8 d1] [8] (by kernel_rfl) (by kernel_rfl) (by simp [len_encA]) (by kernel_rfl) .nil))) ?_
 refine WP.stl 2 ?_
 refine WP.dn ?_
 refine NX.then_n ?_
 refine CP.ret ?_
 replace hs := Option.some.inj hs
 obtain rfl := hs
 exact NX.fin (v := .iface 92 (AG [[.pointer (some ⟨b1, 0, none⟩)], encA .u8 d1])) (Res.still (by kernel_rfl)) tot htL rfl
def F.octet_turn (x1 : Int) : Option (Int) := (some (bitXor .u64 (shV true .u64 (IntKind.u64.wrap x1) 1) (IntKind.u64.wrap (shV false .i64 x1 63))))
theorem P.octet_turn (g0 : GW) (x1 : Int) (o1 : Int) (hs : F.octet_turn x1 = some o1) :
  Calls Try.prog 86 #[.int .i64 x1] g0.w (Ret NoM g0 fun v g => v = .int .u64 o1) := by
 refine calls_of (args := [.int .i64 x1]) Try.func86 rfl (0) ?_
 intro t ht htL
 refine ⟨_, rfl, ?_⟩
 refine CP.refr 10 [(0, .int .i64 x1)] (by kernel_rfl) (by kernel_rfl) ?_
 intro ds
 have tot : Step (fun l => NoM l ∨ t ≤ l) g0 g0 := Step.refl _ _
 unfold F.octet_turn at hs
 refine CP.seqR ?_
 refine WP.stl 1 ?_
 refine WP.dn ?_
 refine NX.then_n ?_
 refine CP.seqR ?_
 refine WP.stl 8 ?_
 refine WP.dn ?_
 refine NX.then_n ?_
 refine CP.ret ?_
 replace hs := Option.some.inj hs
 obtain rfl := hs
 exact NX.fin (v := .int .u64 (bitXor .u64 (shV true .u64 (IntKind.u64.wrap x1) 1) (IntKind.u64.wrap (shV false .i64 x1 63)))) (Res.still (by kernel_rfl)) tot htL rfl
def F.octet_PutInt (l1 : List Int) (x1 : Int) : Option ((List Int)) := ((F.octet_turn x1).bind fun x2 => ((F.octet_PutNum l1 x2).bind fun l2 => (some l2)))
theorem P.octet_PutInt (g0 : GW) (r0 : Nat) (l1 : List Int) (x1 : Int) (a1 : Option Addr) (n1 : Nat) (c1 : Nat) (hR1 : RdS (Kd.int .u8) g0 5 a1 n1 c1 l1) (o1 : List Int) (hs : F.octet_PutInt l1 x1 = some o1) :
  Calls Try.prog 68 #[.slice a1 n1 c1, .int .i64 x1] g0.w (Ret NoM g0 fun v g => ∃ (a_1 : Option Addr) (n_1 : Nat) (c_1 : Nat), v = .slice a_1 n_1 c_1 ∧ OwnS (Kd.int .u8) g r0 5 a_1 n_1 c_1 o1) := by
 refine calls_of (args := [.slice a1 n1 c1, .int .i64 x1]) Try.func68 rfl (r0 + 0) ?_
 intro t ht htL
 refine ⟨_, rfl, ?_⟩
 refine CP.refr 9 [(0, .slice a1 n1 c1), (1, .int .i64 x1)] (by kernel_rfl) (by kernel_rfl) ?_
 intro ds
 have tot : Step (fun l => NoM l ∨ t ≤ l) g0 g0 := Step.refl _ _
 unfold F.octet_PutInt at hs
 refine CP.seqR ?_
 refine WP.stl 1 ?_
 refine WP.dn ?_
 refine NX.then_n ?_
 refine CP.seqR ?_
 refine WP.stl 2 ?_
 replace hs := Option.bind_eq_some_iff.1 hs
 obtain ⟨x2, hk1, hs⟩ := hs
 have hcal1 := P.octet_turn g0 x1 x2 hk1
 refine WP.callC hcal1 (by kernel_rfl) ?_
 rintro _ g1 st1 rfl
 replace hR1 := hR1.mono st1 (fun x => x)
 replace tot := tot.trans st1.pure
 replace hs := Option.bind_eq_some_iff.1 hs
 obtain ⟨l2, hk2, hs⟩ := hs
 have hcal2 := P.octet_PutNum g1 (t + 1) l1 x2 a1 n1 c1 hR1 l2 hk2
 refine WP.callC hcal2 (by kernel_rfl) ?_
 rintro _ g2 st2 ⟨a2, n2, c2, rfl, hR2⟩
 replace hR1 := hR1.mono st2 (fun x => x)
 replace tot := tot.trans st2.pure
 refine WP.stl 1 ?_
 refine WP.dn ?_
 refine NX.then_n ?_
 refine CP.ret ?_
 obtain ⟨g3, hw1, st3, hnew⟩ := hR2.relab (by omega) r0
 refine NX.regw hw1 ?_
 replace tot := tot.trans (st3.up1 (.inr (by omega)))
 clear hR2
 have hR2 := hnew
 clear hnew
 replace hs := Option.some.inj hs
 obtain rfl := hs
 exact NX.fin (v := .slice a2 n2 c2) (Res.still (by kernel_rfl)) tot htL ⟨a2, n2, c2, rfl, hR2⟩
def F.state_number (x1 : Int) : Option ((List Int)) := ((F.octet_PutInt ([]) x1).bind fun l1 => (some l1))
theorem P.state_number (g0 : GW) (r0 : Nat) (x1 : Int) (o1 : List Int) (hs : F.state_number x1 = some o1) :
  Calls Try.prog 39 #[.int .i64 x1] g0.w (Ret NoM g0 fun v g => ∃ (a_1 : Option Addr) (n_1 : Nat) (c_1 : Nat), v = .slice a_1 n_1 c_1 ∧ OwnS (Kd.int .u8) g r0 5 a_1 n_1 c_1 o1) := by
 refine calls_of (args := [.int .i64 x1]) Try.func39 rfl (r0 + 0) ?_
 intro t ht htL
 refine ⟨_, rfl, ?_⟩
 refine CP.refr 5 [(0, .int .i64 x1)] (by kernel_rfl) (by kernel_rfl) ?_
 intro ds
 have tot : Step (fun l => NoM l ∨ t ≤ l) g0 g0 := Step.refl _ _
 unfold F.state_number at hs
 refine CP.seqR ?_
 refine WP.stl 1 ?_
 refine WP.dn ?_
 refine NX.then_n ?_
 refine CP.seqR ?_
 refine WP.stl 1 ?_
 replace hs := Option.bind_eq_some_iff.1 hs
 obtain ⟨l1, hk1, hs⟩ := hs
 have hcal1 := P.octet_PutInt g0 (t + 1) ([]) x1 none 0 0 (RdS.nil _ _ _) l1 hk1
 refine WP.callC hcal1 (by kernel_rfl) ?_
 rintro _ g1 st1 ⟨a1, n1, c1, rfl, hR1⟩
 replace tot := tot.trans st1.pure
 refine WP.stl 1 ?_
 refine WP.dn ?_
 refine NX.then_n ?_
 refine CP.ret ?_
 obtain ⟨g2, hw1, st2, hnew⟩ := hR1.relab (by omega) r0
 refine NX.regw hw1 ?_
 replace tot := tot.trans (st2.up1 (.inr (by omega)))
 clear hR1
 have hR1 := hnew
 clear hnew
 replace hs := Option.some.inj hs
 obtain rfl := hs
 exact NX.fin (v := .slice a1 n1 c1) (Res.still (by kernel_rfl)) tot htL ⟨a1, n1, c1, rfl, hR1⟩
def F.octet_PutText (l1 : List Int) (s1 : ByteArray) : Option ((List Int)) := ((F.octet_PutBytes l1 (strBytes s1)).bind fun l2 => (some l2))
theorem P.octet_PutText (g0 : GW) (r0 : Nat) (l1 : List Int) (s1 : ByteArray) (a1 : Option Addr) (n1 : Nat) (c1 : Nat) (hR1 : RdS (Kd.int .u8) g0 5 a1 n1 c1 l1) (o1 : List Int) (hs : F.octet_PutText l1 s1 = some o1) :
  Calls Try.prog 65 #[.slice a1 n1 c1, .string s1] g0.w (Ret NoM g0 fun v g => ∃ (a_1 : Option Addr) (n_1 : Nat) (c_1 : Nat), v = .slice a_1 n_1 c_1 ∧ OwnS (Kd.int .u8) g r0 5 a_1 n_1 c_1 o1) := by
 refine calls_of (args := [.slice a1 n1 c1, .string s1]) Try.func65 rfl (r0 + 0) ?_
 intro t ht htL
 refine ⟨_, rfl, ?_⟩
 refine CP.refr 9 [(0, .slice a1 n1 c1), (1, .string s1)] (by kernel_rfl) (by kernel_rfl) ?_
 intro ds
 have tot : Step (fun l => NoM l ∨ t ≤ l) g0 g0 := Step.refl _ _
 unfold F.octet_PutText at hs
 refine CP.seqR ?_
 refine WP.stl 1 ?_
 refine WP.dn ?_
 refine NX.then_n ?_
 refine CP.seqR ?_
 refine WP.stl 2 ?_
 refine WP.toBytes (e := 5) (s := s1) (by kernel_rfl) ?_
 intro g1 a2 c2 st1 hR2
 replace hR1 := hR1.mono st1 (fun x => x)
 replace tot := tot.trans st1.pure
 replace hs := Option.bind_eq_some_iff.1 hs
 obtain ⟨l2, hk1, hs⟩ := hs
 have hcal1 := P.octet_PutBytes g1 (t + 1) l1 (strBytes s1) a1 n1 c1 a2 s1.size c2 hR1 hR2 l2 hk1
 refine WP.callC hcal1 (by kernel_rfl) ?_
 rintro _ g2 st2 ⟨a3, n2, c3, rfl, hR3⟩
 replace hR1 := hR1.mono st2 (fun x => x)
 replace hR2 := hR2.mono st2 (fun x => x)
 replace tot := tot.trans st2.pure
 refine WP.stl 1 ?_
 refine WP.dn ?_
 refine NX.then_n ?_
 refine CP.ret ?_
 obtain ⟨g3, hw1, st3, hnew⟩ := hR3.relab (by omega) r0
 refine NX.regw hw1 ?_
 replace tot := tot.trans (st3.up1 (.inr (by omega)))
 clear hR3
 have hR3 := hnew
 clear hnew
 replace hs := Option.some.inj hs
 obtain rfl := hs
 exact NX.fin (v := .slice a3 n2 c3) (Res.still (by kernel_rfl)) tot htL ⟨a3, n2, c3, rfl, hR3⟩
def F.slices_Grow_byte_byte.c1 (l1 : List Int) : Option ((List Int)) := (some l1)
def F.slices_Grow_byte_byte (x1 : Int) : Option ((List Int)) := (if decide (x1 < 0) = true then (if False then none else none) else (if decide ((IntKind.i64.wrap (x1 - (IntKind.i64.wrap (0 - 0)))) > 0) = true then (if (0 : Int) < (IntKind.i64.wrap (x1 - (IntKind.i64.wrap (0 - 0)))) ∧ (IntKind.i64.wrap (x1 - (IntKind.i64.wrap (0 - 0)))) ≤ 140737488355328 then (F.slices_Grow_byte_byte.c1 (List.take 0 (List.replicate (IntKind.i64.wrap (x1 - (IntKind.i64.wrap (0 - 0)))).toNat (0 : Int)))) else none) else (F.slices_Grow_byte_byte.c1 ([]))))
theorem P.slices_Grow_byte_byte (g0 : GW) (r0 : Nat) (x1 : Int) (o1 : List Int) (hs : F.slices_Grow_byte_byte x1 = some o1) :
  Calls Try.prog 85 #[.slice none 0 0, .int .i64 x1] g0.w (Ret NoM g0 fun v g => ∃ (a_1 : Option Addr) (n_1 : Nat) (c_1 : Nat), v = .slice a_1 n_1 c_1 ∧ OwnS (Kd.int .u8) g r0 5 a_1 n_1 c_1 o1) := by
 refine calls_of (args := [.slice none 0 0, .int .i64 x1]) Try.func85 rfl (r0 + 0) ?_
 intro t ht htL
 refine ⟨_, rfl, ?_⟩
 refine CP.refr 27 [(0, .slice none 0 0), (1, .int .i64 x1)] (by kernel_rfl) (by kernel_rfl) ?_
 intro ds
 have tot : Step (fun l => NoM l ∨ t ≤ l) g0 g0 := Step.refl _ _
 unfold F.slices_Grow_byte_byte at hs
 refine CP.seqR ?_
 refine WP.stl 1 ?_
 refine WP.dn ?_
 refine NX.then_n ?_
 refine CP.seq ?_
 refine CP.seqR ?_
 refine WP.stl 2 ?_
 refine WP.dn ?_
 refine NX.then_n ?_
 refine CP.cond (b := decide (x1 < 0)) (by kernel_rfl) (fun h2 => ?_) (fun h2 => ?_)
 ·replace hs := of_if_t hs h2
  refine CP.region ?_
  refine WP.stl 1 ?_
  by_cases hc2 : False
  case neg => rw [if_neg hc2] at hs; cases hs
  replace hs := of_if_p hs hc2
  exact absurd hs (by simp)
 replace hs := of_if_f hs h2
 refine CP.skip ?_
 refine NX.then_n ?_
 refine CP.cut (fun tm g => ∃ (l1 : List Int) (a2 : Option Addr) (n1 : Nat) (c2 : Nat), Fr 27 [(0, .slice a2 n1 c2)] tm ∧ Step (fun l => NoM l ∨ t ≤ l) g0 g ∧ OwnS (Kd.int .u8) g (t + 1) 5 a2 n1 c2 l1 ∧ (F.slices_Grow_byte_byte.c1 l1) = some o1) ?_ ?_
 ·refine CP.seqR ?_
  refine WP.stl 2 ?_
  refine WP.cap (a := none) (m := 0) (cp := 0) (by kernel_rfl) ?_
  refine WP.stl 5 ?_
  refine WP.dn ?_
  refine NX.then_n ?_
  refine CP.seqR ?_
  refine WP.stl 2 ?_
  refine WP.dn ?_
  refine NX.then_n ?_
  refine CP.refr 27 [(0, .slice none 0 0), (1, .int .i64 (IntKind.i64.wrap (x1 - (IntKind.i64.wrap (0 - 0))))), (16, .bool (decide ((IntKind.i64.wrap (x1 - (IntKind.i64.wrap (0 - 0)))) > 0)))] (by kernel_rfl) (by kernel_rfl) ?_
  clear ds
  intro ds
  refine CP.cond (b := decide ((IntKind.i64.wrap (x1 - (IntKind.i64.wrap (0 - 0)))) > 0)) (by kernel_rfl) (fun h4 => ?_) (fun h4 => ?_)
  ·replace hs := of_if_t hs h4
   refine CP.region ?_
   refine WP.stl 2 ?_
   refine WP.cap (a := none) (m := 0) (cp := 0) (by kernel_rfl) ?_
   refine WP.sliceNil (e := 5) (size := 1) (k := .i64) (by kernel_rfl) ?_
   refine WP.stl 1 ?_
   by_cases hc4 : (0 : Int) < (IntKind.i64.wrap (x1 - (IntKind.i64.wrap (0 - 0)))) ∧ (IntKind.i64.wrap (x1 - (IntKind.i64.wrap (0 - 0)))) ≤ 140737488355328
   case neg => rw [if_neg hc4] at hs; cases hs
   replace hs := of_if_p hs hc4
   refine WP.appendZ (kd := (Kd.int .u8)) (t + 2) (t := 24) (e := 5) (bytes := 1) (k := .i64) (i := (IntKind.i64.wrap (x1 - (IntKind.i64.wrap (0 - 0))))) (by kernel_rfl) (by kernel_rfl) (Nat.le_of_ble_eq_true rfl) hc4.1 (by omega) (by omega) (z := 0) (by intro zv hz; cases hz; exact (by exact rfl)) ?_
   intro g3 a3 c3 st3 hR4
   replace tot := tot.trans st3.pure
   refine WP.stl 2 ?_
   refine WP.sliceK (k := .i64) (j := 0) hR4 (by kernel_rfl) (by omega) ?_
   intro hR5
   refine WP.stl 1 ?_
   refine WP.dn ?_
   obtain ⟨g4, hw2, st4, hnew⟩ := hR5.relab (by omega) (t + 1)
   refine NX.regw hw2 ?_
   replace tot := tot.trans (st4.up1 (.inr (by omega)))
   clear hR5
   have hR5 := hnew
   clear hnew
   refine NX.post ?_
   exact ⟨(List.take 0 (List.replicate (IntKind.i64.wrap (x1 - (IntKind.i64.wrap (0 - 0)))).toNat (0 : Int))), a3, 0, c3, ⟨by kernel_rfl, by kernel_rfl⟩, tot, hR5, hs⟩
  replace hs := of_if_f hs h4
  refine CP.skip ?_
  refine NX.post ?_
  exact ⟨[], none, 0, 0, ⟨by kernel_rfl, by kernel_rfl⟩, tot, (OwnS.nil _ _ _ _), hs⟩
 clear tot hs
 rintro tm g ⟨l1, a2, n1, c2, hF, tot, hR3, hs⟩
 clear ds
 obtain ⟨ds, rfl⟩ := hF.open
 clear hF
 unfold F.slices_Grow_byte_byte.c1 at hs
 refine CP.seqR ?_
 refine WP.stl 2 ?_
 refine WP.dn ?_
 refine NX.then_n ?_
 refine CP.ret ?_
 obtain ⟨g2, hw1, st2, hnew⟩ := hR3.relab (by omega) r0
 refine NX.regw hw1 ?_
 replace tot := tot.trans (st2.up1 (.inr (by omega)))
 clear hR3
 have hR3 := hnew
 clear hnew
 replace hs := Option.some.inj hs
 obtain rfl := hs
 exact NX.fin (v := .slice a2 n1 c2) (Res.still (by kernel_rfl)) tot htL ⟨a2, n1, c2, rfl, hR3⟩
def F.slices_Concat_byte_byte.l2 (l1 : List (List Int)) : Nat → (List Int) → Int → Option ((List Int))
 | 0, _, _ => none
 | k + 1, l9, x9 => (if decide (x9 < (l1.length : Int)) = true then (if (0 : Int) ≤ x9 ∧ x9 < (l1.length : Int) then (if l9.length + (getI l1 x9).length ≤ 140737488355328 then (F.slices_Concat_byte_byte.l2 l1 k (l9 ++ (getI l1 x9)) (IntKind.i64.wrap (x9 + 1))) else none) else none) else (some l9))
def F.slices_Concat_byte_byte.l1 (l1 : List (List Int)) : Nat → Int → Int → Option ((List Int))
 | 0, _, _ => none
 | k + 1, x3, x4 => (if decide (x4 < (l1.length : Int)) = true then (if (0 : Int) ≤ x4 ∧ x4 < (l1.length : Int) then (if decide ((IntKind.i64.wrap (x3 + ((getI l1 x4).length : Int))) < 0) = true then (if False then none else none) else (F.slices_Concat_byte_byte.l1 l1 k (IntKind.i64.wrap (x3 + ((getI l1 x4).length : Int))) (IntKind.i64.wrap (x4 + 1)))) else none) else ((F.slices_Grow_byte_byte x3).bind fun l8 => (F.slices_Concat_byte_byte.l2 l1 fuel l8 0)))
def F.slices_Concat_byte_byte (l1 : List (List Int)) : Option ((List Int)) := (F.slices_Concat_byte_byte.l1 l1 fuel 0 0)
theorem P.slices_Concat_byte_byte (g0 : GW) (r0 : Nat) (l1 : List (List Int)) (a1 : Option Addr) (n1 : Nat) (c1 : Nat) (hR1 : RdS (Kd.slice 5 (Kd.int .u8)) g0 24 a1 n1 c1 l1) (o1 : List Int) (hs : F.slices_Concat_byte_byte l1 = some o1) :
  Calls Try.prog 67 #[.slice a1 n1 c1] g0.w (Ret NoM g0 fun v g => ∃ (a_1 : Option Addr) (n_1 : Nat) (c_1 : Nat), v = .slice a_1 n_1 c_1 ∧ OwnS (Kd.int .u8) g r0 5 a_1 n_1 c_1 o1) := by
 refine calls_of (args := [.slice a1 n1 c1]) Try.func67 rfl (r0 + 0) ?_
 intro t ht htL
 refine ⟨_, rfl, ?_⟩
 refine CP.refr 36 [(0, .slice a1 n1 c1)] (by kernel_rfl) (by kernel_rfl) ?_
 intro ds
 have tot : Step (fun l => NoM l ∨ t ≤ l) g0 g0 := Step.refl _ _
 unfold F.slices_Concat_byte_byte at hs
 refine CP.seqR ?_
 refine WP.stl 1 ?_
 refine WP.dn ?_
 refine NX.then_n ?_
 refine CP.seqR ?_
 refine WP.stl 1 ?_
 refine WP.dn ?_
 refine NX.then_n ?_
 refine CP.seq ?_
 refine CP.seqR ?_
 refine WP.stl 1 ?_
 refine WP.len (a := a1) (cp := c1) hR1.len (by kernel_rfl) ?_
 refine WP.stl 1 ?_
 refine WP.dn ?_
 refine NX.then_n ?_
 refine CP.block ?_
 generalize fuel = k1 at hs
 refine CP.loop (fun k1 tm g => ∃ (x3 : Int) (x4 : Int), Fr 36 [(0, .slice a1 n1 c1), (3, .int .i64 x3), (9, .slice a1 n1 c1), (10, .int .i64 (l1.length : Int)), (11, .int .i64 x4)] tm ∧ Step (fun l => NoM l ∨ t ≤ l) g0 g ∧ RdS (Kd.slice 5 (Kd.int .u8)) g 24 a1 n1 c1 l1 ∧ F.slices_Concat_byte_byte.l1 l1 k1 x3 x4 = some o1) k1 ?_ ?_ ?_
 ·exact ⟨0, 0, ⟨by kernel_rfl, by kernel_rfl⟩, tot, hR1, hs⟩
 ·rintro tm g ⟨x3, x4, hF, tot, hR1, hs⟩
  exact absurd hs (by simp [F.slices_Concat_byte_byte.l1])
 clear tot hs hR1
 rintro k1 tm g ⟨x3, x4, hF, tot, hR1, hs⟩
 clear ds
 obtain ⟨ds, rfl⟩ := hF.open
 clear hF
 unfold F.slices_Concat_byte_byte.l1 at hs
 refine CP.seqR ?_
 refine WP.stl 1 ?_
 refine WP.dn ?_
 refine NX.then_n ?_
 refine CP.seq ?_
 refine CP.cond (b := decide (x4 < (l1.length : Int))) (by kernel_rfl) (fun h11 => ?_) (fun h11 => ?_)
 ·replace hs := of_if_t hs h11
  refine CP.skip ?_
  refine NX.then_n ?_
  refine CP.seq ?_
  refine CP.block ?_
  refine CP.seqR ?_
  by_cases hc19 : (0 : Int) ≤ x4 ∧ x4 < (l1.length : Int)
  case neg => rw [if_neg hc19] at hs; cases hs
  replace hs := of_if_p hs hc19
  obtain ⟨b10, u10, ha10⟩ := hR1.at hc19
  refine WP.indexA (t := 42) (e := 24) (sz := 1) (cap := c1) (k := .i64) (i := x4) hR1.len ha10 (by kernel_rfl) (by kernel_rfl) hc19 ?_
  obtain ⟨cs10, hcR10, hcV10⟩ := hR1.src.view (getI_some hc19) ha10
  obtain ⟨a21, n17, c21, hcR10, hR21⟩ := Kd.o_sl hcR10
  refine WP.loadV [[.slice a21 n17 c21]] [1] hcV10 hcR10 rfl (f := 0) (ty := 24) (agg := false) (size := 1) (rs := [[.slice a21 n17 c21]]) (v := .slice a21 n17 c21) (by kernel_rfl) (by kernel_rfl) (by kernel_rfl) (by kernel_rfl) ?_
  refine WP.stl 1 ?_
  refine WP.dn ?_
  refine NX.then_n ?_
  refine CP.seqR ?_
  refine WP.stl 2 ?_
  refine WP.len (a := a21) (cp := c21) hR21.len (by kernel_rfl) ?_
  refine WP.stl 2 ?_
  refine WP.dn ?_
  refine NX.then_n ?_
  refine CP.seqR ?_
  refine WP.stl 2 ?_
  refine WP.dn ?_
  refine NX.then_n ?_
  refine CP.cond (b := decide ((IntKind.i64.wrap (x3 + ((getI l1 x4).length : Int))) < 0)) (by kernel_rfl) (fun h13 => ?_) (fun h13 => ?_)
  ·replace hs := of_if_t hs h13
   refine CP.region ?_
   refine WP.stl 1 ?_
   by_cases hc20 : False
   case neg => rw [if_neg hc20] at hs; cases hs
   replace hs := of_if_p hs hc20
   exact absurd hs (by simp)
  replace hs := of_if_f hs h13
  refine CP.skip ?_
  refine NX.block_n ?_
  refine NX.then_n ?_
  refine CP.region ?_
  refine WP.stl 2 ?_
  refine WP.dn ?_
  refine NX.post ?_
  exact ⟨(IntKind.i64.wrap (x3 + ((getI l1 x4).length : Int))), (IntKind.i64.wrap (x4 + 1)), ⟨by kernel_rfl, by kernel_rfl⟩, tot, hR1, hs⟩
 replace hs := of_if_f hs h11
 refine CP.exit ?_
 refine NX.then_e ?_
 refine NX.then_e ?_
 refine NX.block_s ?_
 refine NX.then_n ?_
 refine CP.seqR ?_
 refine WP.stl 1 ?_
 replace hs := Option.bind_eq_some_iff.1 hs
 obtain ⟨l8, hk3, hs⟩ := hs
 have hcal3 := P.slices_Grow_byte_byte g (t + 3) x3 l8 hk3
 refine WP.callC hcal3 (by kernel_rfl) ?_
 rintro _ g7 st7 ⟨a22, n18, c22, rfl, hR22⟩
 replace hR1 := hR1.mono st7 (fun x => x)
 replace tot := tot.trans st7.pure
 refine WP.stl 1 ?_
 refine WP.dn ?_
 refine NX.then_n ?_
 refine CP.seq ?_
 refine CP.seqR ?_
 refine WP.stl 1 ?_
 refine WP.len (a := a1) (cp := c1) hR1.len (by kernel_rfl) ?_
 refine WP.stl 1 ?_
 refine WP.dn ?_
 refine NX.then_n ?_
 refine CP.block ?_
 generalize fuel = k2 at hs
 refine CP.loop (fun k2 tm g => ∃ (l9 : List Int) (a25 : Option Addr) (n20 : Nat) (c25 : Nat) (x9 : Int), Fr 36 [(6, .slice a25 n20 c25), (25, .slice a1 n1 c1), (26, .int .i64 (l1.length : Int)), (27, .int .i64 x9)] tm ∧ Step (fun l => NoM l ∨ t ≤ l) g0 g ∧ OwnS (Kd.int .u8) g (t + 3) 5 a25 n20 c25 l9 ∧ RdS (Kd.slice 5 (Kd.int .u8)) g 24 a1 n1 c1 l1 ∧ F.slices_Concat_byte_byte.l2 l1 k2 l9 x9 = some o1) k2 ?_ ?_ ?_
 ·exact ⟨l8, a22, n18, c22, 0, ⟨by kernel_rfl, by kernel_rfl⟩, tot, hR22, hR1, hs⟩
 ·rintro tm g ⟨l9, a25, n20, c25, x9, hF, tot, hR25, hR1, hs⟩
  exact absurd hs (by simp [F.slices_Concat_byte_byte.l2])
 clear tot hs hR22 hR1
 rintro k2 tm g ⟨l9, a25, n20, c25, x9, hF, tot, hR25, hR1, hs⟩
 clear ds
 obtain ⟨ds, rfl⟩ := hF.open
 clear hF
 unfold F.slices_Concat_byte_byte.l2 at hs
 refine CP.seqR ?_
 refine WP.stl 1 ?_
 refine WP.dn ?_
 refine NX.then_n ?_
 refine CP.seq ?_
 refine CP.cond (b := decide (x9 < (l1.length : Int))) (by kernel_rfl) (fun h16 => ?_) (fun h16 => ?_)
 ·replace hs := of_if_t hs h16
  refine CP.skip ?_
  refine NX.then_n ?_
  refine CP.seq ?_
  refine CP.block ?_
  refine CP.seqR ?_
  by_cases hc25 : (0 : Int) ≤ x9 ∧ x9 < (l1.length : Int)
  case neg => rw [if_neg hc25] at hs; cases hs
  replace hs := of_if_p hs hc25
  obtain ⟨b13, u13, ha13⟩ := hR1.at hc25
  refine WP.indexA (t := 42) (e := 24) (sz := 1) (cap := c1) (k := .i64) (i := x9) hR1.len ha13 (by kernel_rfl) (by kernel_rfl) hc25 ?_
  obtain ⟨cs13, hcR13, hcV13⟩ := hR1.src.view (getI_some hc25) ha13
  obtain ⟨a29, n23, c29, hcR13, hR29⟩ := Kd.o_sl hcR13
  refine WP.loadV [[.slice a29 n23 c29]] [1] hcV13 hcR13 rfl (f := 0) (ty := 24) (agg := false) (size := 1) (rs := [[.slice a29 n23 c29]]) (v := .slice a29 n23 c29) (by kernel_rfl) (by kernel_rfl) (by kernel_rfl) (by kernel_rfl) ?_
  refine WP.stl 1 ?_
  refine WP.dn ?_
  refine NX.then_n ?_
  refine CP.region ?_
  refine WP.stl 2 ?_
  by_cases hc26 : l9.length + (getI l1 x9).length ≤ 140737488355328
  case neg => rw [if_neg hc26] at hs; cases hs
  replace hs := of_if_p hs hc26
  refine WP.append (kd := (Kd.int .u8)) (t := 24) (e := 5) (bytes := 1) (a2 := a29) (c2 := c29) hR25 hR29.src hR29.len (by kernel_rfl) (by kernel_rfl) (by omega) (by simp only [maxLen]; omega) (by omega) ?_
  intro g10 a30 c30 st10 hR30
  replace hR1 := hR1.mono st10 (WL.no1 (by omega))
  replace hR29 := hR29.mono st10 (WL.no1 (by omega))
  replace tot := tot.trans (st10.up1 (.inr (by omega)))
  refine WP.stl 1 ?_
  refine WP.dn ?_
  refine NX.block_n ?_
  refine NX.then_n ?_
  refine CP.region ?_
  refine WP.stl 2 ?_
  refine WP.dn ?_
  refine NX.post ?_
  exact ⟨(l9 ++ (getI l1 x9)), a30, (n20 + n23), c30, (IntKind.i64.wrap (x9 + 1)), ⟨by kernel_rfl, by kernel_rfl⟩, tot, hR30, hR1, hs⟩
 replace hs := of_if_f hs h16
 refine CP.exit ?_
 refine NX.then_e ?_
 refine NX.then_e ?_
 refine NX.block_s ?_
 refine NX.then_n ?_
 refine CP.seqR ?_
 refine WP.stl 2 ?_
 refine WP.dn ?_
 refine NX.then_n ?_
 refine CP.ret ?_
 obtain ⟨g11, hw1, st11, hnew⟩ := hR25.relab (by omega) r0
 refine NX.regw hw1 ?_
 replace tot := tot.trans (st11.up1 (.inr (by omega)))
 clear hR25
 have hR25 := hnew
 clear hnew
 replace hs := Option.some.inj hs
 obtain rfl := hs
 exact NX.fin (v := .slice a25 n20 c25) (Res.still (by kernel_rfl)) tot htL ⟨a25, n20, c25, rfl, hR25⟩
def F.hash_begin (x1 : Int) : Option (Int × Int × Int × Int) := (some (2611923443488327891, 1376283091369227076, 11820040416388919760, x1))
theorem P.hash_begin (g0 : GW) (x1 : Int) (o1 : Int) (o2 : Int) (o3 : Int) (o4 : Int) (hs : F.hash_begin x1 = some (o1, o2, o3, o4)) :
  Calls Try.prog 82 #[.int .u64 x1] g0.w (Ret NoM g0 fun v g => v = AG [[.int .u64 o1], [.int .u64 o2], [.int .u64 o3], [.int .u64 o4]]) := by
 refine calls_of (args := [.int .u64 x1]) Try.func82 rfl (0) ?_
 intro t ht htL
 refine ⟨_, rfl, ?_⟩
 refine CP.refr 5 [(0, .int .u64 x1)] (by kernel_rfl) (by kernel_rfl) ?_
 intro ds
 have tot : Step (fun l => NoM l ∨ t ≤ l) g0 g0 := Step.refl _ _
 unfold F.hash_begin at hs
 refine CP.seqR ?_
 refine WP.alloc (T := 136) (t + 1) [[.int .u64 0], [.int .u64 0], [.int .u64 0], [.int .u64 0]] [1, 1, 1, 1] (by kernel_rfl) rfl ?_
 intro g1 b1 st1 hB1
 replace tot := tot.trans st1.pure
 refine WP.dn ?_
 refine NX.then_n ?_
 refine CP.seqR ?_
 refine WP.stl 2 ?_
 refine WP.storeB (ty := 136) (off := 0) (v := AG [[.int .u64 2611923443488327891], [.int .u64 1376283091369227076], [.int .u64 11820040416388919760], [.int .u64 x1]]) hB1 [[.int .u64 2611923443488327891], [.int .u64 1376283091369227076], [.int .u64 11820040416388919760], [.int .u64 x1]] [1, 1, 1, 1] (by kernel_rfl) (by kernel_rfl) rfl (by kernel_rfl) [[.int .u64 2611923443488327891], [.int .u64 1376283091369227076], [.int .u64 11820040416388919760], [.int .u64 x1]] (by kernel_rfl) (.one rfl (.one rfl (.one rfl (.one rfl .nil)))) ?_
 intro g2 st2 hB2
 replace tot := tot.trans (st2.up1 (.inr (by omega)))
 clear hB1
 have hB1 := hB2
 clear hB2
 refine WP.dn ?_
 refine NX.then_n ?_
 refine CP.ret ?_
 replace hs := Option.some.inj hs
 simp only [Prod.mk.injEq] at hs
 obtain ⟨rfl, rfl, rfl, rfl⟩ := hs
 exact NX.fin (v := AG [[.int .u64 2611923443488327891], [.int .u64 1376283091369227076], [.int .u64 11820040416388919760], [.int .u64 x1]]) (Res.one rfl (RV.box (agg := true) (size := 4) (rs := [[.int .u64 2611923443488327891], [.int .u64 1376283091369227076], [.int .u64 11820040416388919760], [.int .u64 x1]]) hB1 (by kernel_rfl) (by kernel_rfl) (by kernel_rfl) (by kernel_rfl))) tot htL rfl
def F.hash_number.l1 (l1 : List Int) : Nat → Int → Int → Option (Int)
 | 0, _, _ => none
 | k + 1, x1, x2 => (if decide (x2 < (l1.length : Int)) = true then (if (0 : Int) ≤ x2 ∧ x2 < (l1.length : Int) then (if (0 : Int) ≤ (IntKind.i64.wrap (8 * x2)) then (F.hash_number.l1 l1 k (bitOr .u64 x1 (shV true .u64 (IntKind.u64.wrap (getI l1 x2)) (IntKind.i64.wrap (8 * x2)))) (IntKind.i64.wrap (x2 + 1))) else none) else none) else (some x1))
def F.hash_number (l1 : List Int) : Option (Int) := (F.hash_number.l1 l1 fuel 0 0)
theorem P.hash_number (g0 : GW) (l1 : List Int) (a1 : Option Addr) (n1 : Nat) (c1 : Nat) (hR1 : RdS (Kd.int .u8) g0 5 a1 n1 c1 l1) (o1 : Int) (hs : F.hash_number l1 = some o1) :
  Calls Try.prog 94 #[.slice a1 n1 c1] g0.w (Ret NoM g0 fun v g => v = .int .u64 o1) := by
 refine calls_of (args := [.slice a1 n1 c1]) Try.func94 rfl (0) ?_
 intro t ht htL
 refine ⟨_, rfl, ?_⟩
 refine CP.refr 22 [(0, .slice a1 n1 c1)] (by kernel_rfl) (by kernel_rfl) ?_
 intro ds
 have tot : Step (fun l => NoM l ∨ t ≤ l) g0 g0 := Step.refl _ _
 unfold F.hash_number at hs
 refine CP.seqR ?_
 refine WP.stl 1 ?_
 refine WP.dn ?_
 refine NX.then_n ?_
 refine CP.seqR ?_
 refine WP.stl 1 ?_
 refine WP.dn ?_
 refine NX.then_n ?_
 refine CP.seq ?_
 refine CP.seqR ?_
 refine WP.stl 1 ?_
 refine WP.len (a := a1) (cp := c1) hR1.len (by kernel_rfl) ?_
 refine WP.stl 1 ?_
 refine WP.dn ?_
 refine NX.then_n ?_
 refine CP.block ?_
 generalize fuel = k1 at hs
 refine CP.loop (fun k1 tm g => ∃ (x1 : Int) (x2 : Int), Fr 22 [(3, .int .u64 x1), (6, .slice a1 n1 c1), (7, .int .i64 (l1.length : Int)), (8, .int .i64 x2)] tm ∧ Step (fun l => NoM l ∨ t ≤ l) g0 g ∧ RdS (Kd.int .u8) g 5 a1 n1 c1 l1 ∧ F.hash_number.l1 l1 k1 x1 x2 = some o1) k1 ?_ ?_ ?_
 ·exact ⟨0, 0, ⟨by kernel_rfl, by kernel_rfl⟩, tot, hR1, hs⟩
 ·rintro tm g ⟨x1, x2, hF, tot, hR1, hs⟩
  exact absurd hs (by simp [F.hash_number.l1])
 clear tot hs hR1
 rintro k1 tm g ⟨x1, x2, hF, tot, hR1, hs⟩
 clear ds
 obtain ⟨ds, rfl⟩ := hF.open
 clear hF
 unfold F.hash_number.l1 at hs
 refine CP.seqR ?_
 refine WP.stl 1 ?_
 refine WP.dn ?_
 refine NX.then_n ?_
 refine CP.seq ?_
 refine CP.cond (b := decide (x2 < (l1.length : Int))) (by kernel_rfl) (fun h3 => ?_) (fun h3 => ?_)
 ·replace hs := of_if_t hs h3
  refine CP.skip ?_
  refine NX.then_n ?_
  refine CP.seq ?_
  refine CP.block ?_
  refine CP.seqR ?_
  refine WP.stl 1 ?_
  by_cases hc5 : (0 : Int) ≤ x2 ∧ x2 < (l1.length : Int)
  case neg => rw [if_neg hc5] at hs; cases hs
  replace hs := of_if_p hs hc5
  obtain ⟨b3, u3, ha3⟩ := hR1.at hc5
  refine WP.indexA (t := 24) (e := 5) (sz := 1) (cap := c1) (k := .i64) (i := x2) hR1.len ha3 (by kernel_rfl) (by kernel_rfl) hc5 ?_
  obtain ⟨cs3, hcR3, hcV3⟩ := hR1.src.view (getI_some hc5) ha3
  replace hcR3 := Kd.o_int hcR3
  refine WP.loadV [[.int .u8 (getI l1 x2)]] [1] hcV3 hcR3 rfl (f := 0) (ty := 5) (agg := false) (size := 1) (rs := [[.int .u8 (getI l1 x2)]]) (v := .int .u8 (getI l1 x2)) (by kernel_rfl) (by kernel_rfl) (by kernel_rfl) (by kernel_rfl) ?_
  refine WP.stl 2 ?_
  refine WP.dn ?_
  refine NX.then_n ?_
  refine CP.region ?_
  refine WP.stl 5 ?_
  by_cases hc6 : (0 : Int) ≤ (IntKind.i64.wrap (8 * x2))
  case neg => rw [if_neg hc6] at hs; cases hs
  replace hs := of_if_p hs hc6
  refine WP.shift (left := true) (k := .u64) (yk := .i64) (x := (IntKind.u64.wrap (getI l1 x2))) (y := (IntKind.i64.wrap (8 * x2))) (by kernel_rfl) hc6 ?_
  refine WP.stl 2 ?_
  refine WP.dn ?_
  refine NX.block_n ?_
  refine NX.then_n ?_
  refine CP.refr 22 [(3, .int .u64 (bitOr .u64 x1 (shV true .u64 (IntKind.u64.wrap (getI l1 x2)) (IntKind.i64.wrap (8 * x2))))), (6, .slice a1 n1 c1), (7, .int .i64 (l1.length : Int)), (8, .int .i64 x2)] (by kernel_rfl) (by kernel_rfl) ?_
  clear ds
  intro ds
  refine CP.region ?_
  refine WP.stl 2 ?_
  refine WP.dn ?_
  refine NX.post ?_
  exact ⟨(bitOr .u64 x1 (shV true .u64 (IntKind.u64.wrap (getI l1 x2)) (IntKind.i64.wrap (8 * x2)))), (IntKind.i64.wrap (x2 + 1)), ⟨by kernel_rfl, by kernel_rfl⟩, tot, hR1, hs⟩
 replace hs := of_if_f hs h3
 refine CP.exit ?_
 refine NX.then_e ?_
 refine NX.then_e ?_
 refine NX.block_s ?_
 refine NX.then_n ?_
 refine CP.seqR ?_
 refine WP.stl 2 ?_
 refine WP.dn ?_
 refine NX.then_n ?_
 refine CP.ret ?_
 replace hs := Option.some.inj hs
 obtain rfl := hs
 exact NX.fin (v := .int .u64 x1) (Res.still (by kernel_rfl)) tot htL rfl
def F.math_bits_RotateLeft64 (x1 : Int) (x2 : Int) : Option (Int) := (if (0 : Int) ≤ (bitAnd .u64 (IntKind.u64.wrap x2) 63) then (if (0 : Int) ≤ (IntKind.u64.wrap (64 - (bitAnd .u64 (IntKind.u64.wrap x2) 63))) then (some (bitOr .u64 (shV true .u64 x1 (bitAnd .u64 (IntKind.u64.wrap x2) 63)) (shV false .u64 x1 (IntKind.u64.wrap (64 - (bitAnd .u64 (IntKind.u64.wrap x2) 63)))))) else none) else none)
theorem P.math_bits_RotateLeft64 (g0 : GW) (x1 : Int) (x2 : Int) (o1 : Int) (hs : F.math_bits_RotateLeft64 x1 x2 = some o1) :
  Calls Try.prog 101 #[.int .u64 x1, .int .i64 x2] g0.w (Ret NoM g0 fun v g => v = .int .u64 o1) := by
 refine calls_of (args := [.int .u64 x1, .int .i64 x2]) Try.func101 rfl (0) ?_
 intro t ht htL
 refine ⟨_, rfl, ?_⟩
 refine CP.refr 17 [(0, .int .u64 x1), (1, .int .i64 x2)] (by kernel_rfl) (by kernel_rfl) ?_
 intro ds
 have tot : Step (fun l => NoM l ∨ t ≤ l) g0 g0 := Step.refl _ _
 unfold F.math_bits_RotateLeft64 at hs
 refine CP.seqR ?_
 refine WP.stl 1 ?_
 refine WP.dn ?_
 refine NX.then_n ?_
 refine CP.seqR ?_
 refine WP.stl 4 ?_
 refine WP.dn ?_
 refine NX.then_n ?_
 refine CP.seqR ?_
 refine WP.stl 2 ?_
 by_cases hc1 : (0 : Int) ≤ (bitAnd .u64 (IntKind.u64.wrap x2) 63)
 case neg => rw [if_neg hc1] at hs; cases hs
 replace hs := of_if_p hs hc1
 refine WP.shift (left := true) (k := .u64) (yk := .u64) (x := x1) (y := (bitAnd .u64 (IntKind.u64.wrap x2) 63)) (by kernel_rfl) hc1 ?_
 refine WP.stl 3 ?_
 by_cases hc2 : (0 : Int) ≤ (IntKind.u64.wrap (64 - (bitAnd .u64 (IntKind.u64.wrap x2) 63)))
 case neg => rw [if_neg hc2] at hs; cases hs
 replace hs := of_if_p hs hc2
 refine WP.shift (left := false) (k := .u64) (yk := .u64) (x := x1) (y := (IntKind.u64.wrap (64 - (bitAnd .u64 (IntKind.u64.wrap x2) 63)))) (by kernel_rfl) hc2 ?_
 refine WP.stl 2 ?_
 refine WP.dn ?_
 refine NX.then_n ?_
 refine CP.refr 17 [(4, .int .u64 (bitOr .u64 (shV true .u64 x1 (bitAnd .u64 (IntKind.u64.wrap x2) 63)) (shV false .u64 x1 (IntKind.u64.wrap (64 - (bitAnd .u64 (IntKind.u64.wrap x2) 63))))))] (by kernel_rfl) (by kernel_rfl) ?_
 clear ds
 intro ds
 refine CP.ret ?_
 replace hs := Option.some.inj hs
 obtain rfl := hs
 exact NX.fin (v := .int .u64 (bitOr .u64 (shV true .u64 x1 (bitAnd .u64 (IntKind.u64.wrap x2) 63)) (shV false .u64 x1 (IntKind.u64.wrap (64 - (bitAnd .u64 (IntKind.u64.wrap x2) 63)))))) (Res.still (by kernel_rfl)) tot htL rfl
def N.hash_state_mix_0 : List (List Nat) := [[], [], [1], [1, 2], [1, 2, 3], [], [5], [5, 6], [5, 6, 7], [1, 2, 3, 4, 5, 6, 7, 8], [], [1, 2, 3, 4, 5, 6, 7, 8, 9, 10], [0], [0, 1, 2, 3, 4, 5, 6, 7, 8, 9, 10, 11, 12], [0, 1, 2, 3, 4, 5, 6, 7, 8, 9, 10, 11, 12, 13]]
def N.hash_state_mix_1 : List (List Nat) := [[], [0], [0, 1], [0, 1, 2], [], [4], [4, 5], [4, 5, 6], [0, 1, 2, 3, 4, 5, 6, 7], [0], [0, 1, 2, 3, 4, 5, 6, 7, 8, 9], [0, 1, 2, 3, 4, 5, 6, 7, 8, 9, 10]]
def F.hash_state_mix (x1 : Int) (x2 : Int) (x3 : Int) (x4 : Int) (x5 : Int) (x6 : Int) : Option (Int × Int × Int × Int) := ((F.math_bits_RotateLeft64 (bitXor .u64 x4 x1) x5).bind fun x7 => ((F.math_bits_RotateLeft64 (bitXor .u64 x2 (IntKind.u64.wrap (x3 + x7))) x6).bind fun x8 => (some (x1, x8, (IntKind.u64.wrap (x3 + x7)), x7))))
theorem P.hash_state_mix (g0 : GW) (m0 : Nat) (x1 : Int) (x2 : Int) (x3 : Int) (x4 : Int) (x5 : Int) (x6 : Int) (b1 : Nat) (hB1 : Box g0 m0 b1 136 [[.int .u64 x1], [.int .u64 x2], [.int .u64 x3], [.int .u64 x4]] [1, 1, 1, 1]) (hm0 : m0 ≠ 0) (o1 : Int) (o2 : Int) (o3 : Int) (o4 : Int) (hs : F.hash_state_mix x1 x2 x3 x4 x5 x6 = some (o1, o2, o3, o4)) :
  Calls Try.prog 100 #[.pointer (some ⟨b1, 0, none⟩), .int .i64 x5, .int .i64 x6] g0.w (Ret (WL [m0]) g0 fun v g => v = .tuple #[] ∧ Box g m0 b1 136 [[.int .u64 o1], [.int .u64 o2], [.int .u64 o3], [.int .u64 o4]] [1, 1, 1, 1]) := by
 refine calls_of (args := [.pointer (some ⟨b1, 0, none⟩), .int .i64 x5, .int .i64 x6]) Try.func100 rfl (m0 + 0) ?_
 intro t ht htL
 refine ⟨_, rfl, ?_⟩
 refine CP.refr 45 [(0, .pointer (some ⟨b1, 0, none⟩)), (1, .int .i64 x5), (2, .int .i64 x6)] (by kernel_rfl) (by kernel_rfl) ?_
 intro ds
 have tot : Step (fun l => (WL [m0]) l ∨ t ≤ l) g0 g0 := Step.refl _ _
 unfold F.hash_state_mix at hs
 refine CP.seq ?_
 replace hs := Option.bind_eq_some_iff.1 hs
 obtain ⟨x7, hk1, hs⟩ := hs
 refine CP.drawL (by kernel_rfl) [4, 8, 11, 14] N.hash_state_mix_0 [⟨none, [0], [], fun l g => Box g m0 b1 136 [[.int .u64 x1], [.int .u64 x2], [.int .u64 x3], [.int .u64 x4]] [1, 1, 1, 1]⟩, ⟨some 0, [], [0], fun l g => l.getD 0 undef = .int .u64 x4⟩, ⟨some 1, [], [1], fun l g => l.getD 0 undef = .int .u64 x1⟩, ⟨some 2, [], [2], fun l g => l.getD 0 undef = .int .u64 x7⟩, ⟨some 3, [0], [], fun l g => Box g m0 b1 136 [[.int .u64 x1], [.int .u64 x2], [.int .u64 x3], [.int .u64 x7]] [1, 1, 1, 1]⟩] [[], [], [], [0]] [m0] [0, 1, 2, 3, 5, 6, 7, 10, 12, 13] [9] (by kernel_rfl) (by simp <;> omega) (by simp) ⟨fun _ _ _ _ st h0 hl hj hB1 => (hB1.mono st (hj 0 (by simp) _ rfl)), fun _ _ _ _ st h0 hl hj e0 => e0, fun _ _ _ _ st h0 hl hj e1 => e1, fun _ _ _ _ st h0 hl hj e2 => e2, fun _ _ _ _ st h0 hl hj hB1 => (hB1.mono st (hj 0 (by simp) _ rfl)), tv⟩ ⟨hB1, tv, tv, tv, tv, tv⟩ (by kernel_rfl) (fun vs => by kernel_rfl) ?_ ?_ ?_
 ·intro j hj
  have hq : j = 0 := by have h : j < 1 := hj; omega
  rcases hq with rfl
  ·intro vs gq stq hl hf
   obtain ⟨v0, v1, v2, v3, rfl⟩ := len_k4 hl
   have e0 := (show v0 = .int .u64 x4 from hf _ (memI 1 rfl) (by kernel_rfl))
   subst e0
   have e1 := (show v1 = .int .u64 x1 from hf _ (memI 2 rfl) (by kernel_rfl))
   subst e1
   show Option.isSome _ = true
   kernel_rfl
 ·intro j hj
  have hq : j = 0 ∨ j = 1 ∨ j = 2 ∨ j = 3 := by have h : j < 4 := hj; omega
  rcases hq with rfl | rfl | rfl | rfl
  ·intro vs gq stq hl hf
   obtain ⟨v0, v1, v2, v3, rfl⟩ := len_k4 hl
   have hB1 := (show Box gq m0 b1 136 [[.int .u64 x1], [.int .u64 x2], [.int .u64 x3], [.int .u64 x4]] [1, 1, 1, 1] from hf _ (memI 0 rfl) (by kernel_rfl))
   refine WP.loadB (v := .int .u64 x4) hB1 (by kernel_rfl) (by kernel_rfl) ?_
   refine WP.dn (Shown.ok (v := .int .u64 x4) (by kernel_rfl) (Step.refl _ _) ?_)
   exact ⟨tv, rfl, tv, tv, tv, tv⟩
  ·intro vs gq stq hl hf
   obtain ⟨v0, v1, v2, v3, rfl⟩ := len_k4 hl
   have hB1 := (show Box gq m0 b1 136 [[.int .u64 x1], [.int .u64 x2], [.int .u64 x3], [.int .u64 x4]] [1, 1, 1, 1] from hf _ (memI 0 rfl) (by kernel_rfl))
   refine WP.loadB (v := .int .u64 x1) hB1 (by kernel_rfl) (by kernel_rfl) ?_
   refine WP.dn (Shown.ok (v := .int .u64 x1) (by kernel_rfl) (Step.refl _ _) ?_)
   exact ⟨tv, tv, rfl, tv, tv, tv⟩
  ·intro vs gq stq hl hf
   obtain ⟨v0, v1, v2, v3, rfl⟩ := len_k4 hl
   have e0 := (show v0 = .int .u64 x4 from hf _ (memI 1 rfl) (by kernel_rfl))
   subst e0
   have e1 := (show v1 = .int .u64 x1 from hf _ (memI 2 rfl) (by kernel_rfl))
   subst e1
   have hcal1 := P.math_bits_RotateLeft64 gq (bitXor .u64 x4 x1) x5 x7 hk1
   refine WP.callC hcal1 (by kernel_rfl) ?_
   rintro _ g1 st1 rfl
   refine WP.dn (Shown.o (v := .int .u64 x7) st1.pure ?_)
   exact ⟨tv, tv, tv, rfl, tv, tv⟩
  ·intro vs gq stq hl hf
   obtain ⟨v0, v1, v2, v3, rfl⟩ := len_k4 hl
   have hB1 := (show Box gq m0 b1 136 [[.int .u64 x1], [.int .u64 x2], [.int .u64 x3], [.int .u64 x4]] [1, 1, 1, 1] from hf _ (memI 0 rfl) (by kernel_rfl))
   have e2 := (show v2 = .int .u64 x7 from hf _ (memI 3 rfl) (by kernel_rfl))
   subst e2
   refine WP.storeB (ty := 38) (off := 3) (v := .int .u64 x7) hB1 [[.int .u64 x7]] [1] (by kernel_rfl) (by kernel_rfl) rfl (by kernel_rfl) [[.int .u64 x1], [.int .u64 x2], [.int .u64 x3], [.int .u64 x7]] (by kernel_rfl) (.one rfl .nil) ?_
   intro g2 st2 hB2
   refine WP.dn (Shown.o (v := undef) st2 ?_)
   exact ⟨tv, tv, tv, tv, hB2, tv⟩
 intro vs g3 st3 hl hf
 obtain ⟨v0, v1, v2, v3, rfl⟩ := len_k4 hl
 have hB1 := (show Box g3 m0 b1 136 [[.int .u64 x1], [.int .u64 x2], [.int .u64 x3], [.int .u64 x7]] [1, 1, 1, 1] from hf _ (memI 4 rfl) (by kernel_rfl))
 replace tot := tot.trans (st3.up1 (.inl (by simp [WL])))
 refine NX.then_n ?_
 refine CP.refr 45 [(0, .pointer (some ⟨b1, 0, none⟩)), (2, .int .i64 x6)] (by kernel_rfl) (by kernel_rfl) ?_
 clear ds
 intro ds
 refine CP.seq ?_
 refine CP.drawL (by kernel_rfl) [3, 7, 11] N.hash_state_mix_1 [⟨none, [0], [], fun l g => Box g m0 b1 136 [[.int .u64 x1], [.int .u64 x2], [.int .u64 x3], [.int .u64 x7]] [1, 1, 1, 1]⟩, ⟨some 0, [], [0], fun l g => l.getD 0 undef = .int .u64 x3⟩, ⟨some 1, [], [1], fun l g => l.getD 0 undef = .int .u64 x7⟩, ⟨some 2, [0], [], fun l g => Box g m0 b1 136 [[.int .u64 x1], [.int .u64 x2], [.int .u64 (IntKind.u64.wrap (x3 + x7))], [.int .u64 x7]] [1, 1, 1, 1]⟩] [[], [], [0]] [m0] [0, 1, 2, 4, 5, 6, 9, 10] [8] (by kernel_rfl) (by simp <;> omega) (by simp) ⟨fun _ _ _ _ st h0 hl hj hB1 => (hB1.mono st (hj 0 (by simp) _ rfl)), fun _ _ _ _ st h0 hl hj e0 => e0, fun _ _ _ _ st h0 hl hj e1 => e1, fun _ _ _ _ st h0 hl hj hB1 => (hB1.mono st (hj 0 (by simp) _ rfl)), tv⟩ ⟨hB1, tv, tv, tv, tv⟩ (by kernel_rfl) (fun vs => by kernel_rfl) ?_ ?_ ?_
 ·intro j hj
  have hq : j = 0 := by have h : j < 1 := hj; omega
  rcases hq with rfl
  ·intro vs gq stq hl hf
   obtain ⟨v0, v1, v2, rfl⟩ := len_k3 hl
   have e0 := (show v0 = .int .u64 x3 from hf _ (memI 1 rfl) (by kernel_rfl))
   subst e0
   have e1 := (show v1 = .int .u64 x7 from hf _ (memI 2 rfl) (by kernel_rfl))
   subst e1
   show Option.isSome _ = true
   kernel_rfl
 ·intro j hj
  have hq : j = 0 ∨ j = 1 ∨ j = 2 := by have h : j < 3 := hj; omega
  rcases hq with rfl | rfl | rfl
  ·intro vs gq stq hl hf
   obtain ⟨v0, v1, v2, rfl⟩ := len_k3 hl
   have hB1 := (show Box gq m0 b1 136 [[.int .u64 x1], [.int .u64 x2], [.int .u64 x3], [.int .u64 x7]] [1, 1, 1, 1] from hf _ (memI 0 rfl) (by kernel_rfl))
   refine WP.loadB (v := .int .u64 x3) hB1 (by kernel_rfl) (by kernel_rfl) ?_
   refine WP.dn (Shown.ok (v := .int .u64 x3) (by kernel_rfl) (Step.refl _ _) ?_)
   exact ⟨tv, rfl, tv, tv, tv⟩
  ·intro vs gq stq hl hf
   obtain ⟨v0, v1, v2, rfl⟩ := len_k3 hl
   have hB1 := (show Box gq m0 b1 136 [[.int .u64 x1], [.int .u64 x2], [.int .u64 x3], [.int .u64 x7]] [1, 1, 1, 1] from hf _ (memI 0 rfl) (by kernel_rfl))
   refine WP.loadB (v := .int .u64 x7) hB1 (by kernel_rfl) (by kernel_rfl) ?_
   refine WP.dn (Shown.ok (v := .int .u64 x7) (by kernel_rfl) (Step.refl _ _) ?_)
   exact ⟨tv, tv, rfl, tv, tv⟩
  ·intro vs gq stq hl hf
   obtain ⟨v0, v1, v2, rfl⟩ := len_k3 hl
   have hB1 := (show Box gq m0 b1 136 [[.int .u64 x1], [.int .u64 x2], [.int .u64 x3], [.int .u64 x7]] [1, 1, 1, 1] from hf _ (memI 0 rfl) (by kernel_rfl))
   have e0 := (show v0 = .int .u64 x3 from hf _ (memI 1 rfl) (by kernel_rfl))
   subst e0
   have e1 := (show v1 = .int .u64 x7 from hf _ (memI 2 rfl) (by kernel_rfl))
   subst e1
   refine WP.storeB (ty := 38) (off := 2) (v := .int .u64 (IntKind.u64.wrap (x3 + x7))) hB1 [[.int .u64 (IntKind.u64.wrap (x3 + x7))]] [1] (by kernel_rfl) (by kernel_rfl) rfl (by kernel_rfl) [[.int .u64 x1], [.int .u64 x2], [.int .u64 (IntKind.u64.wrap (x3 + x7))], [.int .u64 x7]] (by kernel_rfl) (.one rfl .nil) ?_
   intro g4 st4 hB3
   refine WP.dn (Shown.o (v := undef) st4 ?_)
   exact ⟨tv, tv, tv, hB3, tv⟩
 intro vs g5 st5 hl hf
 obtain ⟨v0, v1, v2, rfl⟩ := len_k3 hl
 have hB1 := (show Box g5 m0 b1 136 [[.int .u64 x1], [.int .u64 x2], [.int .u64 (IntKind.u64.wrap (x3 + x7))], [.int .u64 x7]] [1, 1, 1, 1] from hf _ (memI 3 rfl) (by kernel_rfl))
 replace tot := tot.trans (st5.up1 (.inl (by simp [WL])))
 refine NX.then_n ?_
 refine CP.refr 45 [(0, .pointer (some ⟨b1, 0, none⟩)), (2, .int .i64 x6)] (by kernel_rfl) (by kernel_rfl) ?_
 clear ds
 intro ds
 replace hs := Option.bind_eq_some_iff.1 hs
 obtain ⟨x8, hk2, hs⟩ := hs
 refine CP.drawL (by kernel_rfl) [4, 8, 11, 14] N.hash_state_mix_0 [⟨none, [0], [], fun l g => Box g m0 b1 136 [[.int .u64 x1], [.int .u64 x2], [.int .u64 (IntKind.u64.wrap (x3 + x7))], [.int .u64 x7]] [1, 1, 1, 1]⟩, ⟨some 0, [], [0], fun l g => l.getD 0 undef = .int .u64 x2⟩, ⟨some 1, [], [1], fun l g => l.getD 0 undef = .int .u64 (IntKind.u64.wrap (x3 + x7))⟩, ⟨some 2, [], [2], fun l g => l.getD 0 undef = .int .u64 x8⟩, ⟨some 3, [0], [], fun l g => Box g m0 b1 136 [[.int .u64 x1], [.int .u64 x8], [.int .u64 (IntKind.u64.wrap (x3 + x7))], [.int .u64 x7]] [1, 1, 1, 1]⟩] [[], [], [], [0]] [m0] [0, 1, 2, 3, 5, 6, 7, 10, 12, 13] [9] (by kernel_rfl) (by simp <;> omega) (by simp) ⟨fun _ _ _ _ st h0 hl hj hB1 => (hB1.mono st (hj 0 (by simp) _ rfl)), fun _ _ _ _ st h0 hl hj e0 => e0, fun _ _ _ _ st h0 hl hj e1 => e1, fun _ _ _ _ st h0 hl hj e2 => e2, fun _ _ _ _ st h0 hl hj hB1 => (hB1.mono st (hj 0 (by simp) _ rfl)), tv⟩ ⟨hB1, tv, tv, tv, tv, tv⟩ (by kernel_rfl) (fun vs => by kernel_rfl) ?_ ?_ ?_
 ·intro j hj
  have hq : j = 0 := by have h : j < 1 := hj; omega
  rcases hq with rfl
  ·intro vs gq stq hl hf
   obtain ⟨v0, v1, v2, v3, rfl⟩ := len_k4 hl
   have e0 := (show v0 = .int .u64 x2 from hf _ (memI 1 rfl) (by kernel_rfl))
   subst e0
   have e1 := (show v1 = .int .u64 (IntKind.u64.wrap (x3 + x7)) from hf _ (memI 2 rfl) (by kernel_rfl))
   subst e1
   show Option.isSome _ = true
   kernel_rfl
 ·intro j hj
  have hq : j = 0 ∨ j = 1 ∨ j = 2 ∨ j = 3 := by have h : j < 4 := hj; omega
  rcases hq with rfl | rfl | rfl | rfl
  ·intro vs gq stq hl hf
   obtain ⟨v0, v1, v2, v3, rfl⟩ := len_k4 hl
   have hB1 := (show Box gq m0 b1 136 [[.int .u64 x1], [.int .u64 x2], [.int .u64 (IntKind.u64.wrap (x3 + x7))], [.int .u64 x7]] [1, 1, 1, 1] from hf _ (memI 0 rfl) (by kernel_rfl))
   refine WP.loadB (v := .int .u64 x2) hB1 (by kernel_rfl) (by kernel_rfl) ?_
   refine WP.dn (Shown.ok (v := .int .u64 x2) (by kernel_rfl) (Step.refl _ _) ?_)
   exact ⟨tv, rfl, tv, tv, tv, tv⟩
  ·intro vs gq stq hl hf
   obtain ⟨v0, v1, v2, v3, rfl⟩ := len_k4 hl
   have hB1 := (show Box gq m0 b1 136 [[.int .u64 x1], [.int .u64 x2], [.int .u64 (IntKind.u64.wrap (x3 + x7))], [.int .u64 x7]] [1, 1, 1, 1] from hf _ (memI 0 rfl) (by kernel_rfl))
   refine WP.loadB (v := .int .u64 (IntKind.u64.wrap (x3 + x7))) hB1 (by kernel_rfl) (by kernel_rfl) ?_
   refine WP.dn (Shown.ok (v := .int .u64 (IntKind.u64.wrap (x3 + x7))) (by kernel_rfl) (Step.refl _ _) ?_)
   exact ⟨tv, tv, rfl, tv, tv, tv⟩
  ·intro vs gq stq hl hf
   obtain ⟨v0, v1, v2, v3, rfl⟩ := len_k4 hl
   have e0 := (show v0 = .int .u64 x2 from hf _ (memI 1 rfl) (by kernel_rfl))
   subst e0
   have e1 := (show v1 = .int .u64 (IntKind.u64.wrap (x3 + x7)) from hf _ (memI 2 rfl) (by kernel_rfl))
   subst e1
   have hcal2 := P.math_bits_RotateLeft64 gq (bitXor .u64 x2 (IntKind.u64.wrap (x3 + x7))) x6 x8 hk2
   refine WP.callC hcal2 (by kernel_rfl) ?_
   rintro _ g6 st6 rfl
   refine WP.dn (Shown.o (v := .int .u64 x8) st6.pure ?_)
   exact ⟨tv, tv, tv, rfl, tv, tv⟩
  ·intro vs gq stq hl hf
   obtain ⟨v0, v1, v2, v3, rfl⟩ := len_k4 hl
   have hB1 := (show Box gq m0 b1 136 [[.int .u64 x1], [.int .u64 x2], [.int .u64 (IntKind.u64.wrap (x3 + x7))], [.int .u64 x7]] [1, 1, 1, 1] from hf _ (memI 0 rfl) (by kernel_rfl))
   have e2 := (show v2 = .int .u64 x8 from hf _ (memI 3 rfl) (by kernel_rfl))
   subst e2
   refine WP.storeB (ty := 38) (off := 1) (v := .int .u64 x8) hB1 [[.int .u64 x8]] [1] (by kernel_rfl) (by kernel_rfl) rfl (by kernel_rfl) [[.int .u64 x1], [.int .u64 x8], [.int .u64 (IntKind.u64.wrap (x3 + x7))], [.int .u64 x7]] (by kernel_rfl) (.one rfl .nil) ?_
   intro g7 st7 hB4
   refine WP.dn (Shown.o (v := undef) st7 ?_)
   exact ⟨tv, tv, tv, tv, hB4, tv⟩
 intro vs g8 st8 hl hf
 obtain ⟨v0, v1, v2, v3, rfl⟩ := len_k4 hl
 have hB1 := (show Box g8 m0 b1 136 [[.int .u64 x1], [.int .u64 x8], [.int .u64 (IntKind.u64.wrap (x3 + x7))], [.int .u64 x7]] [1, 1, 1, 1] from hf _ (memI 4 rfl) (by kernel_rfl))
 replace tot := tot.trans (st8.up1 (.inl (by simp [WL])))
 replace hs := Option.some.inj hs
 simp only [Prod.mk.injEq] at hs
 obtain ⟨rfl, rfl, rfl, rfl⟩ := hs
 exact NX.finE (v := .tuple #[]) (Res.still (by kernel_rfl)) tot htL ⟨rfl, hB1⟩
def N.hash_state_stir_0 : List (List Nat) := [[], [], [1], [1, 2], [1, 2, 3], [], [5], [5, 6], [5, 6, 7], [1, 2, 3, 4, 5, 6, 7, 8], [], [10], [10, 11], [1, 2, 3, 4, 5, 6, 7, 8, 9, 10, 11, 12], [0], [0, 1, 2, 3, 4, 5, 6, 7, 8, 9, 10, 11, 12, 13, 14], [0, 1, 2, 3, 4, 5, 6, 7, 8, 9, 10, 11, 12, 13, 14, 15]]
def N.hash_state_stir_1 : List (List Nat) := [[], [0], [0, 1], [0, 1, 2], [], [4], [4, 5], [4, 5, 6], [0, 1, 2, 3, 4, 5, 6, 7], [0], [0, 1, 2, 3, 4, 5, 6, 7, 8, 9], [0, 1, 2, 3, 4, 5, 6, 7, 8, 9, 10]]
def F.hash_state_stir.l1 : Nat → Int → Int → Int → Int → Int → Option (Int × Int × Int × Int)
 | 0, _, _, _, _, _ => none
 | k + 1, x13, x14, x15, x16, x17 => (if decide (x17 < 6) = true then ((F.hash_state_mix (bitXor .u64 (IntKind.u64.wrap (x13 + x14)) (IntKind.u64.wrap (IntKind.i64.wrap (x17 + 1)))) x14 x15 x16 32 24).bind fun (x31, x32, x33, x34) => ((F.hash_state_mix (IntKind.u64.wrap (x31 + x32)) x32 x33 x34 16 63).bind fun (x35, x36, x37, x38) => (F.hash_state_stir.l1 k x35 x36 x37 x38 (IntKind.i64.wrap (x17 + 1))))) else (some (x13, x14, x15, x16)))
def F.hash_state_stir (x1 : Int) (x2 : Int) (x3 : Int) (x4 : Int) : Option (Int × Int × Int × Int) := (F.hash_state_stir.l1 fuel x1 x2 x3 x4 0)
theorem P.hash_state_stir (g0 : GW) (m0 : Nat) (x1 : Int) (x2 : Int) (x3 : Int) (x4 : Int) (b1 : Nat) (hB1 : Box g0 m0 b1 136 [[.int .u64 x1], [.int .u64 x2], [.int .u64 x3], [.int .u64 x4]] [1, 1, 1, 1]) (hm0 : m0 ≠ 0) (o1 : Int) (o2 : Int) (o3 : Int) (o4 : Int) (hs : F.hash_state_stir x1 x2 x3 x4 = some (o1, o2, o3, o4)) :
  Calls Try.prog 98 #[.pointer (some ⟨b1, 0, none⟩)] g0.w (Ret (WL [m0]) g0 fun v g => v = .tuple #[] ∧ Box g m0 b1 136 [[.int .u64 o1], [.int .u64 o2], [.int .u64 o3], [.int .u64 o4]] [1, 1, 1, 1]) := by
 refine calls_of (args := [.pointer (some ⟨b1, 0, none⟩)]) Try.func98 rfl (m0 + 0) ?_
 intro t ht htL
 refine ⟨_, rfl, ?_⟩
 refine CP.refr 38 [(0, .pointer (some ⟨b1, 0, none⟩))] (by kernel_rfl) (by kernel_rfl) ?_
 intro ds
 have tot : Step (fun l => (WL [m0]) l ∨ t ≤ l) g0 g0 := Step.refl _ _
 unfold F.hash_state_stir at hs
 refine CP.seqR ?_
 refine WP.stl 1 ?_
 refine WP.dn ?_
 refine NX.then_n ?_
 refine CP.block ?_
 generalize fuel = k1 at hs
 refine CP.loop (fun k1 tm g => ∃ (x13 : Int) (x14 : Int) (x15 : Int) (x16 : Int) (x17 : Int), Fr 38 [(0, .pointer (some ⟨b1, 0, none⟩)), (3, .int .i64 x17)] tm ∧ Step (fun l => (WL [m0]) l ∨ t ≤ l) g0 g ∧ Box g m0 b1 136 [[.int .u64 x13], [.int .u64 x14], [.int .u64 x15], [.int .u64 x16]] [1, 1, 1, 1] ∧ F.hash_state_stir.l1 k1 x13 x14 x15 x16 x17 = some (o1, o2, o3, o4)) k1 ?_ ?_ ?_
 ·exact ⟨x1, x2, x3, x4, 0, ⟨by kernel_rfl, by kernel_rfl⟩, tot, hB1, hs⟩
 ·rintro tm g ⟨x13, x14, x15, x16, x17, hF, tot, hB1, hs⟩
  exact absurd hs (by simp [F.hash_state_stir.l1])
 clear tot hs hB1
 rintro k1 tm g ⟨x13, x14, x15, x16, x17, hF, tot, hB1, hs⟩
 clear ds
 obtain ⟨ds, rfl⟩ := hF.open
 clear hF
 unfold F.hash_state_stir.l1 at hs
 refine CP.seqR ?_
 refine WP.stl 1 ?_
 refine WP.dn ?_
 refine NX.then_n ?_
 refine CP.seq ?_
 refine CP.cond (b := decide (x17 < 6)) (by kernel_rfl) (fun h3 => ?_) (fun h3 => ?_)
 ·replace hs := of_if_t hs h3
  refine CP.skip ?_
  refine NX.then_n ?_
  refine CP.seq ?_
  refine CP.block ?_
  refine CP.seqR ?_
  refine WP.stl 2 ?_
  refine WP.dn ?_
  refine NX.then_n ?_
  refine CP.seq ?_
  refine CP.drawL (by kernel_rfl) [4, 8, 16] N.hash_state_stir_0 [⟨none, [0], [], fun l g => Box g m0 b1 136 [[.int .u64 x13], [.int .u64 x14], [.int .u64 x15], [.int .u64 x16]] [1, 1, 1, 1]⟩, ⟨some 0, [], [0], fun l g => l.getD 0 undef = .int .u64 x13⟩, ⟨some 1, [], [1], fun l g => l.getD 0 undef = .int .u64 x14⟩, ⟨some 2, [0], [], fun l g => Box g m0 b1 136 [[.int .u64 (bitXor .u64 (IntKind.u64.wrap (x13 + x14)) (IntKind.u64.wrap (IntKind.i64.wrap (x17 + 1))))], [.int .u64 x14], [.int .u64 x15], [.int .u64 x16]] [1, 1, 1, 1]⟩] [[], [], [0]] [m0] [0, 1, 2, 3, 5, 6, 7, 10, 11, 12, 14, 15] [9, 13] (by kernel_rfl) (by simp <;> omega) (by simp) ⟨fun _ _ _ _ st h0 hl hj hB1 => (hB1.mono st (hj 0 (by simp) _ rfl)), fun _ _ _ _ st h0 hl hj e0 => e0, fun _ _ _ _ st h0 hl hj e1 => e1, fun _ _ _ _ st h0 hl hj hB1 => (hB1.mono st (hj 0 (by simp) _ rfl)), tv⟩ ⟨hB1, tv, tv, tv, tv⟩ (by kernel_rfl) (fun vs => by kernel_rfl) ?_ ?_ ?_
  ·intro j hj
   have hq : j = 0 ∨ j = 1 := by have h : j < 2 := hj; omega
   rcases hq with rfl | rfl
   ·intro vs gq stq hl hf
    obtain ⟨v0, v1, v2, rfl⟩ := len_k3 hl
    have e0 := (show v0 = .int .u64 x13 from hf _ (memI 1 rfl) (by kernel_rfl))
    subst e0
    have e1 := (show v1 = .int .u64 x14 from hf _ (memI 2 rfl) (by kernel_rfl))
    subst e1
    show Option.isSome _ = true
    kernel_rfl
   ·intro vs gq stq hl hf
    obtain ⟨v0, v1, v2, rfl⟩ := len_k3 hl
    have e0 := (show v0 = .int .u64 x13 from hf _ (memI 1 rfl) (by kernel_rfl))
    subst e0
    have e1 := (show v1 = .int .u64 x14 from hf _ (memI 2 rfl) (by kernel_rfl))
    subst e1
    show Option.isSome _ = true
    kernel_rfl
  ·intro j hj
   have hq : j = 0 ∨ j = 1 ∨ j = 2 := by have h : j < 3 := hj; omega
   rcases hq with rfl | rfl | rfl
   ·intro vs gq stq hl hf
    obtain ⟨v0, v1, v2, rfl⟩ := len_k3 hl
    have hB1 := (show Box gq m0 b1 136 [[.int .u64 x13], [.int .u64 x14], [.int .u64 x15], [.int .u64 x16]] [1, 1, 1, 1] from hf _ (memI 0 rfl) (by kernel_rfl))
    refine WP.loadB (v := .int .u64 x13) hB1 (by kernel_rfl) (by kernel_rfl) ?_
    refine WP.dn (Shown.ok (v := .int .u64 x13) (by kernel_rfl) (Step.refl _ _) ?_)
    exact ⟨tv, rfl, tv, tv, tv⟩
   ·intro vs gq stq hl hf
    obtain ⟨v0, v1, v2, rfl⟩ := len_k3 hl
    have hB1 := (show Box gq m0 b1 136 [[.int .u64 x13], [.int .u64 x14], [.int .u64 x15], [.int .u64 x16]] [1, 1, 1, 1] from hf _ (memI 0 rfl) (by kernel_rfl))
    refine WP.loadB (v := .int .u64 x14) hB1 (by kernel_rfl) (by kernel_rfl) ?_
    refine WP.dn (Shown.ok (v := .int .u64 x14) (by kernel_rfl) (Step.refl _ _) ?_)
    exact ⟨tv, tv, rfl, tv, tv⟩
   ·intro vs gq stq hl hf
    obtain ⟨v0, v1, v2, rfl⟩ := len_k3 hl
    have hB1 := (show Box gq m0 b1 136 [[.int .u64 x13], [.int .u64 x14], [.int .u64 x15], [.int .u64 x16]] [1, 1, 1, 1] from hf _ (memI 0 rfl) (by kernel_rfl))
    have e0 := (show v0 = .int .u64 x13 from hf _ (memI 1 rfl) (by kernel_rfl))
    subst e0
    have e1 := (show v1 = .int .u64 x14 from hf _ (memI 2 rfl) (by kernel_rfl))
    subst e1
    refine WP.storeB (ty := 38) (off := 0) (v := .int .u64 (bitXor .u64 (IntKind.u64.wrap (x13 + x14)) (IntKind.u64.wrap (IntKind.i64.wrap (x17 + 1))))) hB1 [[.int .u64 (bitXor .u64 (IntKind.u64.wrap (x13 + x14)) (IntKind.u64.wrap (IntKind.i64.wrap (x17 + 1))))]] [1] (by kernel_rfl) (by kernel_rfl) rfl (by kernel_rfl) [[.int .u64 (bitXor .u64 (IntKind.u64.wrap (x13 + x14)) (IntKind.u64.wrap (IntKind.i64.wrap (x17 + 1))))], [.int .u64 x14], [.int .u64 x15], [.int .u64 x16]] (by kernel_rfl) (.one rfl .nil) ?_
    intro g9 st9 hB10
    refine WP.dn (Shown.o (v := undef) st9 ?_)
    exact ⟨tv, tv, tv, hB10, tv⟩
  intro vs g10 st10 hl hf
  obtain ⟨v0, v1, v2, rfl⟩ := len_k3 hl
  have hB1 := (show Box g10 m0 b1 136 [[.int .u64 (bitXor .u64 (IntKind.u64.wrap (x13 + x14)) (IntKind.u64.wrap (IntKind.i64.wrap (x17 + 1))))], [.int .u64 x14], [.int .u64 x15], [.int .u64 x16]] [1, 1, 1, 1] from hf _ (memI 3 rfl) (by kernel_rfl))
  replace tot := tot.trans (st10.up1 (.inl (by simp [WL])))
  refine NX.then_n ?_
  refine CP.refr 38 [(0, .pointer (some ⟨b1, 0, none⟩)), (3, .int .i64 x17)] (by kernel_rfl) (by kernel_rfl) ?_
  clear ds
  intro ds
  refine CP.seqR ?_
  refine WP.stl 1 ?_
  replace hs := Option.bind_eq_some_iff.1 hs
  obtain ⟨⟨x31, x32, x33, x34⟩, hk5, hs⟩ := hs
  dsimp only at hs
  have hcal5 := P.hash_state_mix g10 m0 (bitXor .u64 (IntKind.u64.wrap (x13 + x14)) (IntKind.u64.wrap (IntKind.i64.wrap (x17 + 1)))) x14 x15 x16 32 24 b1 hB1 (by omega) x31 x32 x33 x34 hk5
  refine WP.callC hcal5 (by kernel_rfl) ?_
  rintro _ g11 st11 ⟨rfl, hB11⟩
  replace tot := tot.trans (st11.up1 (.inl (by simp [WL])))
  clear hB1
  have hB1 := hB11
  clear hB11
  refine WP.dn ?_
  refine NX.then_n ?_
  refine CP.seq ?_
  refine CP.drawL (by kernel_rfl) [3, 7, 11] N.hash_state_stir_1 [⟨none, [0], [], fun l g => Box g m0 b1 136 [[.int .u64 x31], [.int .u64 x32], [.int .u64 x33], [.int .u64 x34]] [1, 1, 1, 1]⟩, ⟨some 0, [], [0], fun l g => l.getD 0 undef = .int .u64 x31⟩, ⟨some 1, [], [1], fun l g => l.getD 0 undef = .int .u64 x32⟩, ⟨some 2, [0], [], fun l g => Box g m0 b1 136 [[.int .u64 (IntKind.u64.wrap (x31 + x32))], [.int .u64 x32], [.int .u64 x33], [.int .u64 x34]] [1, 1, 1, 1]⟩] [[], [], [0]] [m0] [0, 1, 2, 4, 5, 6, 9, 10] [8] (by kernel_rfl) (by simp <;> omega) (by simp) ⟨fun _ _ _ _ st h0 hl hj hB1 => (hB1.mono st (hj 0 (by simp) _ rfl)), fun _ _ _ _ st h0 hl hj e0 => e0, fun _ _ _ _ st h0 hl hj e1 => e1, fun _ _ _ _ st h0 hl hj hB1 => (hB1.mono st (hj 0 (by simp) _ rfl)), tv⟩ ⟨hB1, tv, tv, tv, tv⟩ (by kernel_rfl) (fun vs => by kernel_rfl) ?_ ?_ ?_
  ·intro j hj
   have hq : j = 0 := by have h : j < 1 := hj; omega
   rcases hq with rfl
   ·intro vs gq stq hl hf
    obtain ⟨v0, v1, v2, rfl⟩ := len_k3 hl
    have e0 := (show v0 = .int .u64 x31 from hf _ (memI 1 rfl) (by kernel_rfl))
    subst e0
    have e1 := (show v1 = .int .u64 x32 from hf _ (memI 2 rfl) (by kernel_rfl))
    subst e1
    show Option.isSome _ = true
    kernel_rfl
  ·intro j hj
   have hq : j = 0 ∨ j = 1 ∨ j = 2 := by have h : j < 3 := hj; omega
   rcases hq with rfl | rfl | rfl
   ·intro vs gq stq hl hf
    obtain ⟨v0, v1, v2, rfl⟩ := len_k3 hl
    have hB1 := (show Box gq m0 b1 136 [[.int .u64 x31], [.int .u64 x32], [.int .u64 x33], [.int .u64 x34]] [1, 1, 1, 1] from hf _ (memI 0 rfl) (by kernel_rfl))
    refine WP.loadB (v := .int .u64 x31) hB1 (by kernel_rfl) (by kernel_rfl) ?_
    refine WP.dn (Shown.ok (v := .int .u64 x31) (by kernel_rfl) (Step.refl _ _) ?_)
    exact ⟨tv, rfl, tv, tv, tv⟩
   ·intro vs gq stq hl hf
    obtain ⟨v0, v1, v2, rfl⟩ := len_k3 hl
    have hB1 := (show Box gq m0 b1 136 [[.int .u64 x31], [.int .u64 x32], [.int .u64 x33], [.int .u64 x34]] [1, 1, 1, 1] from hf _ (memI 0 rfl) (by kernel_rfl))
    refine WP.loadB (v := .int .u64 x32) hB1 (by kernel_rfl) (by kernel_rfl) ?_
    refine WP.dn (Shown.ok (v := .int .u64 x32) (by kernel_rfl) (Step.refl _ _) ?_)
    exact ⟨tv, tv, rfl, tv, tv⟩
   ·intro vs gq stq hl hf
    obtain ⟨v0, v1, v2, rfl⟩ := len_k3 hl
    have hB1 := (show Box gq m0 b1 136 [[.int .u64 x31], [.int .u64 x32], [.int .u64 x33], [.int .u64 x34]] [1, 1, 1, 1] from hf _ (memI 0 rfl) (by kernel_rfl))
    have e0 := (show v0 = .int .u64 x31 from hf _ (memI 1 rfl) (by kernel_rfl))
    subst e0
    have e1 := (show v1 = .int .u64 x32 from hf _ (memI 2 rfl) (by kernel_rfl))
    subst e1
    refine WP.storeB (ty := 38) (off := 0) (v := .int .u64 (IntKind.u64.wrap (x31 + x32))) hB1 [[.int .u64 (IntKind.u64.wrap (x31 + x32))]] [1] (by kernel_rfl) (by kernel_rfl) rfl (by kernel_rfl) [[.int .u64 (IntKind.u64.wrap (x31 + x32))], [.int .u64 x32], [.int .u64 x33], [.int .u64 x34]] (by kernel_rfl) (.one rfl .nil) ?_
    intro g12 st12 hB12
    refine WP.dn (Shown.o (v := undef) st12 ?_)
    exact ⟨tv, tv, tv, hB12, tv⟩
  intro vs g13 st13 hl hf
  obtain ⟨v0, v1, v2, rfl⟩ := len_k3 hl
  have hB1 := (show Box g13 m0 b1 136 [[.int .u64 (IntKind.u64.wrap (x31 + x32))], [.int .u64 x32], [.int .u64 x33], [.int .u64 x34]] [1, 1, 1, 1] from hf _ (memI 3 rfl) (by kernel_rfl))
  replace tot := tot.trans (st13.up1 (.inl (by simp [WL])))
  refine NX.then_n ?_
  refine CP.refr 38 [(0, .pointer (some ⟨b1, 0, none⟩)), (3, .int .i64 x17)] (by kernel_rfl) (by kernel_rfl) ?_
  clear ds
  intro ds
  refine CP.region ?_
  refine WP.stl 1 ?_
  replace hs := Option.bind_eq_some_iff.1 hs
  obtain ⟨⟨x35, x36, x37, x38⟩, hk6, hs⟩ := hs
  dsimp only at hs
  have hcal6 := P.hash_state_mix g13 m0 (IntKind.u64.wrap (x31 + x32)) x32 x33 x34 16 63 b1 hB1 (by omega) x35 x36 x37 x38 hk6
  refine WP.callC hcal6 (by kernel_rfl) ?_
  rintro _ g14 st14 ⟨rfl, hB13⟩
  replace tot := tot.trans (st14.up1 (.inl (by simp [WL])))
  clear hB1
  have hB1 := hB13
  clear hB13
  refine WP.dn ?_
  refine NX.block_n ?_
  refine NX.then_n ?_
  refine CP.region ?_
  refine WP.stl 2 ?_
  refine WP.dn ?_
  refine NX.post ?_
  exact ⟨x35, x36, x37, x38, (IntKind.i64.wrap (x17 + 1)), ⟨by kernel_rfl, by kernel_rfl⟩, tot, hB1, hs⟩
 replace hs := of_if_f hs h3
 refine CP.exit ?_
 refine NX.then_e ?_
 refine NX.then_e ?_
 refine NX.block_s ?_
 replace hs := Option.some.inj hs
 simp only [Prod.mk.injEq] at hs
 obtain ⟨rfl, rfl, rfl, rfl⟩ := hs
 exact NX.finE (v := .tuple #[]) (Res.still (by kernel_rfl)) tot htL ⟨rfl, hB1⟩
def N.hash_state_take_0 : List (List Nat) := [[], [0], [0, 1], [0, 1, 2], [], [0, 1, 2, 3, 4], [0], [0, 1, 2, 3, 4, 5, 6], [0, 1, 2, 3, 4, 5, 6, 7]]
def F.hash_state_take (x1 : Int) (x2 : Int) (x3 : Int) (x4 : Int) (x5 : Int) : Option (Int × Int × Int × Int) := ((F.hash_state_stir (bitXor .u64 x1 x5) x2 x3 x4).bind fun (x6, x7, x8, x9) => (some (x6, x7, x8, x9)))
theorem P.hash_state_take (g0 : GW) (m0 : Nat) (x1 : Int) (x2 : Int) (x3 : Int) (x4 : Int) (x5 : Int) (b1 : Nat) (hB1 : Box g0 m0 b1 136 [[.int .u64 x1], [.int .u64 x2], [.int .u64 x3], [.int .u64 x4]] [1, 1, 1, 1]) (hm0 : m0 ≠ 0) (o1 : Int) (o2 : Int) (o3 : Int) (o4 : Int) (hs : F.hash_state_take x1 x2 x3 x4 x5 = some (o1, o2, o3, o4)) :
  Calls Try.prog 93 #[.pointer (some ⟨b1, 0, none⟩), .int .u64 x5] g0.w (Ret (WL [m0]) g0 fun v g => v = .tuple #[] ∧ Box g m0 b1 136 [[.int .u64 o1], [.int .u64 o2], [.int .u64 o3], [.int .u64 o4]] [1, 1, 1, 1]) := by
 refine calls_of (args := [.pointer (some ⟨b1, 0, none⟩), .int .u64 x5]) Try.func93 rfl (m0 + 0) ?_
 intro t ht htL
 refine ⟨_, rfl, ?_⟩
 refine CP.refr 14 [(0, .pointer (some ⟨b1, 0, none⟩)), (1, .int .u64 x5)] (by kernel_rfl) (by kernel_rfl) ?_
 intro ds
 have tot : Step (fun l => (WL [m0]) l ∨ t ≤ l) g0 g0 := Step.refl _ _
 unfold F.hash_state_take at hs
 refine CP.seq ?_
 refine CP.drawL (by kernel_rfl) [3, 8] N.hash_state_take_0 [⟨none, [0], [], fun l g => Box g m0 b1 136 [[.int .u64 x1], [.int .u64 x2], [.int .u64 x3], [.int .u64 x4]] [1, 1, 1, 1]⟩, ⟨some 0, [], [0], fun l g => l.getD 0 undef = .int .u64 x1⟩, ⟨some 1, [0], [], fun l g => Box g m0 b1 136 [[.int .u64 (bitXor .u64 x1 x5)], [.int .u64 x2], [.int .u64 x3], [.int .u64 x4]] [1, 1, 1, 1]⟩] [[], [0]] [m0] [0, 1, 2, 4, 6, 7] [5] (by kernel_rfl) (by simp <;> omega) (by simp) ⟨fun _ _ _ _ st h0 hl hj hB1 => (hB1.mono st (hj 0 (by simp) _ rfl)), fun _ _ _ _ st h0 hl hj e0 => e0, fun _ _ _ _ st h0 hl hj hB1 => (hB1.mono st (hj 0 (by simp) _ rfl)), tv⟩ ⟨hB1, tv, tv, tv⟩ (by kernel_rfl) (fun vs => by kernel_rfl) ?_ ?_ ?_
 ·intro j hj
  have hq : j = 0 := by have h : j < 1 := hj; omega
  rcases hq with rfl
  ·intro vs gq stq hl hf
   obtain ⟨v0, v1, rfl⟩ := len_k2 hl
   have e0 := (show v0 = .int .u64 x1 from hf _ (memI 1 rfl) (by kernel_rfl))
   subst e0
   show Option.isSome _ = true
   kernel_rfl
 ·intro j hj
  have hq : j = 0 ∨ j = 1 := by have h : j < 2 := hj; omega
  rcases hq with rfl | rfl
  ·intro vs gq stq hl hf
   obtain ⟨v0, v1, rfl⟩ := len_k2 hl
   have hB1 := (show Box gq m0 b1 136 [[.int .u64 x1], [.int .u64 x2], [.int .u64 x3], [.int .u64 x4]] [1, 1, 1, 1] from hf _ (memI 0 rfl) (by kernel_rfl))
   refine WP.loadB (v := .int .u64 x1) hB1 (by kernel_rfl) (by kernel_rfl) ?_
   refine WP.dn (Shown.ok (v := .int .u64 x1) (by kernel_rfl) (Step.refl _ _) ?_)
   exact ⟨tv, rfl, tv, tv⟩
  ·intro vs gq stq hl hf
   obtain ⟨v0, v1, rfl⟩ := len_k2 hl
   have hB1 := (show Box gq m0 b1 136 [[.int .u64 x1], [.int .u64 x2], [.int .u64 x3], [.int .u64 x4]] [1, 1, 1, 1] from hf _ (memI 0 rfl) (by kernel_rfl))
   have e0 := (show v0 = .int .u64 x1 from hf _ (memI 1 rfl) (by kernel_rfl))
   subst e0
   refine WP.storeB (ty := 38) (off := 0) (v := .int .u64 (bitXor .u64 x1 x5)) hB1 [[.int .u64 (bitXor .u64 x1 x5)]] [1] (by kernel_rfl) (by kernel_rfl) rfl (by kernel_rfl) [[.int .u64 (bitXor .u64 x1 x5)], [.int .u64 x2], [.int .u64 x3], [.int .u64 x4]] (by kernel_rfl) (.one rfl .nil) ?_
   intro g1 st1 hB2
   refine WP.dn (Shown.o (v := undef) st1 ?_)
   exact ⟨tv, tv, hB2, tv⟩
 intro vs g2 st2 hl hf
 obtain ⟨v0, v1, rfl⟩ := len_k2 hl
 have hB1 := (show Box g2 m0 b1 136 [[.int .u64 (bitXor .u64 x1 x5)], [.int .u64 x2], [.int .u64 x3], [.int .u64 x4]] [1, 1, 1, 1] from hf _ (memI 2 rfl) (by kernel_rfl))
 replace tot := tot.trans (st2.up1 (.inl (by simp [WL])))
 refine NX.then_n ?_
 refine CP.refr 14 [(0, .pointer (some ⟨b1, 0, none⟩))] (by kernel_rfl) (by kernel_rfl) ?_
 clear ds
 intro ds
 refine CP.region ?_
 refine WP.stl 1 ?_
 replace hs := Option.bind_eq_some_iff.1 hs
 obtain ⟨⟨x6, x7, x8, x9⟩, hk1, hs⟩ := hs
 dsimp only at hs
 have hcal1 := P.hash_state_stir g2 m0 (bitXor .u64 x1 x5) x2 x3 x4 b1 hB1 (by omega) x6 x7 x8 x9 hk1
 refine WP.callC hcal1 (by kernel_rfl) ?_
 rintro _ g3 st3 ⟨rfl, hB3⟩
 replace tot := tot.trans (st3.up1 (.inl (by simp [WL])))
 clear hB1
 have hB1 := hB3
 clear hB3
 refine WP.dn ?_
 replace hs := Option.some.inj hs
 simp only [Prod.mk.injEq] at hs
 obtain ⟨rfl, rfl, rfl, rfl⟩ := hs
 exact NX.finE (v := .tuple #[]) (Res.still (by kernel_rfl)) tot htL ⟨rfl, hB1⟩
def N.hash_state_bytes_0 : List (List Nat) := [[], [], [1], [], [3], [3, 4], [3, 4, 5], [1, 2, 3, 4, 5, 6], [0, 1, 2, 3, 4, 5, 6, 7]]
def F.hash_state_bytes.l1 (l1 : List Int) : Nat → Int → Int → Int → Int → (List Int) → Option (Int × Int × Int × Int)
 | 0, _, _, _, _, _ => none
 | k + 1, x19, x20, x21, x22, l2 => (if decide ((l2.length : Int) ≥ 8) = true then (if (0 : Int) ≤ 0 ∧ (0 : Int) ≤ 8 ∧ 8 ≤ (l2.length : Int) then ((F.hash_number (sliceI l2 0 8)).bind fun x41 => ((F.hash_state_take x19 x20 x21 x22 x41).bind fun (x42, x43, x44, x45) => (if (0 : Int) ≤ 8 ∧ 8 ≤ (l2.length : Int) ∧ (l2.length : Int) ≤ (l2.length : Int) then (F.hash_state_bytes.l1 l1 k x42 x43 x44 x45 (sliceI l2 8 (l2.length : Int))) else none))) else none) else ((F.hash_number l2).bind fun x46 => (if (0 : Int) ≤ (IntKind.i64.wrap (8 * (l2.length : Int))) then ((F.hash_state_take x19 x20 x21 x22 (bitOr .u64 x46 (shV true .u64 1 (IntKind.i64.wrap (8 * (l2.length : Int)))))).bind fun (x47, x48, x49, x50) => ((F.hash_state_take x47 x48 x49 x50 (IntKind.u64.wrap (l1.length : Int))).bind fun (x51, x52, x53, x54) => (some (x51, x52, x53, x54)))) else none)))
def F.hash_state_bytes (x1 : Int) (x2 : Int) (x3 : Int) (x4 : Int) (l1 : List Int) : Option (Int × Int × Int × Int) := (F.hash_state_bytes.l1 l1 fuel x1 x2 x3 x4 l1)
theorem P.hash_state_bytes (g0 : GW) (m0 : Nat) (x1 : Int) (x2 : Int) (x3 : Int) (x4 : Int) (l1 : List Int) (a1 : Option Addr) (n1 : Nat) (c1 : Nat) (b1 : Nat) (hR1 : RdS (Kd.int .u8) g0 5 a1 n1 c1 l1) (hB1 : Box g0 m0 b1 136 [[.int .u64 x1], [.int .u64 x2], [.int .u64 x3], [.int .u64 x4]] [1, 1, 1, 1]) (hm0 : m0 ≠ 0) (o1 : Int) (o2 : Int) (o3 : Int) (o4 : Int) (hs : F.hash_state_bytes x1 x2 x3 x4 l1 = some (o1, o2, o3, o4)) :
  Calls Try.prog 83 #[.pointer (some ⟨b1, 0, none⟩), .slice a1 n1 c1] g0.w (Ret (WL [m0]) g0 fun v g => v = .tuple #[] ∧ Box g m0 b1 136 [[.int .u64 o1], [.int .u64 o2], [.int .u64 o3], [.int .u64 o4]] [1, 1, 1, 1]) := by
 refine calls_of (args := [.pointer (some ⟨b1, 0, none⟩), .slice a1 n1 c1]) Try.func83 rfl (m0 + 0) ?_
 intro t ht htL
 refine ⟨_, rfl, ?_⟩
 refine CP.refr 30 [(0, .pointer (some ⟨b1, 0, none⟩)), (1, .slice a1 n1 c1)] (by kernel_rfl) (by kernel_rfl) ?_
 intro ds
 have tot : Step (fun l => (WL [m0]) l ∨ t ≤ l) g0 g0 := Step.refl _ _
 unfold F.hash_state_bytes at hs
 refine CP.seqR ?_
 refine WP.stl 1 ?_
 refine WP.len (a := a1) (cp := c1) hR1.len (by kernel_rfl) ?_
 refine WP.stl 1 ?_
 refine WP.dn ?_
 refine NX.then_n ?_
 refine CP.seq ?_
 refine CP.block ?_
 generalize fuel = k1 at hs
 refine CP.loop (fun k1 tm g => ∃ (x19 : Int) (x20 : Int) (x21 : Int) (x22 : Int) (l2 : List Int) (a4 : Option Addr) (n2 : Nat) (c4 : Nat), Fr 30 [(0, .pointer (some ⟨b1, 0, none⟩)), (1, .slice a4 n2 c4), (4, .int .i64 (l1.length : Int))] tm ∧ Step (fun l => (WL [m0]) l ∨ t ≤ l) g0 g ∧ Box g m0 b1 136 [[.int .u64 x19], [.int .u64 x20], [.int .u64 x21], [.int .u64 x22]] [1, 1, 1, 1] ∧ RdS (Kd.int .u8) g 5 a4 n2 c4 l2 ∧ F.hash_state_bytes.l1 l1 k1 x19 x20 x21 x22 l2 = some (o1, o2, o3, o4)) k1 ?_ ?_ ?_
 ·exact ⟨x1, x2, x3, x4, l1, a1, n1, c1, ⟨by kernel_rfl, by kernel_rfl⟩, tot, hB1, hR1, hs⟩
 ·rintro tm g ⟨x19, x20, x21, x22, l2, a4, n2, c4, hF, tot, hB1, hR4, hs⟩
  exact absurd hs (by simp [F.hash_state_bytes.l1])
 clear tot hs hB1 hR1
 rintro k1 tm g ⟨x19, x20, x21, x22, l2, a4, n2, c4, hF, tot, hB1, hR4, hs⟩
 clear ds
 obtain ⟨ds, rfl⟩ := hF.open
 clear hF
 unfold F.hash_state_bytes.l1 at hs
 refine CP.seq ?_
 refine CP.seqR ?_
 refine WP.stl 1 ?_
 refine WP.len (a := a4) (cp := c4) hR4.len (by kernel_rfl) ?_
 refine WP.stl 1 ?_
 refine WP.dn ?_
 refine NX.then_n ?_
 refine CP.cond (b := decide ((l2.length : Int) ≥ 8)) (by kernel_rfl) (fun h3 => ?_) (fun h3 => ?_)
 ·replace hs := of_if_t hs h3
  refine CP.skip ?_
  refine NX.then_n ?_
  refine CP.block ?_
  refine CP.seqR ?_
  refine WP.stl 2 ?_
  by_cases hc7 : (0 : Int) ≤ 0 ∧ (0 : Int) ≤ 8 ∧ 8 ≤ (l2.length : Int)
  case neg => rw [if_neg hc7] at hs; cases hs
  replace hs := of_if_p hs hc7
  refine WP.sliceR (lo := none) (hi := some (.int .i64 8)) hR4 0 8 (by kernel_rfl) (.inl ⟨rfl, rfl⟩) (.inr ⟨_, rfl⟩) hc7 ?_
  intro a8 c8 hR8
  replace hs := Option.bind_eq_some_iff.1 hs
  obtain ⟨x41, hk11, hs⟩ := hs
  have hcal11 := P.hash_number g (sliceI l2 0 8) a8 ((8 : Int).toNat - (0 : Int).toNat) c8 hR8 x41 hk11
  refine WP.callC hcal11 (by kernel_rfl) ?_
  rintro _ g11 st11 rfl
  replace hB1 := hB1.mono st11 (fun x => x)
  replace hR4 := hR4.mono st11 (fun x => x)
  replace hR8 := hR8.mono st11 (fun x => x)
  replace tot := tot.trans st11.pure
  replace hs := Option.bind_eq_some_iff.1 hs
  obtain ⟨⟨x42, x43, x44, x45⟩, hk12, hs⟩ := hs
  dsimp only at hs
  have hcal12 := P.hash_state_take g11 m0 x19 x20 x21 x22 x41 b1 hB1 (by omega) x42 x43 x44 x45 hk12
  refine WP.callC hcal12 (by kernel_rfl) ?_
  rintro _ g12 st12 ⟨rfl, hB8⟩
  replace hR4 := hR4.mono st12 (WL.no1 (by omega))
  replace hR8 := hR8.mono st12 (WL.no1 (by omega))
  replace tot := tot.trans (st12.up1 (.inl (by simp [WL])))
  clear hB1
  have hB1 := hB8
  clear hB8
  refine WP.dn ?_
  refine NX.then_n ?_
  refine CP.region ?_
  refine WP.stl 1 ?_
  by_cases hc8 : (0 : Int) ≤ 8 ∧ 8 ≤ (l2.length : Int) ∧ (l2.length : Int) ≤ (l2.length : Int)
  case neg => rw [if_neg hc8] at hs; cases hs
  replace hs := of_if_p hs hc8
  refine WP.sliceR (lo := some (.int .i64 8)) (hi := none) hR4 8 (l2.length : Int) (by kernel_rfl) (.inr ⟨_, rfl⟩) (.inl ⟨rfl, rfl⟩) hc8 ?_
  intro a9 c9 hR9
  refine WP.stl 1 ?_
  refine WP.dn ?_
  refine NX.block_n ?_
  refine NX.post ?_
  exact ⟨x42, x43, x44, x45, (sliceI l2 8 (l2.length : Int)), a9, ((l2.length : Int).toNat - (8 : Int).toNat), c9, ⟨by kernel_rfl, by kernel_rfl⟩, tot, hB1, hR9, hs⟩
 replace hs := of_if_f hs h3
 refine CP.exit ?_
 refine NX.then_e ?_
 refine NX.then_e ?_
 refine NX.block_s ?_
 refine NX.then_n ?_
 refine CP.seq ?_
 replace hs := Option.bind_eq_some_iff.1 hs
 obtain ⟨x46, hk13, hs⟩ := hs
 by_cases hc9 : (0 : Int) ≤ (IntKind.i64.wrap (8 * (l2.length : Int)))
 case neg => rw [if_neg hc9] at hs; cases hs
 replace hs := of_if_p hs hc9
 replace hs := Option.bind_eq_some_iff.1 hs
 obtain ⟨⟨x47, x48, x49, x50⟩, hk14, hs⟩ := hs
 dsimp only at hs
 refine CP.drawL (by kernel_rfl) [2, 4, 6, 8] N.hash_state_bytes_0 [⟨none, [0], [], fun l g => Box g m0 b1 136 [[.int .u64 x19], [.int .u64 x20], [.int .u64 x21], [.int .u64 x22]] [1, 1, 1, 1]⟩, ⟨none, [], [], fun l g => RdS (Kd.int .u8) g 5 a4 n2 c4 l2⟩, ⟨some 0, [], [0], fun l g => l.getD 0 undef = .int .u64 x46⟩, ⟨some 1, [], [1], fun l g => l.getD 0 undef = .int .i64 (l2.length : Int)⟩, ⟨some 2, [], [2], fun l g => l.getD 0 undef = .int .u64 (shV true .u64 1 (IntKind.i64.wrap (8 * (l2.length : Int))))⟩, ⟨some 3, [], [3], fun l g => l.getD 0 undef = .tuple #[]⟩, ⟨some 3, [0], [], fun l g => Box g m0 b1 136 [[.int .u64 x47], [.int .u64 x48], [.int .u64 x49], [.int .u64 x50]] [1, 1, 1, 1]⟩] [[], [], [], [0]] [m0] [0, 1, 3] [5, 7] (by kernel_rfl) (by simp <;> omega) (by simp) ⟨fun _ _ _ _ st h0 hl hj hB1 => (hB1.mono st (hj 0 (by simp) _ rfl)), fun _ _ _ _ st h0 hl hj hR4 => (RdS.mono (e := 5) hR4 st h0), fun _ _ _ _ st h0 hl hj e0 => e0, fun _ _ _ _ st h0 hl hj e1 => e1, fun _ _ _ _ st h0 hl hj e2 => e2, fun _ _ _ _ st h0 hl hj e3 => e3, fun _ _ _ _ st h0 hl hj hB1 => (hB1.mono st (hj 0 (by simp) _ rfl)), tv⟩ ⟨hB1, hR4, tv, tv, tv, tv, tv, tv⟩ (by kernel_rfl) (fun vs => by kernel_rfl) ?_ ?_ ?_
 ·intro j hj
  have hq : j = 0 ∨ j = 1 := by have h : j < 2 := hj; omega
  rcases hq with rfl | rfl
  ·intro vs gq stq hl hf
   obtain ⟨v0, v1, v2, v3, rfl⟩ := len_k4 hl
   have e1 := (show v1 = .int .i64 (l2.length : Int) from hf _ (memI 3 rfl) (by kernel_rfl))
   subst e1
   show Option.isSome _ = true
   kernel_rfl
  ·intro vs gq stq hl hf
   obtain ⟨v0, v1, v2, v3, rfl⟩ := len_k4 hl
   have e0 := (show v0 = .int .u64 x46 from hf _ (memI 2 rfl) (by kernel_rfl))
   subst e0
   have e2 := (show v2 = .int .u64 (shV true .u64 1 (IntKind.i64.wrap (8 * (l2.length : Int)))) from hf _ (memI 4 rfl) (by kernel_rfl))
   subst e2
   show Option.isSome _ = true
   kernel_rfl
 ·intro j hj
  have hq : j = 0 ∨ j = 1 ∨ j = 2 ∨ j = 3 := by have h : j < 4 := hj; omega
  rcases hq with rfl | rfl | rfl | rfl
  ·intro vs gq stq hl hf
   obtain ⟨v0, v1, v2, v3, rfl⟩ := len_k4 hl
   have hR4 := (show RdS (Kd.int .u8) gq 5 a4 n2 c4 l2 from hf _ (memI 1 rfl) (by kernel_rfl))
   have hcal13 := P.hash_number gq l2 a4 n2 c4 hR4 x46 hk13
   refine WP.callC hcal13 (by kernel_rfl) ?_
   rintro _ g13 st13 rfl
   refine WP.dn (Shown.o (v := .int .u64 x46) st13.pure ?_)
   exact ⟨tv, tv, rfl, tv, tv, tv, tv, tv⟩
  ·intro vs gq stq hl hf
   obtain ⟨v0, v1, v2, v3, rfl⟩ := len_k4 hl
   have hR4 := (show RdS (Kd.int .u8) gq 5 a4 n2 c4 l2 from hf _ (memI 1 rfl) (by kernel_rfl))
   refine WP.len (a := a4) (cp := c4) hR4.len (by kernel_rfl) ?_
   refine WP.dn (Shown.ok (v := .int .i64 (l2.length : Int)) (by kernel_rfl) (Step.refl _ _) ?_)
   exact ⟨tv, tv, tv, rfl, tv, tv, tv, tv⟩
  ·intro vs gq stq hl hf
   obtain ⟨v0, v1, v2, v3, rfl⟩ := len_k4 hl
   have e1 := (show v1 = .int .i64 (l2.length : Int) from hf _ (memI 3 rfl) (by kernel_rfl))
   subst e1
   refine WP.shift (left := true) (k := .u64) (yk := .i64) (x := 1) (y := (IntKind.i64.wrap (8 * (l2.length : Int)))) (by kernel_rfl) hc9 ?_
   refine WP.dn (Shown.ok (v := .int .u64 (shV true .u64 1 (IntKind.i64.wrap (8 * (l2.length : Int))))) (by kernel_rfl) (Step.refl _ _) ?_)
   exact ⟨tv, tv, tv, tv, rfl, tv, tv, tv⟩
  ·intro vs gq stq hl hf
   obtain ⟨v0, v1, v2, v3, rfl⟩ := len_k4 hl
   have hB1 := (show Box gq m0 b1 136 [[.int .u64 x19], [.int .u64 x20], [.int .u64 x21], [.int .u64 x22]] [1, 1, 1, 1] from hf _ (memI 0 rfl) (by kernel_rfl))
   have e0 := (show v0 = .int .u64 x46 from hf _ (memI 2 rfl) (by kernel_rfl))
   subst e0
   have e2 := (show v2 = .int .u64 (shV true .u64 1 (IntKind.i64.wrap (8 * (l2.length : Int)))) from hf _ (memI 4 rfl) (by kernel_rfl))
   subst e2
   have hcal14 := P.hash_state_take gq m0 x19 x20 x21 x22 (bitOr .u64 x46 (shV true .u64 1 (IntKind.i64.wrap (8 * (l2.length : Int))))) b1 hB1 (by omega) x47 x48 x49 x50 hk14
   refine WP.callC hcal14 (by kernel_rfl) ?_
   rintro _ g14 st14 ⟨rfl, hB9⟩
   refine WP.dn (Shown.o (v := .tuple #[]) st14 ?_)
   exact ⟨tv, tv, tv, tv, tv, rfl, hB9, tv⟩
 intro vs g15 st15 hl hf
 obtain ⟨v0, v1, v2, v3, rfl⟩ := len_k4 hl
 have hB1 := (show Box g15 m0 b1 136 [[.int .u64 x47], [.int .u64 x48], [.int .u64 x49], [.int .u64 x50]] [1, 1, 1, 1] from hf _ (memI 6 rfl) (by kernel_rfl))
 replace tot := tot.trans (st15.up1 (.inl (by simp [WL])))
 refine NX.then_n ?_
 refine CP.refr 30 [(0, .pointer (some ⟨b1, 0, none⟩)), (4, .int .i64 (l1.length : Int))] (by kernel_rfl) (by kernel_rfl) ?_
 clear ds
 intro ds
 refine CP.region ?_
 refine WP.stl 3 ?_
 replace hs := Option.bind_eq_some_iff.1 hs
 obtain ⟨⟨x51, x52, x53, x54⟩, hk15, hs⟩ := hs
 dsimp only at hs
 have hcal15 := P.hash_state_take g15 m0 x47 x48 x49 x50 (IntKind.u64.wrap (l1.length : Int)) b1 hB1 (by omega) x51 x52 x53 x54 hk15
 refine WP.callC hcal15 (by kernel_rfl) ?_
 rintro _ g16 st16 ⟨rfl, hB10⟩
 replace tot := tot.trans (st16.up1 (.inl (by simp [WL])))
 clear hB1
 have hB1 := hB10
 clear hB10
 refine WP.dn ?_
 replace hs := Option.some.inj hs
 simp only [Prod.mk.injEq] at hs
 obtain ⟨rfl, rfl, rfl, rfl⟩ := hs
 exact NX.finE (v := .tuple #[]) (Res.still (by kernel_rfl)) tot htL ⟨rfl, hB1⟩
def N.hash_state_gives_0 : List (List Nat) := [[], [0], [0, 1], [0, 1, 2], [], [4], [4, 5], [4, 5, 6], [0, 1, 2, 3, 4, 5, 6, 7], [0, 1, 2, 3, 4, 5, 6, 7, 8]]
def F.hash_state_gives (x1 : Int) (x2 : Int) (x3 : Int) (x4 : Int) : Option (Int) := (some (bitXor .u64 x1 x3))
theorem P.hash_state_gives (g0 : GW) (m0 : Nat) (x1 : Int) (x2 : Int) (x3 : Int) (x4 : Int) (b1 : Nat) (hB1 : Box g0 m0 b1 136 [[.int .u64 x1], [.int .u64 x2], [.int .u64 x3], [.int .u64 x4]] [1, 1, 1, 1]) (hm0 : m0 ≠ 0) (o1 : Int) (hs : F.hash_state_gives x1 x2 x3 x4 = some o1) :
  Calls Try.prog 96 #[.pointer (some ⟨b1, 0, none⟩)] g0.w (Ret NoM g0 fun v g => v = .int .u64 o1) := by
 refine calls_of (args := [.pointer (some ⟨b1, 0, none⟩)]) Try.func96 rfl (m0 + 0) ?_
 intro t ht htL
 refine ⟨_, rfl, ?_⟩
 refine CP.refr 12 [(0, .pointer (some ⟨b1, 0, none⟩))] (by kernel_rfl) (by kernel_rfl) ?_
 intro ds
 have tot : Step (fun l => NoM l ∨ t ≤ l) g0 g0 := Step.refl _ _
 unfold F.hash_state_gives at hs
 refine CP.seqR ?_
 refine WP.stl 1 ?_
 refine WP.dn ?_
 refine NX.then_n ?_
 refine CP.seq ?_
 refine CP.drawL (by kernel_rfl) [3, 7] N.hash_state_gives_0 [⟨none, [], [], fun l g => Box g m0 b1 136 [[.int .u64 x1], [.int .u64 x2], [.int .u64 x3], [.int .u64 x4]] [1, 1, 1, 1]⟩, ⟨some 0, [], [0], fun l g => l.getD 0 undef = .int .u64 x1⟩, ⟨some 1, [], [1], fun l g => l.getD 0 undef = .int .u64 x3⟩] [[], []] [] [0, 1, 2, 4, 5, 6] [8, 9] (by kernel_rfl) (by simp) (by simp) ⟨fun _ _ _ _ st h0 hl hj hB1 => (hB1.mono st (fun h => absurd (hl _ h) (by simp))), fun _ _ _ _ st h0 hl hj e0 => e0, fun _ _ _ _ st h0 hl hj e1 => e1, tv⟩ ⟨hB1, tv, tv, tv⟩ (by kernel_rfl) (fun vs => by kernel_rfl) ?_ ?_ ?_
 ·intro j hj
  have hq : j = 0 ∨ j = 1 := by have h : j < 2 := hj; omega
  rcases hq with rfl | rfl
  ·intro vs gq stq hl hf
   obtain ⟨v0, v1, rfl⟩ := len_k2 hl
   have e0 := (show v0 = .int .u64 x1 from hf _ (memI 1 rfl) (by kernel_rfl))
   subst e0
   have e1 := (show v1 = .int .u64 x3 from hf _ (memI 2 rfl) (by kernel_rfl))
   subst e1
   show Option.isSome _ = true
   kernel_rfl
  ·intro vs gq stq hl hf
   obtain ⟨v0, v1, rfl⟩ := len_k2 hl
   have e0 := (show v0 = .int .u64 x1 from hf _ (memI 1 rfl) (by kernel_rfl))
   subst e0
   have e1 := (show v1 = .int .u64 x3 from hf _ (memI 2 rfl) (by kernel_rfl))
   subst e1
   show Option.isSome _ = true
   kernel_rfl
 ·intro j hj
  have hq : j = 0 ∨ j = 1 := by have h : j < 2 := hj; omega
  rcases hq with rfl | rfl
  ·intro vs gq stq hl hf
   obtain ⟨v0, v1, rfl⟩ := len_k2 hl
   have hB1 := (show Box gq m0 b1 136 [[.int .u64 x1], [.int .u64 x2], [.int .u64 x3], [.int .u64 x4]] [1, 1, 1, 1] from hf _ (memI 0 rfl) (by kernel_rfl))
   refine WP.loadB (v := .int .u64 x1) hB1 (by kernel_rfl) (by kernel_rfl) ?_
   refine WP.dn (Shown.ok (v := .int .u64 x1) (by kernel_rfl) (Step.refl _ _) ?_)
   exact ⟨tv, rfl, tv, tv⟩
  ·intro vs gq stq hl hf
   obtain ⟨v0, v1, rfl⟩ := len_k2 hl
   have hB1 := (show Box gq m0 b1 136 [[.int .u64 x1], [.int .u64 x2], [.int .u64 x3], [.int .u64 x4]] [1, 1, 1, 1] from hf _ (memI 0 rfl) (by kernel_rfl))
   refine WP.loadB (v := .int .u64 x3) hB1 (by kernel_rfl) (by kernel_rfl) ?_
   refine WP.dn (Shown.ok (v := .int .u64 x3) (by kernel_rfl) (Step.refl _ _) ?_)
   exact ⟨tv, tv, rfl, tv⟩
 intro vs g1 st1 hl hf
 obtain ⟨v0, v1, rfl⟩ := len_k2 hl
 have e0 := (show v0 = .int .u64 x1 from hf _ (memI 1 rfl) (by kernel_rfl))
 subst e0
 have e1 := (show v1 = .int .u64 x3 from hf _ (memI 2 rfl) (by kernel_rfl))
 subst e1
 replace tot := tot.trans st1.toNo.pure
 refine NX.then_n ?_
 refine CP.refr 12 [(2, .int .u64 (bitXor .u64 x1 x3))] (by kernel_rfl) (by kernel_rfl) ?_
 clear ds
 intro ds
 refine CP.ret ?_
 replace hs := Option.some.inj hs
 obtain rfl := hs
 exact NX.fin (v := .int .u64 (bitXor .u64 x1 x3)) (Res.still (by kernel_rfl)) tot htL rfl
def F.hash_FromNum.l1 (x1 : Int) : Nat → (Arr Int 8) → Int → Option ((Arr Int 8))
 | 0, _, _ => none
 | k + 1, d1, x2 => (if decide (x2 < 8) = true then (if (0 : Int) ≤ (IntKind.i64.wrap (8 * x2)) then (if (0 : Int) ≤ x2 ∧ x2 < (8 : Int) then (F.hash_FromNum.l1 x1 k (aset d1 x2 (IntKind.u8.wrap (shV false .u64 x1 (IntKind.i64.wrap (8 * x2))))) (IntKind.i64.wrap (x2 + 1))) else none) else none) else (some d1))
def F.hash_FromNum (x1 : Int) : Option ((Arr Int 8)) := (F.hash_FromNum.l1 x1 fuel (zA 8) 0)
theorem P.hash_FromNum (g0 : GW) (x1 : Int) (o1 : Arr Int 8) (hs : F.hash_FromNum x1 = some o1) :
  Calls Try.prog 95 #[.int .u64 x1] g0.w (Ret NoM g0 fun v g => v = AG [encA .u8 o1]) := by
 refine calls_of (args := [.int .u64 x1]) Try.func95 rfl (0) ?_
 intro t ht htL
 refine ⟨_, rfl, ?_⟩
 refine CP.refr 17 [(0, .int .u64 x1)] (by kernel_rfl) (by kernel_rfl) ?_
 intro ds
 have tot : Step (fun l => NoM l ∨ t ≤ l) g0 g0 := Step.refl _ _
 unfold F.hash_FromNum at hs
 refine CP.seqR ?_
 refine WP.alloc (T := 23) (t + 1) [encA .u8 (zA 8)] [8] (by kernel_rfl) (by simp [len_encA]) ?_
 intro g1 b1 st1 hB1
 replace tot := tot.trans st1.pure
 refine WP.dn ?_
 refine NX.then_n ?_
 refine CP.seqR ?_
 refine WP.alloc (T := 23) (t + 2) [encA .u8 (zA 8)] [8] (by kernel_rfl) (by simp [len_encA]) ?_
 intro g2 b2 st2 hB2
 replace hB1 := hB1.mono st2 (fun x => x)
 replace tot := tot.trans st2.pure
 refine WP.dn ?_
 refine NX.then_n ?_
 refine CP.seq ?_
 refine CP.seqR ?_
 refine WP.stl 1 ?_
 refine WP.dn ?_
 refine NX.then_n ?_
 refine CP.block ?_
 generalize fuel = k1 at hs
 refine CP.loop (fun k1 tm g => ∃ (d1 : Arr Int 8) (x2 : Int), Fr 17 [(0, .int .u64 x1), (2, .pointer (some ⟨b1, 0, none⟩)), (3, .pointer (some ⟨b2, 0, none⟩)), (5, .int .i64 x2)] tm ∧ Step (fun l => NoM l ∨ t ≤ l) g0 g ∧ Box g (t + 1) b1 23 [encA .u8 (zA 8)] [8] ∧ Box g (t + 2) b2 23 [encA .u8 d1] [8] ∧ F.hash_FromNum.l1 x1 k1 d1 x2 = some o1) k1 ?_ ?_ ?_
 ·exact ⟨(zA 8), 0, ⟨by kernel_rfl, by kernel_rfl⟩, tot, hB1, hB2, hs⟩
 ·rintro tm g ⟨d1, x2, hF, tot, hB1, hB2, hs⟩
  exact absurd hs (by simp [F.hash_FromNum.l1])
 clear tot hs hB1 hB2
 rintro k1 tm g ⟨d1, x2, hF, tot, hB1, hB2, hs⟩
 clear ds
 obtain ⟨ds, rfl⟩ := hF.open
 clear hF
 unfold F.hash_FromNum.l1 at hs
 refine CP.seqR ?_
 refine WP.stl 1 ?_
 refine WP.dn ?_
 refine NX.then_n ?_
 refine CP.seq ?_
 refine CP.cond (b := decide (x2 < 8)) (by kernel_rfl) (fun h3 => ?_) (fun h3 => ?_)
 ·replace hs := of_if_t hs h3
  refine CP.skip ?_
  refine NX.then_n ?_
  refine CP.seq ?_
  refine CP.block ?_
  refine CP.seqR ?_
  refine WP.stl 2 ?_
  refine WP.dn ?_
  refine NX.then_n ?_
  refine CP.region ?_
  refine WP.stl 4 ?_
  by_cases hc4 : (0 : Int) ≤ (IntKind.i64.wrap (8 * x2))
  case neg => rw [if_neg hc4] at hs; cases hs
  replace hs := of_if_p hs hc4
  refine WP.shift (left := false) (k := .u64) (yk := .i64) (x := x1) (y := (IntKind.i64.wrap (8 * x2))) (by kernel_rfl) hc4 ?_
  refine WP.stl 1 ?_
  by_cases hc5 : (0 : Int) ≤ x2 ∧ x2 < (8 : Int)
  case neg => rw [if_neg hc5] at hs; cases hs
  replace hs := of_if_p hs hc5
  refine WP.ixBox (t := 23) (e := 5) (m := 8) (size := 1) (b := b2) (off := 0) (k := .i64) (i := x2) (by kernel_rfl) (by kernel_rfl) hc5 ?_
  refine WP.storeE (ty := 5) (o := 0) (m := 8) (k := .u8) (d := d1) (i := x2) (x := (IntKind.u8.wrap (shV false .u64 x1 (IntKind.i64.wrap (8 * x2))))) hB2 (by kernel_rfl) hc5 (by kernel_rfl) (by kernel_rfl) [encA .u8 (aset d1 x2 (IntKind.u8.wrap (shV false .u64 x1 (IntKind.i64.wrap (8 * x2)))))] (by kernel_rfl) ?_
  intro g7 st7 hB7
  replace hB1 := hB1.mono st7 (WL.no1 (by omega))
  replace tot := tot.trans (st7.up1 (.inr (by omega)))
  clear hB2
  have hB2 := hB7
  clear hB7
  refine WP.dn ?_
  refine NX.block_n ?_
  refine NX.then_n ?_
  refine CP.region ?_
  refine WP.stl 2 ?_
  refine WP.dn ?_
  refine NX.post ?_
  exact ⟨(aset d1 x2 (IntKind.u8.wrap (shV false .u64 x1 (IntKind.i64.wrap (8 * x2))))), (IntKind.i64.wrap (x2 + 1)), ⟨by kernel_rfl, by kernel_rfl⟩, tot, hB1, hB2, hs⟩
 replace hs := of_if_f hs h3
 refine CP.exit ?_
 refine NX.then_e ?_
 refine NX.then_e ?_
 refine NX.block_s ?_
 refine NX.then_n ?_
 refine CP.seqR ?_
 refine WP.loadB (v := AG [encA .u8 d1]) hB2 (by kernel_rfl) (by kernel_rfl) ?_
 refine WP.storeB (ty := 23) (off := 0) (v := AG [encA .u8 d1]) hB1 [encA .u8 d1] [8] (by kernel_rfl) (by kernel_rfl) (by simp [len_encA]) (by kernel_rfl) [encA .u8 d1] (by kernel_rfl) (.arr .nil) ?_
 intro g8 st8 hB8
 replace hB2 := hB2.mono st8 (WL.no1 (by omega))
 replace tot := tot.trans (st8.up1 (.inr (by omega)))
 clear hB1
 have hB1 := hB8
 clear hB8
 refine WP.dn ?_
 refine NX.then_n ?_
 refine CP.ret ?_
 replace hs := Option.some.inj hs
 obtain rfl := hs
 exact NX.fin (v := AG [encA .u8 d1]) (Res.one rfl (RV.box (agg := true) (size := 8) (rs := [encA .u8 d1]) hB1 (by kernel_rfl) (by kernel_rfl) (by kernel_rfl) (by kernel_rfl))) tot htL rfl
def F.hash_state_digest (x1 : Int) (x2 : Int) (x3 : Int) (x4 : Int) : Option ((Arr Int 8)) := ((F.hash_state_gives x1 x2 x3 x4).bind fun x5 => ((F.hash_FromNum x5).bind fun d1 => (some d1)))
theorem P.hash_state_digest (g0 : GW) (m0 : Nat) (x1 : Int) (x2 : Int) (x3 : Int) (x4 : Int) (b1 : Nat) (hB1 : Box g0 m0 b1 136 [[.int .u64 x1], [.int .u64 x2], [.int .u64 x3], [.int .u64 x4]] [1, 1, 1, 1]) (hm0 : m0 ≠ 0) (o1 : Arr Int 8) (hs : F.hash_state_digest x1 x2 x3 x4 = some o1) :
  Calls Try.prog 84 #[.pointer (some ⟨b1, 0, none⟩)] g0.w (Ret NoM g0 fun v g => v = AG [encA .u8 o1]) := by
 refine calls_of (args := [.pointer (some ⟨b1, 0, none⟩)]) Try.func84 rfl (m0 + 0) ?_
 intro t ht htL
 refine ⟨_, rfl, ?_⟩
 refine CP.refr 6 [(0, .pointer (some ⟨b1, 0, none⟩))] (by kernel_rfl) (by kernel_rfl) ?_
 intro ds
 have tot : Step (fun l => NoM l ∨ t ≤ l) g0 g0 := Step.refl _ _
 unfold F.hash_state_digest at hs
 refine CP.seqR ?_
 refine WP.alloc (T := 23) (t + 1) [encA .u8 (zA 8)] [8] (by kernel_rfl) (by simp [len_encA]) ?_
 intro g1 b2 st1 hB2
 replace hB1 := hB1.mono st1 (fun x => x)
 replace tot := tot.trans st1.pure
 refine WP.dn ?_
 refine NX.then_n ?_
 refine CP.seqR ?_
 refine WP.stl 1 ?_
 replace hs := Option.bind_eq_some_iff.1 hs
 obtain ⟨x5, hk1, hs⟩ := hs
 have hcal1 := P.hash_state_gives g1 m0 x1 x2 x3 x4 b1 hB1 (by omega) x5 hk1
 refine WP.callC hcal1 (by kernel_rfl) ?_
 rintro _ g2 st2 rfl
 replace hB1 := hB1.mono st2 (fun x => x)
 replace hB2 := hB2.mono st2 (fun x => x)
 replace tot := tot.trans st2.pure
 replace hs := Option.bind_eq_some_iff.1 hs
 obtain ⟨d1, hk2, hs⟩ := hs
 have hcal2 := P.hash_FromNum g2 x5 d1 hk2
 refine WP.callC hcal2 (by kernel_rfl) ?_
 rintro _ g3 st3 rfl
 replace hB1 := hB1.mono st3 (fun x => x)
 replace hB2 := hB2.mono st3 (fun x => x)
 replace tot := tot.trans st3.pure
 refine WP.storeB (ty := 23) (off := 0) (v := AG [encA .u8 d1]) hB2 [encA .u8 d1] [8] (by kernel_rfl) (by kernel_rfl) (by simp [len_encA]) (by kernel_rfl) [encA .u8 d1] (by kernel_rfl) (.arr .nil) ?_
 intro g4 st4 hB3
 replace hB1 := hB1.mono st4 (WL.no1 (by omega))
 replace tot := tot.trans (st4.up1 (.inr (by omega)))
 clear hB2
 have hB2 := hB3
 clear hB3
 refine WP.dn ?_
 refine NX.then_n ?_
 refine CP.ret ?_
 replace hs := Option.some.inj hs
 obtain rfl := hs
 exact NX.fin (v := AG [encA .u8 d1]) (Res.one rfl (RV.box (agg := true) (size := 8) (rs := [encA .u8 d1]) hB2 (by kernel_rfl) (by kernel_rfl) (by kernel_rfl) (by kernel_rfl))) tot htL rfl
def F.hash_Of (l1 : List Int) : Option ((Arr Int 8)) := ((F.hash_begin 1).bind fun (x1, x2, x3, x4) => ((F.hash_state_bytes x1 x2 x3 x4 l1).bind fun (x5, x6, x7, x8) => ((F.hash_state_digest x5 x6 x7 x8).bind fun d1 => (some d1))))
theorem P.hash_Of (g0 : GW) (l1 : List Int) (a1 : Option Addr) (n1 : Nat) (c1 : Nat) (hR1 : RdS (Kd.int .u8) g0 5 a1 n1 c1 l1) (o1 : Arr Int 8) (hs : F.hash_Of l1 = some o1) :
  Calls Try.prog 66 #[.slice a1 n1 c1] g0.w (Ret NoM g0 fun v g => v = AG [encA .u8 o1]) := by
 refine calls_of (args := [.slice a1 n1 c1]) Try.func66 rfl (0) ?_
 intro t ht htL
 refine ⟨_, rfl, ?_⟩
 refine CP.refr 8 [(0, .slice a1 n1 c1)] (by kernel_rfl) (by kernel_rfl) ?_
 intro ds
 have tot : Step (fun l => NoM l ∨ t ≤ l) g0 g0 := Step.refl _ _
 unfold F.hash_Of at hs
 refine CP.seqR ?_
 refine WP.alloc (T := 23) (t + 1) [encA .u8 (zA 8)] [8] (by kernel_rfl) (by simp [len_encA]) ?_
 intro g1 b1 st1 hB1
 replace hR1 := hR1.mono st1 (fun x => x)
 replace tot := tot.trans st1.pure
 refine WP.dn ?_
 refine NX.then_n ?_
 refine CP.seqR ?_
 replace hs := Option.bind_eq_some_iff.1 hs
 obtain ⟨⟨x1, x2, x3, x4⟩, hk1, hs⟩ := hs
 dsimp only at hs
 have hcal1 := P.hash_begin g1 1 x1 x2 x3 x4 hk1
 refine WP.callC hcal1 (by kernel_rfl) ?_
 rintro _ g2 st2 rfl
 replace hR1 := hR1.mono st2 (fun x => x)
 replace hB1 := hB1.mono st2 (fun x => x)
 replace tot := tot.trans st2.pure
 refine WP.alloc (T := 136) (t + 2) [[.int .u64 0], [.int .u64 0], [.int .u64 0], [.int .u64 0]] [1, 1, 1, 1] (by kernel_rfl) rfl ?_
 intro g3 b2 st3 hB2
 replace hR1 := hR1.mono st3 (fun x => x)
 replace hB1 := hB1.mono st3 (fun x => x)
 replace tot := tot.trans st3.pure
 refine WP.storeB (ty := 136) (off := 0) (v := AG [[.int .u64 x1], [.int .u64 x2], [.int .u64 x3], [.int .u64 x4]]) hB2 [[.int .u64 x1], [.int .u64 x2], [.int .u64 x3], [.int .u64 x4]] [1, 1, 1, 1] (by kernel_rfl) (by kernel_rfl) rfl (by kernel_rfl) [[.int .u64 x1], [.int .u64 x2], [.int .u64 x3], [.int .u64 x4]] (by kernel_rfl) (.one rfl (.one rfl (.one rfl (.one rfl .nil)))) ?_
 intro g4 st4 hB3
 replace hR1 := hR1.mono st4 (WL.no1 (by omega))
 replace hB1 := hB1.mono st4 (WL.no1 (by omega))
 replace tot := tot.trans (st4.up1 (.inr (by omega)))
 clear hB2
 have hB2 := hB3
 clear hB3
 refine WP.dn ?_
 refine NX.then_n ?_
 refine CP.seqR ?_
 refine WP.stl 1 ?_
 replace hs := Option.bind_eq_some_iff.1 hs
 obtain ⟨⟨x5, x6, x7, x8⟩, hk2, hs⟩ := hs
 dsimp only at hs
 have hcal2 := P.hash_state_bytes g4 (t + 2) x1 x2 x3 x4 l1 a1 n1 c1 b2 hR1 hB2 (by omega) x5 x6 x7 x8 hk2
 refine WP.callC hcal2 (by kernel_rfl) ?_
 rintro _ g5 st5 ⟨rfl, hB4⟩
 replace hR1 := hR1.mono st5 (WL.no1 (by omega))
 replace hB1 := hB1.mono st5 (WL.no1 (by omega))
 replace tot := tot.trans (st5.up1 (.inr (by omega)))
 clear hB2
 have hB2 := hB4
 clear hB4
 refine WP.dn ?_
 refine NX.then_n ?_
 refine CP.seqR ?_
 replace hs := Option.bind_eq_some_iff.1 hs
 obtain ⟨d1, hk3, hs⟩ := hs
 have hcal3 := P.hash_state_digest g5 (t + 2) x5 x6 x7 x8 b2 hB2 (by omega) d1 hk3
 refine WP.callC hcal3 (by kernel_rfl) ?_
 rintro _ g6 st6 rfl
 replace hB1 := hB1.mono st6 (fun x => x)
 replace hB2 := hB2.mono st6 (fun x => x)
 replace tot := tot.trans st6.pure
 refine WP.storeB (ty := 23) (off := 0) (v := AG [encA .u8 d1]) hB1 [encA .u8 d1] [8] (by kernel_rfl) (by kernel_rfl) (by simp [len_encA]) (by kernel_rfl) [encA .u8 d1] (by kernel_rfl) (.arr .nil) ?_
 intro g7 st7 hB5
 replace hB2 := hB2.mono st7 (WL.no1 (by omega))
 replace tot := tot.trans (st7.up1 (.inr (by omega)))
 clear hB1
 have hB1 := hB5
 clear hB5
 refine WP.dn ?_
 refine NX.then_n ?_
 refine CP.ret ?_
 replace hs := Option.some.inj hs
 obtain rfl := hs
 exact NX.fin (v := AG [encA .u8 d1]) (Res.one rfl (RV.box (agg := true) (size := 8) (rs := [encA .u8 d1]) hB1 (by kernel_rfl) (by kernel_rfl) (by kernel_rfl) (by kernel_rfl))) tot htL rfl
def F.state_of (s1 : ByteArray) (d1 : Arr Int 8) (l1 : List (List Int)) : Option ((Arr Int 8)) := ((F.octet_PutText ([]) s1).bind fun l3 => ((F.octet_PutBytes l3 d1.1).bind fun l4 => ((F.slices_Concat_byte_byte l1).bind fun l5 => (if l4.length + l5.length ≤ 140737488355328 then ((F.hash_Of (l4 ++ l5)).bind fun d2 => (some d2)) else none))))
theorem P.state_of (g0 : GW) (s1 : ByteArray) (d1 : Arr Int 8) (l1 : List (List Int)) (a1 : Option Addr) (n1 : Nat) (c1 : Nat) (hR1 : RdS (Kd.slice 5 (Kd.int .u8)) g0 24 a1 n1 c1 l1) (o1 : Arr Int 8) (hs : F.state_of s1 d1 l1 = some o1) :
  Calls Try.prog 38 #[.string s1, AG [encA .u8 d1], .slice a1 n1 c1] g0.w (Ret NoM g0 fun v g => v = AG [encA .u8 o1]) := by
 refine calls_of (args := [.string s1, AG [encA .u8 d1], .slice a1 n1 c1]) Try.func38 rfl (0) ?_
 intro t ht htL
 refine ⟨_, rfl, ?_⟩
 refine CP.refr 17 [(0, .string s1), (1, AG [encA .u8 d1]), (2, .slice a1 n1 c1)] (by kernel_rfl) (by kernel_rfl) ?_
 intro ds
 have tot : Step (fun l => NoM l ∨ t ≤ l) g0 g0 := Step.refl _ _
 unfold F.state_of at hs
 refine CP.seqR ?_
 refine WP.alloc (T := 23) (t + 1) [encA .u8 d1] [8] (by kernel_rfl) (by simp [len_encA]) ?_
 intro g1 b1 st1 hB1
 replace hR1 := hR1.mono st1 (fun x => x)
 replace tot := tot.trans st1.pure
 refine WP.alloc (T := 23) (t + 2) [encA .u8 (zA 8)] [8] (by kernel_rfl) (by simp [len_encA]) ?_
 intro g2 b2 st2 hB2
 replace hR1 := hR1.mono st2 (fun x => x)
 replace hB1 := hB1.mono st2 (fun x => x)
 replace tot := tot.trans st2.pure
 refine WP.dn ?_
 refine NX.then_n ?_
 refine CP.seq ?_
 obtain ⟨g4, hw1, st4, hnew⟩ := hB1.relab 0
 refine CP.regw hw1 ?_
 replace hR1 := hR1.mono st4 (WL.no1 (by omega))
 replace hB2 := hB2.mono st4 (WL.no1 (by omega))
 replace tot := tot.trans (st4.up1 (.inr (by omega)))
 clear hB1
 have hB1 := hnew
 clear hnew
 replace hs := Option.bind_eq_some_iff.1 hs
 obtain ⟨l3, hk2, hs⟩ := hs
 replace hs := Option.bind_eq_some_iff.1 hs
 obtain ⟨l4, hk3, hs⟩ := hs
 refine CP.drawL (by kernel_rfl) [1, 2, 3] [[], [0], [], [0, 1, 2], [0, 1, 2, 3]] [⟨none, [], [], fun l g => Box g 0 b1 23 [encA .u8 d1] [8]⟩, ⟨some 0, [0], [0], fun l g => ∃ (a4 : Option Addr) (c3 : Nat), l.getD 0 undef = .slice a4 l3.length c3 ∧ OwnS (Kd.int .u8) g (t + 4) 5 a4 l3.length c3 l3⟩, ⟨some 1, [], [1], fun l g => ∃ (a5 : Option Addr), l.getD 0 undef = .slice a5 ((8 : Int).toNat - (0 : Int).toNat) (8 - (0 : Int).toNat) ∧ RdS (Kd.int .u8) g 5 a5 ((8 : Int).toNat - (0 : Int).toNat) (8 - (0 : Int).toNat) d1.1⟩, ⟨some 2, [], [2], fun l g => ∃ (a6 : Option Addr) (c4 : Nat), l.getD 0 undef = .slice a6 l4.length c4 ∧ OwnS (Kd.int .u8) g (t + 5) 5 a6 l4.length c4 l4⟩, ⟨some 2, [], [0], fun l g => ∃ (a4 : Option Addr) (c3 : Nat), l.getD 0 undef = .slice a4 l3.length c3 ∧ RdS (Kd.int .u8) g 5 a4 l3.length c3 l3⟩] [[], [], [0]] [(t + 4)] [0] [4] (by kernel_rfl) (by simp <;> omega) (by simp) ⟨fun _ _ _ _ st h0 hl hj hB1 => (hB1.mono st (fun h => absurd (hl _ h) (by simp <;> omega))), fun _ _ _ _ st h0 hl hj ⟨a4, c3, e0, hR4⟩ => ⟨a4, c3, e0, (hR4.mono st h0 (hj 0 (by simp) _ rfl))⟩, fun _ _ _ _ st h0 hl hj ⟨a5, e1, hR5⟩ => ⟨a5, e1, (RdS.mono (e := 5) hR5 st h0)⟩, fun _ _ _ _ st h0 hl hj ⟨a6, c4, e2, hR6⟩ => ⟨a6, c4, e2, (hR6.mono st h0 (fun h => absurd (hl _ h) (by simp <;> omega)))⟩, fun _ _ _ _ st h0 hl hj ⟨a4, c3, e0, hR4⟩ => ⟨a4, c3, e0, (RdS.mono (e := 5) hR4 st h0)⟩, tv⟩ ⟨hB1, tv, tv, tv, tv, tv⟩ (by kernel_rfl) (fun vs => by kernel_rfl) ?_ ?_ ?_
 ·intro j hj
  have hq : j = 0 := by have h : j < 1 := hj; omega
  rcases hq with rfl
  ·intro vs gq stq hl hf
   obtain ⟨v0, v1, v2, rfl⟩ := len_k3 hl
   obtain ⟨a6, c4, e2, hR6⟩ := (show ∃ (a6 : Option Addr) (c4 : Nat), v2 = .slice a6 l4.length c4 ∧ OwnS (Kd.int .u8) gq (t + 5) 5 a6 l4.length c4 l4 from hf _ (memI 3 rfl) (by kernel_rfl))
   subst e2
   show Option.isSome _ = true
   kernel_rfl
 ·intro j hj
  have hq : j = 0 ∨ j = 1 ∨ j = 2 := by have h : j < 3 := hj; omega
  rcases hq with rfl | rfl | rfl
  ·intro vs gq stq hl hf
   obtain ⟨v0, v1, v2, rfl⟩ := len_k3 hl
   have hcal2 := P.octet_PutText gq (t + 4) ([]) s1 none 0 0 (RdS.nil _ _ _) l3 hk2
   refine WP.callC hcal2 (by kernel_rfl) ?_
   rintro _ g5 st5 ⟨a4, n3, c3, rfl, hR4⟩
   obtain rfl := hR4.len
   refine WP.dn (Shown.o (v := .slice a4 l3.length c3) st5.pure ?_)
   exact ⟨tv, ⟨a4, c3, rfl, hR4⟩, tv, tv, tv, tv⟩
  ·intro vs gq stq hl hf
   obtain ⟨v0, v1, v2, rfl⟩ := len_k3 hl
   have hB1 := (show Box gq 0 b1 23 [encA .u8 d1] [8] from hf _ (memI 0 rfl) (by kernel_rfl))
   refine WP.sliceZ (o := 0) (m := 8) (k := .u8) (d := d1) (e := 5) (lo := none) (hi := none) hB1 (by kernel_rfl) (0 : Int) (8 : Int) (by kernel_rfl) (.inl ⟨rfl, rfl⟩) (.inl ⟨rfl, rfl⟩) (by decide) ?_
   intro a5 hR5
   rw [sliceI_all (m := 8) (d := d1) (j := (8 : Int)) rfl] at hR5
   refine WP.dn (Shown.ok (v := .slice a5 ((8 : Int).toNat - (0 : Int).toNat) (8 - (0 : Int).toNat)) (by kernel_rfl) (Step.refl _ _) ?_)
   exact ⟨tv, tv, ⟨a5, rfl, hR5⟩, tv, tv, tv⟩
  ·intro vs gq stq hl hf
   obtain ⟨v0, v1, v2, rfl⟩ := len_k3 hl
   obtain ⟨a4, c3, e0, hR4⟩ := (show ∃ (a4 : Option Addr) (c3 : Nat), v0 = .slice a4 l3.length c3 ∧ OwnS (Kd.int .u8) gq (t + 4) 5 a4 l3.length c3 l3 from hf _ (memI 1 rfl) (by kernel_rfl))
   subst e0
   obtain ⟨a5, e1, hR5⟩ := (show ∃ (a5 : Option Addr), v1 = .slice a5 ((8 : Int).toNat - (0 : Int).toNat) (8 - (0 : Int).toNat) ∧ RdS (Kd.int .u8) gq 5 a5 ((8 : Int).toNat - (0 : Int).toNat) (8 - (0 : Int).toNat) d1.1 from hf _ (memI 2 rfl) (by kernel_rfl))
   subst e1
   obtain ⟨gf1, hwf1, stf1, hnew⟩ := hR4.freeze (by omega)
   refine WP.regw hwf1 ?_
   replace hR5 := hR5.mono stf1 (WL.no (by simp <;> omega))
   clear hR4
   have hR4 := hnew
   clear hnew
   have hcal3 := P.octet_PutBytes gf1 (t + 5) l3 d1.1 a4 l3.length c3 a5 ((8 : Int).toNat - (0 : Int).toNat) (8 - (0 : Int).toNat) hR4 hR5 l4 hk3
   refine WP.callC hcal3 (by kernel_rfl) ?_
   rintro _ g6 st6 ⟨a6, n4, c4, rfl, hR6⟩
   obtain rfl := hR6.len
   replace st6 : Step (WL []) _ _ := Step.pure st6
   have hz1 := hR4.mono st6 (WL.no (by simp <;> omega))
   replace st6 := Step.both stf1 st6
   refine WP.dn (Shown.o (v := .slice a6 l4.length c4) st6 ?_)
   exact ⟨tv, tv, tv, ⟨a6, c4, rfl, hR6⟩, ⟨a4, c3, rfl, hz1⟩, tv⟩
 intro vs g7 st7 hl hf
 obtain ⟨v0, v1, v2, rfl⟩ := len_k3 hl
 obtain ⟨a6, c4, e2, hR6⟩ := (show ∃ (a6 : Option Addr) (c4 : Nat), v2 = .slice a6 l4.length c4 ∧ OwnS (Kd.int .u8) g7 (t + 5) 5 a6 l4.length c4 l4 from hf _ (memI 3 rfl) (by kernel_rfl))
 subst e2
 replace hR1 := hR1.mono st7 (WL.no1 (by omega))
 replace hB2 := hB2.mono st7 (WL.no1 (by omega))
 replace tot := tot.trans (st7.up1 (.inr (by omega)))
 refine NX.then_n ?_
 refine CP.refr 17 [(2, .slice a1 n1 c1), (6, .pointer (some ⟨b2, 0, none⟩)), (7, .slice a6 l4.length c4)] (by kernel_rfl) (by kernel_rfl) ?_
 clear ds
 intro ds
 refine CP.seqR ?_
 refine WP.stl 2 ?_
 replace hs := Option.bind_eq_some_iff.1 hs
 obtain ⟨l5, hk4, hs⟩ := hs
 have hcal4 := P.slices_Concat_byte_byte g7 (t + 6) l1 a1 n1 c1 hR1 l5 hk4
 refine WP.callC hcal4 (by kernel_rfl) ?_
 rintro _ g8 st8 ⟨a7, n5, c5, rfl, hR7⟩
 replace hR1 := hR1.mono st8 (fun x => x)
 replace hB2 := hB2.mono st8 (fun x => x)
 replace hR6 := hR6.mono st8 (fun x => x) (fun x => x)
 replace tot := tot.trans st8.pure
 by_cases hc1 : l4.length + l5.length ≤ 140737488355328
 case neg => rw [if_neg hc1] at hs; cases hs
 replace hs := of_if_p hs hc1
 refine WP.append (kd := (Kd.int .u8)) (t := 24) (e := 5) (bytes := 1) (a2 := a7) (c2 := c5) hR6 hR7.src hR7.len (by kernel_rfl) (by kernel_rfl) (by omega) (by simp only [maxLen]; omega) (by omega) ?_
 intro g9 a8 c6 st9 hR8
 replace hR1 := hR1.mono st9 (WL.no1 (by omega))
 replace hB2 := hB2.mono st9 (WL.no1 (by omega))
 replace hR7 := hR7.mono st9 (WL.no1 (by omega)) (WL.no1 (by omega))
 replace tot := tot.trans (st9.up1 (.inr (by omega)))
 replace hs := Option.bind_eq_some_iff.1 hs
 obtain ⟨d2, hk5, hs⟩ := hs
 have hS1 : 0 ∉ ([(t + 5)] : List Nat) := by simp <;> omega
 have stl1 := GW.lend_step g9 [(t + 5)]
 have hRl1 := hR8.lendTo hS1 (by simp)
 refine WP.regw (g' := GW.lend g9 [(t + 5)]) rfl ?_
 have hcal5 := P.hash_Of (GW.lend g9 [(t + 5)]) (l4 ++ l5) a8 (l4.length + n5) c6 hRl1 d2 hk5
 refine WP.callC hcal5 (by kernel_rfl) ?_
 rintro _ g10 st10 rfl
 have st11 := (GW.back_step st10).lentS
 have hO1 := hR8.backTo hS1 (by simp) st10 (fun x => x)
 refine WP.regw (g' := GW.back g9 g10 [(t + 5)]) rfl ?_
 generalize GW.back g9 g10 [(t + 5)] = g11 at *
 replace hR1 := hR1.mono st11 (WL.no1 (by omega))
 replace hB2 := hB2.mono st11 (WL.no1 (by omega))
 replace hR7 := hR7.mono st11 (WL.no1 (by omega)) (WL.no1 (by omega))
 replace tot := tot.trans (st11.up1 (.inr (by omega)))
 clear hR8
 have hR8 : OwnS (Kd.int .u8) g11 (t + 5) 5 a8 (l4.length + n5) c6 (l4 ++ l5) := hO1
 clear hO1
 refine WP.storeB (ty := 23) (off := 0) (v := AG [encA .u8 d2]) hB2 [encA .u8 d2] [8] (by kernel_rfl) (by kernel_rfl) (by simp [len_encA]) (by kernel_rfl) [encA .u8 d2] (by kernel_rfl) (.arr .nil) ?_
 intro g12 st12 hB3
 replace hR1 := hR1.mono st12 (WL.no1 (by omega))
 replace hR7 := hR7.mono st12 (WL.no1 (by omega)) (WL.no1 (by omega))
 replace hR8 := hR8.mono st12 (WL.no1 (by omega)) (WL.no1 (by omega))
 replace tot := tot.trans (st12.up1 (.inr (by omega)))
 clear hB2
 have hB2 := hB3
 clear hB3
 refine WP.dn ?_
 refine NX.then_n ?_
 refine CP.ret ?_
 replace hs := Option.some.inj hs
 obtain rfl := hs
 exact NX.fin (v := AG [encA .u8 d2]) (Res.one rfl (RV.box (agg := true) (size := 8) (rs := [encA .u8 d2]) hB2 (by kernel_rfl) (by kernel_rfl) (by kernel_rfl) (by kernel_rfl))) tot htL rfl
def N.state_State_Digest_0 : List (List Nat) := [[], [0], [], [2], [2, 3], [], [5], [2, 3, 4, 5, 6], [2, 3, 4, 5, 6, 7], [0, 1, 2, 3, 4, 5, 6, 7, 8], [0, 1, 2, 3, 4, 5, 6, 7, 8, 9]]
def F.state_State_Digest (d1 : Arr Int 8) (x1 : Int) (l1 : List Int) : Option ((Arr Int 8)) := ((F.state_number x1).bind fun l2 => ((F.octet_PutBytes ([]) l1).bind fun l3 => ((F.state_of str_0 d1 ([l2, l3])).bind fun d2 => (some d2))))
theorem P.state_State_Digest (g0 : GW) (d1 : Arr Int 8) (x1 : Int) (l1 : List Int) (a1 : Option Addr) (n1 : Nat) (c1 : Nat) (hR1 : RdS (Kd.int .u8) g0 5 a1 n1 c1 l1) (o1 : Arr Int 8) (hs : F.state_State_Digest d1 x1 l1 = some o1) :
  Calls Try.prog 16 #[AG [encA .u8 d1, [.int .i64 x1], [.slice a1 n1 c1]]] g0.w (Ret NoM g0 fun v g => v = AG [encA .u8 o1]) := by
 refine calls_of (args := [AG [encA .u8 d1, [.int .i64 x1], [.slice a1 n1 c1]]]) Try.func16 rfl (0) ?_
 intro t ht htL
 refine ⟨_, rfl, ?_⟩
 refine CP.refr 13 [(0, AG [encA .u8 d1, [.int .i64 x1], [.slice a1 n1 c1]])] (by kernel_rfl) (by kernel_rfl) ?_
 intro ds
 have tot : Step (fun l => NoM l ∨ t ≤ l) g0 g0 := Step.refl _ _
 unfold F.state_State_Digest at hs
 refine CP.seqR ?_
 refine WP.alloc (T := 26) (t + 1) [encA .u8 d1, [.int .i64 x1], [.slice a1 n1 c1]] [8, 1, 1] (by kernel_rfl) (by simp [len_encA]) ?_
 intro g1 b1 st1 hB1
 replace hR1 := hR1.mono st1 (fun x => x)
 replace tot := tot.trans st1.pure
 refine WP.alloc (T := 23) (t + 2) [encA .u8 (zA 8)] [8] (by kernel_rfl) (by simp [len_encA]) ?_
 intro g2 b2 st2 hB2
 replace hR1 := hR1.mono st2 (fun x => x)
 replace hB1 := hB1.mono st2 (fun x => x)
 replace tot := tot.trans st2.pure
 refine WP.dn ?_
 refine NX.then_n ?_
 refine CP.seq ?_
 replace hs := Option.bind_eq_some_iff.1 hs
 obtain ⟨l2, hk1, hs⟩ := hs
 replace hs := Option.bind_eq_some_iff.1 hs
 obtain ⟨l3, hk2, hs⟩ := hs
 replace hs := Option.bind_eq_some_iff.1 hs
 obtain ⟨d2, hk3, hs⟩ := hs
 refine CP.drawL (by kernel_rfl) [1, 3, 4, 6, 7, 8, 9, 10] N.state_State_Digest_0 [⟨none, [], [], fun l g => Box g (t + 1) b1 26 [encA .u8 d1, [.int .i64 x1], [.slice a1 n1 c1]] [8, 1, 1]⟩, ⟨none, [], [], fun l g => RdS (Kd.int .u8) g 5 a1 n1 c1 l1⟩, ⟨none, [3], [], fun l g => Box g (t + 2) b2 23 [encA .u8 (zA 8)] [8]⟩, ⟨some 0, [], [0], fun l g => l.getD 0 undef = AG [encA .u8 d1]⟩, ⟨some 1, [], [1], fun l g => l.getD 0 undef = .int .i64 x1⟩, ⟨some 2, [1], [2], fun l g => ∃ (a2 : Option Addr) (c2 : Nat), l.getD 0 undef = .slice a2 l2.length c2 ∧ OwnS (Kd.int .u8) g (t + 3) 5 a2 l2.length c2 l2⟩, ⟨some 3, [], [3], fun l g => l.getD 0 undef = .slice a1 n1 c1⟩, ⟨some 4, [0], [4], fun l g => ∃ (a3 : Option Addr) (c3 : Nat), l.getD 0 undef = .slice a3 l3.length c3 ∧ OwnS (Kd.int .u8) g (t + 4) 5 a3 l3.length c3 l3⟩, ⟨some 5, [2], [5], fun l g => ∃ (a4 : Option Addr), l.getD 0 undef = .slice a4 2 2 ∧ OwnS (Kd.slice 5 (Kd.int .u8)) g (t + 5) 24 a4 2 2 ([l2, l3])⟩, ⟨some 5, [], [2], fun l g => ∃ (a2 : Option Addr) (c2 : Nat), l.getD 0 undef = .slice a2 l2.length c2 ∧ RdS (Kd.int .u8) g 5 a2 l2.length c2 l2⟩, ⟨some 5, [], [4], fun l g => ∃ (a3 : Option Addr) (c3 : Nat), l.getD 0 undef = .slice a3 l3.length c3 ∧ RdS (Kd.int .u8) g 5 a3 l3.length c3 l3⟩, ⟨some 6, [], [6], fun l g => l.getD 0 undef = AG [encA .u8 d2]⟩, ⟨some 6, [2], [5], fun l g => ∃ (a4 : Option Addr), l.getD 0 undef = .slice a4 2 2 ∧ OwnS (Kd.slice 5 (Kd.int .u8)) g (t + 5) 24 a4 2 2 ([l2, l3])⟩, ⟨some 7, [3], [], fun l g => Box g (t + 2) b2 23 [encA .u8 d2] [8]⟩] [[], [], [], [], [], [0, 1], [2], [3]] [(t + 4), (t + 3), (t + 5), (t + 2)] [0, 2, 5] [] (by kernel_rfl) (by simp <;> omega) (by simp <;> omega) ⟨fun _ _ _ _ st h0 hl hj hB1 => (hB1.mono st (fun h => absurd (hl _ h) (by simp <;> omega))), fun _ _ _ _ st h0 hl hj hR1 => (RdS.mono (e := 5) hR1 st h0), fun _ _ _ _ st h0 hl hj hB2 => (hB2.mono st (hj 3 (by simp) _ rfl)), fun _ _ _ _ st h0 hl hj e0 => e0, fun _ _ _ _ st h0 hl hj e1 => e1, fun _ _ _ _ st h0 hl hj ⟨a2, c2, e2, hR2⟩ => ⟨a2, c2, e2, (hR2.mono st h0 (hj 1 (by simp) _ rfl))⟩, fun _ _ _ _ st h0 hl hj e3 => e3, fun _ _ _ _ st h0 hl hj ⟨a3, c3, e4, hR3⟩ => ⟨a3, c3, e4, (hR3.mono st h0 (hj 0 (by simp) _ rfl))⟩, fun _ _ _ _ st h0 hl hj ⟨a4, e5, hR4⟩ => ⟨a4, e5, (hR4.mono st h0 (hj 2 (by simp) _ rfl))⟩, fun _ _ _ _ st h0 hl hj ⟨a2, c2, e2, hR2⟩ => ⟨a2, c2, e2, (RdS.mono (e := 5) hR2 st h0)⟩, fun _ _ _ _ st h0 hl hj ⟨a3, c3, e4, hR3⟩ => ⟨a3, c3, e4, (RdS.mono (e := 5) hR3 st h0)⟩, fun _ _ _ _ st h0 hl hj e6 => e6, fun _ _ _ _ st h0 hl hj ⟨a4, e5, hR4⟩ => ⟨a4, e5, (hR4.mono st h0 (hj 2 (by simp) _ rfl))⟩, fun _ _ _ _ st h0 hl hj hB2 => (hB2.mono st (hj 3 (by simp) _ rfl)), tv⟩ ⟨hB1, hR1, hB2, tv, tv, tv, tv, tv, tv, tv, tv, tv, tv, tv, tv⟩ (by kernel_rfl) (fun vs => by kernel_rfl) ?_ ?_ ?_
 ·intro j hj; exact absurd hj (by simp)
 ·intro j hj
  have hq : j = 0 ∨ j = 1 ∨ j = 2 ∨ j = 3 ∨ j = 4 ∨ j = 5 ∨ j = 6 ∨ j = 7 := by have h : j < 8 := hj; omega
  rcases hq with rfl | rfl | rfl | rfl | rfl | rfl | rfl | rfl
  ·intro vs gq stq hl hf
   obtain ⟨v0, v1, v2, v3, v4, v5, v6, v7, rfl⟩ := len_k8 hl
   have hB1 := (show Box gq (t + 1) b1 26 [encA .u8 d1, [.int .i64 x1], [.slice a1 n1 c1]] [8, 1, 1] from hf _ (memI 0 rfl) (by kernel_rfl))
   refine WP.loadB (v := AG [encA .u8 d1]) hB1 (by kernel_rfl) (by kernel_rfl) ?_
   refine WP.dn (Shown.ok (v := AG [encA .u8 d1]) (by kernel_rfl) (Step.refl _ _) ?_)
   exact ⟨tv, tv, tv, rfl, tv, tv, tv, tv, tv, tv, tv, tv, tv, tv, tv⟩
  ·intro vs gq stq hl hf
   obtain ⟨v0, v1, v2, v3, v4, v5, v6, v7, rfl⟩ := len_k8 hl
   have hB1 := (show Box gq (t + 1) b1 26 [encA .u8 d1, [.int .i64 x1], [.slice a1 n1 c1]] [8, 1, 1] from hf _ (memI 0 rfl) (by kernel_rfl))
   refine WP.loadB (v := .int .i64 x1) hB1 (by kernel_rfl) (by kernel_rfl) ?_
   refine WP.dn (Shown.ok (v := .int .i64 x1) (by kernel_rfl) (Step.refl _ _) ?_)
   exact ⟨tv, tv, tv, tv, rfl, tv, tv, tv, tv, tv, tv, tv, tv, tv, tv⟩
  ·intro vs gq stq hl hf
   obtain ⟨v0, v1, v2, v3, v4, v5, v6, v7, rfl⟩ := len_k8 hl
   have e1 := (show v1 = .int .i64 x1 from hf _ (memI 4 rfl) (by kernel_rfl))
   subst e1
   have hcal1 := P.state_number gq (t + 3) x1 l2 hk1
   refine WP.callC hcal1 (by kernel_rfl) ?_
   rintro _ g3 st3 ⟨a2, n2, c2, rfl, hR2⟩
   obtain rfl := hR2.len
   refine WP.dn (Shown.o (v := .slice a2 l2.length c2) st3.pure ?_)
   exact ⟨tv, tv, tv, tv, tv, ⟨a2, c2, rfl, hR2⟩, tv, tv, tv, tv, tv, tv, tv, tv, tv⟩
  ·intro vs gq stq hl hf
   obtain ⟨v0, v1, v2, v3, v4, v5, v6, v7, rfl⟩ := len_k8 hl
   have hB1 := (show Box gq (t + 1) b1 26 [encA .u8 d1, [.int .i64 x1], [.slice a1 n1 c1]] [8, 1, 1] from hf _ (memI 0 rfl) (by kernel_rfl))
   refine WP.loadB (v := .slice a1 n1 c1) hB1 (by kernel_rfl) (by kernel_rfl) ?_
   refine WP.dn (Shown.ok (v := .slice a1 n1 c1) (by kernel_rfl) (Step.refl _ _) ?_)
   exact ⟨tv, tv, tv, tv, tv, tv, rfl, tv, tv, tv, tv, tv, tv, tv, tv⟩
  ·intro vs gq stq hl hf
   obtain ⟨v0, v1, v2, v3, v4, v5, v6, v7, rfl⟩ := len_k8 hl
   have hR1 := (show RdS (Kd.int .u8) gq 5 a1 n1 c1 l1 from hf _ (memI 1 rfl) (by kernel_rfl))
   have e3 := (show v3 = .slice a1 n1 c1 from hf _ (memI 6 rfl) (by kernel_rfl))
   subst e3
   have hcal2 := P.octet_PutBytes gq (t + 4) ([]) l1 none 0 0 a1 n1 c1 (RdS.nil _ _ _) hR1 l3 hk2
   refine WP.callC hcal2 (by kernel_rfl) ?_
   rintro _ g4 st4 ⟨a3, n3, c3, rfl, hR3⟩
   obtain rfl := hR3.len
   refine WP.dn (Shown.o (v := .slice a3 l3.length c3) st4.pure ?_)
   exact ⟨tv, tv, tv, tv, tv, tv, tv, ⟨a3, c3, rfl, hR3⟩, tv, tv, tv, tv, tv, tv, tv⟩
  ·intro vs gq stq hl hf
   obtain ⟨v0, v1, v2, v3, v4, v5, v6, v7, rfl⟩ := len_k8 hl
   obtain ⟨a2, c2, e2, hR2⟩ := (show ∃ (a2 : Option Addr) (c2 : Nat), v2 = .slice a2 l2.length c2 ∧ OwnS (Kd.int .u8) gq (t + 3) 5 a2 l2.length c2 l2 from hf _ (memI 5 rfl) (by kernel_rfl))
   subst e2
   obtain ⟨a3, c3, e4, hR3⟩ := (show ∃ (a3 : Option Addr) (c3 : Nat), v4 = .slice a3 l3.length c3 ∧ OwnS (Kd.int .u8) gq (t + 4) 5 a3 l3.length c3 l3 from hf _ (memI 7 rfl) (by kernel_rfl))
   subst e4
   obtain ⟨gf2, hwf2, stf2, hnew⟩ := hR3.freeze (by omega)
   refine WP.regw hwf2 ?_
   replace hR2 := hR2.mono stf2 (WL.no (by simp <;> omega)) (WL.no (by simp <;> omega))
   clear hR3
   have hR3 := hnew
   clear hnew
   obtain ⟨gf1, hwf1, stf1, hnew⟩ := hR2.freeze (by omega)
   refine WP.regw hwf1 ?_
   replace hR3 := hR3.mono stf1 (WL.no (by simp <;> omega))
   clear hR2
   have hR2 := hnew
   clear hnew
   refine WP.mkSl (kd := (Kd.slice 5 (Kd.int .u8))) (t := 42) (e := 24) (bytes := 24) (t + 5) [.slice a2 l2.length c2, .slice a3 l3.length c3] [l2, l3] (by kernel_rfl) (by kernel_rfl) (Nat.le_of_ble_eq_true rfl) (Nat.le_of_ble_eq_true rfl) (all_cons rfl (all_cons rfl all_nil)) (⟨_, _, rfl, (by exact ⟨_, _, _, rfl, hR2⟩), ⟨_, _, rfl, (by exact ⟨_, _, _, rfl, hR3⟩), rfl⟩⟩) rfl ?_
   intro g5 a4 st5 hR4
   replace st5 : Step (WL []) _ _ := Step.pure st5
   have hz1 := hR2.mono st5 (WL.no (by simp <;> omega))
   have hz2 := hR3.mono st5 (WL.no (by simp <;> omega))
   replace st5 := Step.both stf1 st5
   replace st5 := Step.both stf2 st5
   refine WP.dn (Shown.o (v := .slice a4 2 2) st5 ?_)
   exact ⟨tv, tv, tv, tv, tv, tv, tv, tv, ⟨a4, rfl, hR4⟩, ⟨a2, c2, rfl, hz1⟩, ⟨a3, c3, rfl, hz2⟩, tv, tv, tv, tv⟩
  ·intro vs gq stq hl hf
   obtain ⟨v0, v1, v2, v3, v4, v5, v6, v7, rfl⟩ := len_k8 hl
   have e0 := (show v0 = AG [encA .u8 d1] from hf _ (memI 3 rfl) (by kernel_rfl))
   subst e0
   obtain ⟨a4, e5, hR4⟩ := (show ∃ (a4 : Option Addr), v5 = .slice a4 2 2 ∧ OwnS (Kd.slice 5 (Kd.int .u8)) gq (t + 5) 24 a4 2 2 ([l2, l3]) from hf _ (memI 8 rfl) (by kernel_rfl))
   subst e5
   have hS1 : 0 ∉ ([(t + 5)] : List Nat) := by simp <;> omega
   have stl1 := GW.lend_step gq [(t + 5)]
   have hRl1 := hR4.lendTo hS1 (by simp)
   refine WP.regw (g' := GW.lend gq [(t + 5)]) rfl ?_
   have hcal3 := P.state_of (GW.lend gq [(t + 5)]) str_0 d1 ([l2, l3]) a4 2 2 hRl1 d2 hk3
   refine WP.callC hcal3 (by kernel_rfl) ?_
   rintro _ g6 st6 rfl
   have st7 := (GW.back_step st6).lentS
   have hO1 := hR4.backTo hS1 (by simp) st6 (fun x => x)
   refine WP.regw (g' := GW.back gq g6 [(t + 5)]) rfl ?_
   generalize GW.back gq g6 [(t + 5)] = g7 at *
   refine WP.dn (Shown.o (v := AG [encA .u8 d2]) st7 ?_)
   exact ⟨tv, tv, tv, tv, tv, tv, tv, tv, tv, tv, tv, rfl, ⟨a4, rfl, hO1⟩, tv, tv⟩
  ·intro vs gq stq hl hf
   obtain ⟨v0, v1, v2, v3, v4, v5, v6, v7, rfl⟩ := len_k8 hl
   have hB2 := (show Box gq (t + 2) b2 23 [encA .u8 (zA 8)] [8] from hf _ (memI 2 rfl) (by kernel_rfl))
   have e6 := (show v6 = AG [encA .u8 d2] from hf _ (memI 11 rfl) (by kernel_rfl))
   subst e6
   refine WP.storeB (ty := 23) (off := 0) (v := AG [encA .u8 d2]) hB2 [encA .u8 d2] [8] (by kernel_rfl) (by kernel_rfl) (by simp [len_encA]) (by kernel_rfl) [encA .u8 d2] (by kernel_rfl) (.arr .nil) ?_
   intro g8 st8 hB3
   refine WP.dn (Shown.o (v := undef) st8 ?_)
   exact ⟨tv, tv, tv, tv, tv, tv, tv, tv, tv, tv, tv, tv, tv, hB3, tv⟩
 intro vs g9 st9 hl hf
 obtain ⟨v0, v1, v2, v3, v4, v5, v6, v7, rfl⟩ := len_k8 hl
 have hB2 := (show Box g9 (t + 2) b2 23 [encA .u8 d2] [8] from hf _ (memI 13 rfl) (by kernel_rfl))
 replace tot := tot.trans (st9.up (by intro l hl; simp at hl; rcases hl with rfl | rfl | rfl | rfl <;> first | exact .inr (by omega) | exact .inl (by simp [WL])))
 refine NX.then_n ?_
 refine CP.refr 13 [(2, .pointer (some ⟨b2, 0, none⟩))] (by kernel_rfl) (by kernel_rfl) ?_
 clear ds
 intro ds
 refine CP.ret ?_
 replace hs := Option.some.inj hs
 obtain rfl := hs
 exact NX.fin (v := AG [encA .u8 d2]) (Res.one rfl (RV.box (agg := true) (size := 8) (rs := [encA .u8 d2]) hB2 (by kernel_rfl) (by kernel_rfl) (by kernel_rfl) (by kernel_rfl))) tot htL rfl
end Go.Proofs.Ythfmgobnanifnaa
