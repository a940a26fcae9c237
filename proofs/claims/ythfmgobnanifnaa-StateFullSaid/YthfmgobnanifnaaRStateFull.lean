/-
  StateFull: for every input the law returns true, and each argument reads afterwards as it read before. No conditions.
-/
import Derived.Test.YthfmgobnanifnaaWSf3
import Derived.Test.YthfmgobnanifnaaLawStateFull
import Derived.WalkKit
import Derived.ProofKit
import Derived.OpenShut
import Derived.ShutString
import Derived.ChangeOld
import Derived.Below
import Derived.Test.YthfmgobnanifnaaLabW
namespace Go.Proofs.Ythfmgobnanifnaa.stateFull
open Go.ChangeShapes Go.WideShapes Go.ChangeAt Go.RowKit Go.Lab
open Go.ChangeMaps (open_string shut_string)
set_option linter.unusedVariables false
theorem rd_S_2_bool {W : World} : Reads Try.prog W 37 k_S_2_bool (wf_S_2_bool) := by
  intro H enc fuel cs x h
  obtain ⟨xs, n, _, _, hl, hx, hel⟩ := DataW.trod_array Try.underlying37 h
  rw [show Try.prog.cellsOf 37 = 2 from by kernel_rfl] at hl
  replace hx : xs.length = 2 := hx
  have hce : Try.prog.cellsOf 36 = 1 := by kernel_rfl
  simp only [hce] at hel
  have e0 := hel 0 (by decide)
  rw [List.getElem?_eq_getElem (show 0 < xs.length by omega)] at e0
  replace e0 : DataW.trod enc Try.prog W 0 (fun _ => true) true n 36 ((cs.drop 0).take 1) = some xs[0] := e0
  obtain ⟨y0, h0, w0⟩ := (Reads.slice Try.underlying36 (by kernel_rfl) (by decide) (Reads.bool Try.underlying4)) enc n _ _ e0
  have e1 := hel 1 (by decide)
  rw [List.getElem?_eq_getElem (show 1 < xs.length by omega)] at e1
  replace e1 : DataW.trod enc Try.prog W 0 (fun _ => true) true n 36 ((cs.drop 1).take 1) = some xs[1] := e1
  obtain ⟨y1, h1, w1⟩ := (Reads.slice Try.underlying36 (by kernel_rfl) (by decide) (Reads.bool Try.underlying4)) enc n _ _ e1
  rw [List.take_of_length_le (by rw [List.length_drop]; omega)] at h1
  exact ⟨⟨y0, y1⟩, ⟨_, _, split_0 1 cs, h0, h1⟩, w0, w1⟩
theorem rd_S_state_State {W : World} : Reads Try.prog W 26 k_S_state_State (wf_S_state_State) := by
  intro H enc fuel cs x h
  obtain ⟨xs, n, _, _, hl, hx, hel⟩ := DataW.trod_struct Try.underlying26 h
  rw [show Try.prog.cellsOf 26 = 10 from by kernel_rfl] at hl
  replace hx : xs.length = 3 := hx
  have e0 : DataW.trod enc Try.prog W 0 (fun _ => true) true n 23 ((cs.drop 0).take (Try.prog.cellsOf 23)) = xs[0]? := hel 0 _ rfl
  rw [List.getElem?_eq_getElem (show 0 < xs.length by omega), show Try.prog.cellsOf 23 = 8 from by kernel_rfl] at e0
  obtain ⟨y0, h0, w0⟩ := (Reads.arrI Try.underlying23 Try.underlying5 (by kernel_rfl) (by kernel_rfl)) enc n _ _ e0
  have e1 : DataW.trod enc Try.prog W 0 (fun _ => true) true n 3 ((cs.drop 8).take (Try.prog.cellsOf 3)) = xs[1]? := hel 1 _ rfl
  rw [List.getElem?_eq_getElem (show 1 < xs.length by omega), show Try.prog.cellsOf 3 = 1 from by kernel_rfl] at e1
  obtain ⟨y1, h1, w1⟩ := (Reads.int Try.underlying3) enc n _ _ e1
  have e2 : DataW.trod enc Try.prog W 0 (fun _ => true) true n 24 ((cs.drop 9).take (Try.prog.cellsOf 24)) = xs[2]? := hel 2 _ rfl
  rw [List.getElem?_eq_getElem (show 2 < xs.length by omega), show Try.prog.cellsOf 24 = 1 from by kernel_rfl] at e2
  obtain ⟨y2, h2, w2⟩ := (Reads.slice Try.underlying24 (by kernel_rfl) (by decide) (Reads.int Try.underlying5)) enc n _ _ e2
  rw [List.take_of_length_le (by rw [List.length_drop]; omega)] at h2
  exact ⟨⟨y0, y1, y2⟩, ⟨_, _, split_0 8 cs, h0, _, _, split_at 8 1 cs, h1, h2⟩, w0, w1, w2⟩
theorem own : ownKnob Try.prog.godebug = none := by kernel_rfl
theorem laidOut : laidOutB Try.prog = true := by kernel_rfl
set_option maxRecDepth 100000 in
theorem lifted (os : Os) (started : os.Started) (H : Type) (enc : TypeId × Value → H) :
    ReturnsInHanded {} Try.checked os 4 .any (Rows.stateFullSpec.pre6 enc Try.prog Try.f4 Rows.stateFullRow.domain false) (Rows.stateFullSpec.post enc Try.prog Try.f4 false true false false) := by
  refine returnsInHanded_of_change (C := Try.checked) own started (by kernel_rfl) Try.func4
    (ChangeSpec.witness6 (enc := enc) (C := Try.checked) false ⟨#[], #[(.int .i64 0), (.agg #[.slice none 0 0, .slice none 0 0]), (.agg #[.int .u8 0, .int .u8 0, .int .u8 0, .int .u8 0, .int .u8 0, .int .u8 0, .int .u8 0, .int .u8 0, .int .i64 0, .slice none 0 0])], []⟩ 8 (by kernel_rfl) (by kernel_rfl) (by kernel_rfl) (by kernel_rfl)) ?_
  intro W base args ds gs before hval0 hW hcnd _
  have hval : ∀ (j : Nat) t v, Try.f4.params[j]? = some t → args[j]? = some v → Value.okWide Try.prog W .any base t v := hval0
  have hW' := hW
  obtain ⟨p, q, hA0, hV, rfl, hfz, hnd⟩ := hW
  have hA : DataW.TrodAll enc Try.prog W 0 (fun _ => true) true Try.f4.params.toList args.toList ds p := hA0
  rw [Try.params4] at hA hval
  obtain ⟨v0, vs0, d0, ds0, p0, q0, hargs, rfl, rfl, h0, r0⟩ := trodAll_cons hA
  obtain ⟨v1, vs1, d1, ds1, p1, q1, rfl, rfl, rfl, h1, r1⟩ := trodAll_cons r0
  obtain ⟨v2, vs2, d2, ds2, p2, q2, rfl, rfl, rfl, h2, r2⟩ := trodAll_cons r1
  obtain ⟨rfl, rfl, rfl⟩ := trodAll_nil r2
  obtain rfl : args = #[v0, v1, v2] := by cases args; simp_all
  obtain ⟨rfl, rfl⟩ := trodVars_none hV
  obtain ⟨a0, rfl, rfl, rfl, w0⟩ := open_int Try.underlying3 (hval 0 3 v0 rfl rfl) h0
  have k1 := h1
  have lt1 : ∀ x ∈ p1, x.block < W.heap.size := by obtain ⟨m, hm⟩ := k1; exact DataW.trod_lt m _ _ _ hm
  obtain ⟨cs1, y1, rfl, hy1, w1⟩ := arg_agg (by rw [Try.underlying37]) rd_S_2_bool (hval 1 37 v1 rfl rfl) h1
  obtain ⟨a1_0, n1_0, c1_0, a1_1, n1_1, c1_1, hcs1, hR1_0, hR1_1⟩ := k_S_2_bool.opn hy1
  rw [agg_of hcs1] at hW' k1 ⊢
  have k2 := h2
  have lt2 : ∀ x ∈ p2, x.block < W.heap.size := by obtain ⟨m, hm⟩ := k2; exact DataW.trod_lt m _ _ _ hm
  obtain ⟨cs2, y2, rfl, hy2, w2⟩ := arg_agg (by rw [Try.underlying26]) rd_S_state_State (hval 2 26 v2 rfl rfl) h2
  obtain ⟨a2_2, n2_2, c2_2, hcs2, hR2_2⟩ := k_S_state_State.opn hy2
  rw [agg_of hcs2] at hW' k2 ⊢
  clear hA0 hval0
  have hc := P.baizelaw32_StateFull ⟨W, fun _ => 0⟩ a0 y1.f1 y1.f2 y2.f1 y2.f2 y2.f3 a1_0 n1_0 c1_0 a1_1 n1_1 c1_1 a2_2 n2_2 c2_2 hR1_0 hR1_1 hR2_2 true (law_StateFull a0 y1 y2 w0 w1 w2)
  refine hc.mono fun e W' hh => ?_
  obtain ⟨v, g', rfl, rfl, st, rfl⟩ := hh
  have bel := st.below
  exact ⟨_, rfl, _, _, _, [], _, [], hW', trodAll_mk1 (shut_bool Try.underlying4 _), (trodAll_cons_mk (shut_int Try.underlying3 w0) (trodAll_cons_mk (Below.trod laidOut (by kernel_rfl) (of_decide_eq_true (by kernel_rfl)) k1 bel lt1) (trodAll_cons_mk (Below.trod laidOut (by kernel_rfl) (of_decide_eq_true (by kernel_rfl)) k2 bel lt2) trodAll_mk0))), rfl, bel.frame _, fun h => by cases h⟩
theorem over : Rows.stateFullRow.holds Try.pinned (OpenSpec.ofChange Rows.stateFullSpec) :=
  OpenClaim.holds_of_wide 4 Try.f4 rfl rfl rfl rfl rfl rfl rfl ⟨rfl, rfl, rfl, rfl, rfl⟩ rfl rfl rfl rfl rfl (by kernel_rfl) Try.func4 (by kernel_rfl)
    (of_decide_eq_true (by kernel_rfl)) (by unfold Func.isWrapper; first | (rw [if_pos (by decide +kernel)]; kernel_rfl) | (rw [if_neg (by decide +kernel)]; exact ⟨rfl, rfl⟩))
    (fun os started H enc _ => lifted os started H enc)
theorem proved : Rows.StateFullSaid := over
end Go.Proofs.Ythfmgobnanifnaa.stateFull
