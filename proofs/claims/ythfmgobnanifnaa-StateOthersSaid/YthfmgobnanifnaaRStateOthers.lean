/-
  StateOthers: for every input the law returns true, and each argument reads afterwards as it read before. No conditions.
-/
import Derived.Test.YthfmgobnanifnaaWSo2
import Derived.Test.YthfmgobnanifnaaLawStateOthers
import Derived.WalkKit
import Derived.ProofKit
import Derived.OpenShut
import Derived.ShutString
import Derived.ChangeOld
import Derived.Below
import Derived.Test.YthfmgobnanifnaaLabW
namespace Go.Proofs.Ythfmgobnanifnaa.stateOthers
open Go.ChangeShapes Go.WideShapes Go.ChangeAt Go.RowKit Go.Lab
open Go.ChangeMaps (open_string shut_string)
set_option linter.unusedVariables false
theorem rd_S_state_State {W : World} : Reads Try.prog W 26 k_S_state_State (wf_S_state_State) := by
  intro H enc fuel cs x h
  obtain ⟨xs, n, _, _, hl, hx, hel⟩ := DataW.trod_struct Try.underlying26 h
  rw [show Try.prog.cellsOf 26 = 10 from by kernel_rfl] at hl
  replace hx : xs.length = 3 := hx
  have e0 : DataW.trod enc Try.prog W 0 (fun _ => true) true n 23 ((cs.drop 0).take (Try.prog.cellsOf 23)) = xs[0]? := hel 0 _ rfl
  rw [List.getElem?_eq_getElem (show 0 < xs.length by omega), show Try.prog.cellsOf 23 = 8 from by kernel_rfl] at e0
  obtain ⟨y0, h0, w0⟩ := (Reads.arrI Try.underlying23 Try.underlying5 (by kernel_rfl) (by kernel_rfl)) enc n _ _ e0
  have e1 : DataW.trod enc Try.prog W 0 (fun _ => true) true n 3 ((cs.drop 8).take (Try.prog.cellsOf 3)) = xs[1]? := hel 1 _ rfl
  rw [List.getElem?_eq_getElem (show 1 < xs.length by omega), show Try.prog.cellsOf 3 = 1 from by kernel_rfl] at e1
  obtain ⟨y1, h1, w1⟩ := (Reads.int Try.underlying3) enc n _ _ e1
  have e2 : DataW.trod enc Try.prog W 0 (fun _ => true) true n 24 ((cs.drop 9).take (Try.prog.cellsOf 24)) = xs[2]? := hel 2 _ rfl
  rw [List.getElem?_eq_getElem (show 2 < xs.length by omega), show Try.prog.cellsOf 24 = 1 from by kernel_rfl] at e2
  obtain ⟨y2, h2, w2⟩ := (Reads.slice Try.underlying24 (by kernel_rfl) (by decide) (Reads.int Try.underlying5)) enc n _ _ e2
  rw [List.take_of_length_le (by rw [List.length_drop]; omega)] at h2
  exact ⟨⟨y0, y1, y2⟩, ⟨_, _, split_0 8 cs, h0, _, _, split_at 8 1 cs, h1, h2⟩, w0, w1, w2⟩
theorem own : ownKnob Try.prog.godebug = none := by kernel_rfl
theorem laidOut : laidOutB Try.prog = true := by kernel_rfl
set_option maxRecDepth 100000 in
theorem lifted (os : Os) (started : os.Started) (H : Type) (enc : TypeId × Value → H) :
    ReturnsInHanded {} Try.checked os 5 .any (Rows.stateOthersSpec.pre6 enc Try.prog Try.f5 Rows.stateOthersRow.domain false) (Rows.stateOthersSpec.post enc Try.prog Try.f5 false true false false) := by
  refine returnsInHanded_of_change (C := Try.checked) own started (by kernel_rfl) Try.func5
    (ChangeSpec.witness6 (enc := enc) (C := Try.checked) false ⟨#[], #[(.agg #[.int .u8 0, .int .u8 0, .int .u8 0, .int .u8 0, .int .u8 0, .int .u8 0, .int .u8 0, .int .u8 0, .int .i64 0, .slice none 0 0]), (.agg #[.int .u8 0, .int .u8 0, .int .u8 0, .int .u8 0, .int .u8 0, .int .u8 0, .int .u8 0, .int .u8 0, .int .i64 0, .slice none 0 0])], []⟩ 8 (by kernel_rfl) (by kernel_rfl) (by kernel_rfl) (by kernel_rfl)) ?_
  intro W base args ds gs before hval0 hW hcnd _
  have hval : ∀ (j : Nat) t v, Try.f5.params[j]? = some t → args[j]? = some v → Value.okWide Try.prog W .any base t v := hval0
  have hW' := hW
  obtain ⟨p, q, hA0, hV, rfl, hfz, hnd⟩ := hW
  have hA : DataW.TrodAll enc Try.prog W 0 (fun _ => true) true Try.f5.params.toList args.toList ds p := hA0
  rw [Try.params5] at hA hval
  obtain ⟨v0, vs0, d0, ds0, p0, q0, hargs, rfl, rfl, h0, r0⟩ := trodAll_cons hA
  obtain ⟨v1, vs1, d1, ds1, p1, q1, rfl, rfl, rfl, h1, r1⟩ := trodAll_cons r0
  obtain ⟨rfl, rfl, rfl⟩ := trodAll_nil r1
  obtain rfl : args = #[v0, v1] := by cases args; simp_all
  obtain ⟨rfl, rfl⟩ := trodVars_none hV
  have k0 := h0
  have lt0 : ∀ x ∈ p0, x.block < W.heap.size := by obtain ⟨m, hm⟩ := k0; exact DataW.trod_lt m _ _ _ hm
  obtain ⟨cs0, y0, rfl, hy0, w0⟩ := arg_agg (by rw [Try.underlying26]) rd_S_state_State (hval 0 26 v0 rfl rfl) h0
  obtain ⟨a0_2, n0_2, c0_2, hcs0, hR0_2⟩ := k_S_state_State.opn hy0
  rw [agg_of hcs0] at hW' k0 ⊢
  have k1 := h1
  have lt1 : ∀ x ∈ p1, x.block < W.heap.size := by obtain ⟨m, hm⟩ := k1; exact DataW.trod_lt m _ _ _ hm
  obtain ⟨cs1, y1, rfl, hy1, w1⟩ := arg_agg (by rw [Try.underlying26]) rd_S_state_State (hval 1 26 v1 rfl rfl) h1
  obtain ⟨a1_2, n1_2, c1_2, hcs1, hR1_2⟩ := k_S_state_State.opn hy1
  rw [agg_of hcs1] at hW' k1 ⊢
  clear hA0 hval0
  have hc := P.baizelaw32_StateOthers ⟨W, fun _ => 0⟩ y0.f1 y0.f2 y0.f3 y1.f1 y1.f2 y1.f3 a0_2 n0_2 c0_2 a1_2 n1_2 c1_2 hR0_2 hR1_2 true (law_StateOthers y0 y1 w0 w1)
  refine hc.mono fun e W' hh => ?_
  obtain ⟨v, g', rfl, rfl, st, rfl⟩ := hh
  have bel := st.below
  exact ⟨_, rfl, _, _, _, [], _, [], hW', trodAll_mk1 (shut_bool Try.underlying4 _), (trodAll_cons_mk (Below.trod laidOut (by kernel_rfl) (of_decide_eq_true (by kernel_rfl)) k0 bel lt0) (trodAll_cons_mk (Below.trod laidOut (by kernel_rfl) (of_decide_eq_true (by kernel_rfl)) k1 bel lt1) trodAll_mk0)), rfl, bel.frame _, fun h => by cases h⟩
theorem over : Rows.stateOthersRow.holds Try.pinned (OpenSpec.ofChange Rows.stateOthersSpec) :=
  OpenClaim.holds_of_wide 5 Try.f5 rfl rfl rfl rfl rfl rfl rfl ⟨rfl, rfl, rfl, rfl, rfl⟩ rfl rfl rfl rfl rfl (by kernel_rfl) Try.func5 (by kernel_rfl)
    (of_decide_eq_true (by kernel_rfl)) (by unfold Func.isWrapper; first | (rw [if_pos (by decide +kernel)]; kernel_rfl) | (rw [if_neg (by decide +kernel)]; exact ⟨rfl, rfl⟩))
    (fun os started H enc _ => lifted os started H enc)
theorem proved : Rows.StateOthersSaid := over
end Go.Proofs.Ythfmgobnanifnaa.stateOthers
