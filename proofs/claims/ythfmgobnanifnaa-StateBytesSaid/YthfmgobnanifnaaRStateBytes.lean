/-
  StateBytes: for every input the law returns true, and each argument reads afterwards as it read before. No conditions.
-/
import Derived.Test.YthfmgobnanifnaaWSb4
import Derived.Test.YthfmgobnanifnaaLawStateBytes
import Derived.WalkKit
import Derived.ProofKit
import Derived.OpenShut
import Derived.ShutString
import Derived.ChangeOld
import Derived.Below
import Derived.Test.YthfmgobnanifnaaLabW
namespace Go.Proofs.Ythfmgobnanifnaa.stateBytes
open Go.ChangeShapes Go.WideShapes Go.ChangeAt Go.RowKit Go.Lab
open Go.ChangeMaps (open_string shut_string)
set_option linter.unusedVariables false
theorem rd_S_state_State {W : World} : Reads Try.prog W 26 k_S_state_State (wf_S_state_State) := by
  intro H enc fuel cs x h
  obtain ⟨xs, n, _, _, hl, hx, hel⟩ := DataW.trod_struct Try.underlying26 h
  rw [show Try.prog.cellsOf 26 = 10 from by kernel_rfl] at hl
  replace hx : xs.length = 3 := hx
  have e0 : DataW.trod enc Try.prog W 0 (fun _ => true) true n 23 ((cs.drop 0).take (Try.prog.cellsOf 23)) = xs[0]? := hel 0 _ rfl
  rw [List.getElem?_eq_getElem (show 0 < xs.length by omega), show Try.prog.cellsOf 23 = 8 from by kernel_rfl] at e0
  obtain ⟨y0, h0, w0⟩ := (Reads.arrI Try.underlying23 Try.underlying5 (by kernel_rfl) (by kernel_rfl)) enc n _ _ e0
  have e1 : DataW.trod enc Try.prog W 0 (fun _ => true) true n 3 ((cs.drop 8).take (Try.prog.cellsOf 3)) = xs[1]? := hel 1 _ rfl
  rw [List.getElem?_eq_getElem (show 1 < xs.length by omega), show Try.prog.cellsOf 3 = 1 from by kernel_rfl] at e1
  obtain ⟨y1, h1, w1⟩ := (Reads.int Try.underlying3) enc n _ _ e1
  have e2 : DataW.trod enc Try.prog W 0 (fun _ => true) true n 24 ((cs.drop 9).take (Try.prog.cellsOf 24)) = xs[2]? := hel 2 _ rfl
  rw [List.getElem?_eq_getElem (show 2 < xs.length by omega), show Try.prog.cellsOf 24 = 1 from by kernel_rfl] at e2
  obtain ⟨y2, h2, w2⟩ := (Reads.slice Try.underlying24 (by kernel_rfl) (by decide) (Reads.int Try.underlying5)) enc n _ _ e2
  rw [List.take_of_length_le (by rw [List.length_drop]; omega)] at h2
  exact ⟨⟨y0, y1, y2⟩, ⟨_, _, split_0 8 cs, h0, _, _, split_at 8 1 cs, h1, h2⟩, w0, w1, w2⟩
theorem rd_S_state_Signed {W : World} : Reads Try.prog W 61 k_S_state_Signed (wf_S_state_Signed) := by
  intro H enc fuel cs x h
  obtain ⟨xs, n, _, _, hl, hx, hel⟩ := DataW.trod_struct Try.underlying61 h
  rw [show Try.prog.cellsOf 61 = 11 from by kernel_rfl] at hl
  replace hx : xs.length = 2 := hx
  have e0 : DataW.trod enc Try.prog W 0 (fun _ => true) true n 26 ((cs.drop 0).take (Try.prog.cellsOf 26)) = xs[0]? := hel 0 _ rfl
  rw [List.getElem?_eq_getElem (show 0 < xs.length by omega), show Try.prog.cellsOf 26 = 10 from by kernel_rfl] at e0
  obtain ⟨y0, h0, w0⟩ := rd_S_state_State enc n _ _ e0
  have e1 : DataW.trod enc Try.prog W 0 (fun _ => true) true n 42 ((cs.drop 10).take (Try.prog.cellsOf 42)) = xs[1]? := hel 1 _ rfl
  rw [List.getElem?_eq_getElem (show 1 < xs.length by omega), show Try.prog.cellsOf 42 = 1 from by kernel_rfl] at e1
  obtain ⟨y1, h1, w1⟩ := (Reads.slice Try.underlying42 (by kernel_rfl) (by decide) (Reads.slice Try.underlying24 (by kernel_rfl) (by decide) (Reads.int Try.underlying5))) enc n _ _ e1
  rw [List.take_of_length_le (by rw [List.length_drop]; omega)] at h1
  obtain ⟨q0_0, t0_0, z0_0, h0_0, q0_1, t0_1, z0_1, h0_1, h0_2⟩ := h0
  have z := split_0 10 cs
  rw [z0_0, z0_1] at z
  simp only [List.append_assoc] at z
  exact ⟨⟨y0.f1, y0.f2, y0.f3, y1⟩, ⟨_, _, z, h0_0, _, _, rfl, h0_1, _, _, rfl, h0_2, h1⟩, w0, w1⟩
theorem own : ownKnob Try.prog.godebug = none := by kernel_rfl
theorem laidOut : laidOutB Try.prog = true := by kernel_rfl
set_option maxRecDepth 100000 in
theorem lifted (os : Os) (started : os.Started) (H : Type) (enc : TypeId × Value → H) :
    ReturnsInHanded {} Try.checked os 9 .any (Rows.stateBytesSpec.pre6 enc Try.prog Try.f9 Rows.stateBytesRow.domain false) (Rows.stateBytesSpec.post enc Try.prog Try.f9 false true false false) := by
  refine returnsInHanded_of_change (C := Try.checked) own started (by kernel_rfl) Try.func9
    (ChangeSpec.witness6 (enc := enc) (C := Try.checked) false ⟨#[], #[(.agg #[.int .u8 0, .int .u8 0, .int .u8 0, .int .u8 0, .int .u8 0, .int .u8 0, .int .u8 0, .int .u8 0, .int .i64 0, .slice none 0 0, .slice none 0 0])], []⟩ 8 (by kernel_rfl) (by kernel_rfl) (by kernel_rfl) (by kernel_rfl)) ?_
  intro W base args ds gs before hval0 hW hcnd _
  have hval : ∀ (j : Nat) t v, Try.f9.params[j]? = some t → args[j]? = some v → Value.okWide Try.prog W .any base t v := hval0
  have hW' := hW
  obtain ⟨p, q, hA0, hV, rfl, hfz, hnd⟩ := hW
  have hA : DataW.TrodAll enc Try.prog W 0 (fun _ => true) true Try.f9.params.toList args.toList ds p := hA0
  rw [Try.params9] at hA hval
  obtain ⟨v0, vs0, d0, ds0, p0, q0, hargs, rfl, rfl, h0, r0⟩ := trodAll_cons hA
  obtain ⟨rfl, rfl, rfl⟩ := trodAll_nil r0
  obtain rfl : args = #[v0] := by cases args; simp_all
  obtain ⟨rfl, rfl⟩ := trodVars_none hV
  have k0 := h0
  have lt0 : ∀ x ∈ p0, x.block < W.heap.size := by obtain ⟨m, hm⟩ := k0; exact DataW.trod_lt m _ _ _ hm
  obtain ⟨cs0, y0, rfl, hy0, w0⟩ := arg_agg (by rw [Try.underlying61]) rd_S_state_Signed (hval 0 61 v0 rfl rfl) h0
  obtain ⟨a0_2, n0_2, c0_2, a0_3, n0_3, c0_3, hcs0, hR0_2, hR0_3⟩ := k_S_state_Signed.opn hy0
  rw [agg_of hcs0] at hW' k0 ⊢
  clear hA0 hval0
  have hc := P.baizelaw32_StateBytes ⟨W, fun _ => 0⟩ y0.f1 y0.f2 y0.f3 y0.f4 a0_2 n0_2 c0_2 a0_3 n0_3 c0_3 hR0_2 hR0_3 true (law_StateBytes y0 w0)
  refine hc.mono fun e W' hh => ?_
  obtain ⟨v, g', rfl, rfl, st, rfl⟩ := hh
  have bel := st.below
  exact ⟨_, rfl, _, _, _, [], _, [], hW', trodAll_mk1 (shut_bool Try.underlying4 _), (trodAll_cons_mk (Below.trod laidOut (by kernel_rfl) (of_decide_eq_true (by kernel_rfl)) k0 bel lt0) trodAll_mk0), rfl, bel.frame _, fun h => by cases h⟩
theorem over : Rows.stateBytesRow.holds Try.pinned (OpenSpec.ofChange Rows.stateBytesSpec) :=
  OpenClaim.holds_of_wide 9 Try.f9 rfl rfl rfl rfl rfl rfl rfl ⟨rfl, rfl, rfl, rfl, rfl⟩ rfl rfl rfl rfl rfl (by kernel_rfl) Try.func9 (by kernel_rfl)
    (of_decide_eq_true (by kernel_rfl)) (by unfold Func.isWrapper; first | (rw [if_pos (by decide +kernel)]; kernel_rfl) | (rw [if_neg (by decide +kernel)]; exact ⟨rfl, rfl⟩))
    (fun os started H enc _ => lifted os started H enc)
theorem proved : Rows.StateBytesSaid := over
end Go.Proofs.Ythfmgobnanifnaa.stateBytes
