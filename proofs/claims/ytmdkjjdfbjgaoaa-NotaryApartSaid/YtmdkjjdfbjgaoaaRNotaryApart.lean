/-
  NotaryApart: for every input the law returns true, and each argument reads afterwards as it read before. No conditions.
-/
import Derived.Test.YtmdkjjdfbjgaoaaWNa2
import Derived.Test.YtmdkjjdfbjgaoaaLawNotaryApart
import Derived.WalkKit
import Derived.ProofKit
import Derived.OpenShut
import Derived.ShutString
import Derived.ChangeOld
import Derived.Below
import Derived.Test.YtmdkjjdfbjgaoaaLabW
namespace Go.Proofs.Ytmdkjjdfbjgaoaa.notaryApart
open Go.ChangeShapes Go.WideShapes Go.ChangeAt Go.RowKit Go.Lab
open Go.ChangeMaps (open_string shut_string)
set_option linter.unusedVariables false
theorem rd_S_baizelaw07_Entry {W : World} : Reads Try.prog W 36 k_S_baizelaw07_Entry (wf_S_baizelaw07_Entry) := by
  intro H enc fuel cs x h
  obtain ⟨xs, n, _, _, hl, hx, hel⟩ := DataW.trod_struct Try.underlying36 h
  rw [show Try.prog.cellsOf 36 = 2 from by kernel_rfl] at hl
  replace hx : xs.length = 2 := hx
  have e0 : DataW.trod enc Try.prog W 0 (fun _ => true) true n 5 ((cs.drop 0).take (Try.prog.cellsOf 5)) = xs[0]? := hel 0 _ rfl
  rw [List.getElem?_eq_getElem (show 0 < xs.length by omega), show Try.prog.cellsOf 5 = 1 from by kernel_rfl] at e0
  obtain ⟨y0, h0, w0⟩ := (Reads.int Try.underlying5) enc n _ _ e0
  have e1 : DataW.trod enc Try.prog W 0 (fun _ => true) true n 5 ((cs.drop 1).take (Try.prog.cellsOf 5)) = xs[1]? := hel 1 _ rfl
  rw [List.getElem?_eq_getElem (show 1 < xs.length by omega), show Try.prog.cellsOf 5 = 1 from by kernel_rfl] at e1
  obtain ⟨y1, h1, w1⟩ := (Reads.int Try.underlying5) enc n _ _ e1
  rw [List.take_of_length_le (by rw [List.length_drop]; omega)] at h1
  exact ⟨⟨y0, y1⟩, ⟨_, _, split_0 1 cs, h0, h1⟩, w0, w1⟩
theorem own : ownKnob Try.prog.godebug = none := by kernel_rfl
theorem laidOut : laidOutB Try.prog = true := by kernel_rfl
set_option maxRecDepth 100000 in
theorem lifted (os : Os) (started : os.Started) (H : Type) (enc : TypeId × Value → H) :
    ReturnsInHanded {} Try.checked os 6 .any (Rows.notaryApartSpec.pre6 enc Try.prog Try.f6 Rows.notaryApartRow.domain false) (Rows.notaryApartSpec.post enc Try.prog Try.f6 false true false false) := by
  refine returnsInHanded_of_change (C := Try.checked) own started (by kernel_rfl) Try.func6
    (ChangeSpec.witness6 (enc := enc) (C := Try.checked) false ⟨#[], #[(.slice none 0 0), (.slice none 0 0)], []⟩ 8 (by kernel_rfl) (by kernel_rfl) (by kernel_rfl) (by kernel_rfl)) ?_
  intro W base args ds gs before hval0 hW hcnd _
  have hval : ∀ (j : Nat) t v, Try.f6.params[j]? = some t → args[j]? = some v → Value.okWide Try.prog W .any base t v := hval0
  have hW' := hW
  obtain ⟨p, q, hA0, hV, rfl, hfz, hnd⟩ := hW
  have hA : DataW.TrodAll enc Try.prog W 0 (fun _ => true) true Try.f6.params.toList args.toList ds p := hA0
  rw [Try.params6] at hA hval
  obtain ⟨v0, vs0, d0, ds0, p0, q0, hargs, rfl, rfl, h0, r0⟩ := trodAll_cons hA
  obtain ⟨v1, vs1, d1, ds1, p1, q1, rfl, rfl, rfl, h1, r1⟩ := trodAll_cons r0
  obtain ⟨rfl, rfl, rfl⟩ := trodAll_nil r1
  obtain rfl : args = #[v0, v1] := by cases args; simp_all
  obtain ⟨rfl, rfl⟩ := trodVars_none hV
  have k0 := h0
  have lt0 : ∀ x ∈ p0, x.block < W.heap.size := by obtain ⟨m, hm⟩ := k0; exact DataW.trod_lt m _ _ _ hm
  obtain ⟨a0, n0, c0, l0, rfl, hR0, w0⟩ := arg_slice Try.underlying22 (Reads.slice Try.underlying22 (by kernel_rfl) (by decide) rd_S_baizelaw07_Entry) (hval 0 22 v0 rfl rfl) h0
  have k1 := h1
  have lt1 : ∀ x ∈ p1, x.block < W.heap.size := by obtain ⟨m, hm⟩ := k1; exact DataW.trod_lt m _ _ _ hm
  obtain ⟨a1, n1, c1, l1, rfl, hR1, w1⟩ := arg_slice Try.underlying22 (Reads.slice Try.underlying22 (by kernel_rfl) (by decide) rd_S_baizelaw07_Entry) (hval 1 22 v1 rfl rfl) h1
  clear hA0 hval0
  have hc := P.baizelaw07_NotaryApart ⟨W, fun _ => 0⟩ l0 l1 a0 n0 c0 a1 n1 c1 hR0 hR1 true (law_NotaryApart l0 l1 w0 w1)
  refine hc.mono fun e W' hh => ?_
  obtain ⟨v, g', rfl, rfl, st, rfl⟩ := hh
  have bel := st.below
  exact ⟨_, rfl, _, _, _, [], _, [], hW', trodAll_mk1 (shut_bool Try.underlying4 _), (trodAll_cons_mk (Below.trod laidOut (by kernel_rfl) (of_decide_eq_true (by kernel_rfl)) k0 bel lt0) (trodAll_cons_mk (Below.trod laidOut (by kernel_rfl) (of_decide_eq_true (by kernel_rfl)) k1 bel lt1) trodAll_mk0)), rfl, bel.frame _, fun h => by cases h⟩
theorem over : Rows.notaryApartRow.holds Try.pinned (OpenSpec.ofChange Rows.notaryApartSpec) :=
  OpenClaim.holds_of_wide 6 Try.f6 rfl rfl rfl rfl rfl rfl rfl ⟨rfl, rfl, rfl, rfl, rfl⟩ rfl rfl rfl rfl rfl (by kernel_rfl) Try.func6 (by kernel_rfl)
    (of_decide_eq_true (by kernel_rfl)) (by unfold Func.isWrapper; first | (rw [if_pos (by decide +kernel)]; kernel_rfl) | (rw [if_neg (by decide +kernel)]; exact ⟨rfl, rfl⟩))
    (fun os started H enc _ => lifted os started H enc)
theorem proved : Rows.NotaryApartSaid := over
end Go.Proofs.Ytmdkjjdfbjgaoaa.notaryApart
