/-
  PunishHonest: for every input the law returns true, and each argument reads afterwards as it read before. No conditions.
-/
import Derived.Test.YtlnockimfgfcgaaWPh4
import Derived.Test.YtlnockimfgfcgaaLawPunishHonest
import Derived.WalkKit
import Derived.ProofKit
import Derived.OpenShut
import Derived.ShutString
import Derived.ChangeOld
import Derived.Below
import Derived.Test.YtlnockimfgfcgaaLabW
namespace Go.Proofs.Ytlnockimfgfcgaa.punishHonest
open Go.ChangeShapes Go.WideShapes Go.ChangeAt Go.RowKit Go.Lab
open Go.ChangeMaps (open_string shut_string)
set_option linter.unusedVariables false
theorem rd_S_baizelaw34_Deed {W : World} : Reads Try.prog W 78 k_S_baizelaw34_Deed (wf_S_baizelaw34_Deed) := by
  intro H enc fuel cs x h
  obtain ⟨xs, n, _, _, hl, hx, hel⟩ := DataW.trod_struct Try.underlying78 h
  rw [show Try.prog.cellsOf 78 = 7 from by kernel_rfl] at hl
  replace hx : xs.length = 7 := hx
  have e0 : DataW.trod enc Try.prog W 0 (fun _ => true) true n 3 ((cs.drop 0).take (Try.prog.cellsOf 3)) = xs[0]? := hel 0 _ rfl
  rw [List.getElem?_eq_getElem (show 0 < xs.length by omega), show Try.prog.cellsOf 3 = 1 from by kernel_rfl] at e0
  obtain ⟨y0, h0, w0⟩ := (Reads.int Try.underlying3) enc n _ _ e0
  have e1 : DataW.trod enc Try.prog W 0 (fun _ => true) true n 3 ((cs.drop 1).take (Try.prog.cellsOf 3)) = xs[1]? := hel 1 _ rfl
  rw [List.getElem?_eq_getElem (show 1 < xs.length by omega), show Try.prog.cellsOf 3 = 1 from by kernel_rfl] at e1
  obtain ⟨y1, h1, w1⟩ := (Reads.int Try.underlying3) enc n _ _ e1
  have e2 : DataW.trod enc Try.prog W 0 (fun _ => true) true n 3 ((cs.drop 2).take (Try.prog.cellsOf 3)) = xs[2]? := hel 2 _ rfl
  rw [List.getElem?_eq_getElem (show 2 < xs.length by omega), show Try.prog.cellsOf 3 = 1 from by kernel_rfl] at e2
  obtain ⟨y2, h2, w2⟩ := (Reads.int Try.underlying3) enc n _ _ e2
  have e3 : DataW.trod enc Try.prog W 0 (fun _ => true) true n 33 ((cs.drop 3).take (Try.prog.cellsOf 33)) = xs[3]? := hel 3 _ rfl
  rw [List.getElem?_eq_getElem (show 3 < xs.length by omega), show Try.prog.cellsOf 33 = 1 from by kernel_rfl] at e3
  obtain ⟨y3, h3, w3⟩ := (Reads.slice Try.underlying33 (by kernel_rfl) (by decide) (Reads.int Try.underlying5)) enc n _ _ e3
  have e4 : DataW.trod enc Try.prog W 0 (fun _ => true) true n 4 ((cs.drop 4).take (Try.prog.cellsOf 4)) = xs[4]? := hel 4 _ rfl
  rw [List.getElem?_eq_getElem (show 4 < xs.length by omega), show Try.prog.cellsOf 4 = 1 from by kernel_rfl] at e4
  obtain ⟨y4, h4, w4⟩ := (Reads.bool Try.underlying4) enc n _ _ e4
  have e5 : DataW.trod enc Try.prog W 0 (fun _ => true) true n 5 ((cs.drop 5).take (Try.prog.cellsOf 5)) = xs[5]? := hel 5 _ rfl
  rw [List.getElem?_eq_getElem (show 5 < xs.length by omega), show Try.prog.cellsOf 5 = 1 from by kernel_rfl] at e5
  obtain ⟨y5, h5, w5⟩ := (Reads.int Try.underlying5) enc n _ _ e5
  have e6 : DataW.trod enc Try.prog W 0 (fun _ => true) true n 4 ((cs.drop 6).take (Try.prog.cellsOf 4)) = xs[6]? := hel 6 _ rfl
  rw [List.getElem?_eq_getElem (show 6 < xs.length by omega), show Try.prog.cellsOf 4 = 1 from by kernel_rfl] at e6
  obtain ⟨y6, h6, w6⟩ := (Reads.bool Try.underlying4) enc n _ _ e6
  rw [List.take_of_length_le (by rw [List.length_drop]; omega)] at h6
  exact ⟨⟨y0, y1, y2, y3, y4, y5, y6⟩, ⟨_, _, split_0 1 cs, h0, _, _, split_at 1 1 cs, h1, _, _, split_at 2 1 cs, h2, _, _, split_at 3 1 cs, h3, _, _, split_at 4 1 cs, h4, _, _, split_at 5 1 cs, h5, h6⟩, w0, w1, w2, w3, w4, w5, w6⟩
theorem own : ownKnob Try.prog.godebug = none := by kernel_rfl
theorem laidOut : laidOutB Try.prog = true := by kernel_rfl
set_option maxRecDepth 100000 in
theorem lifted (os : Os) (started : os.Started) (H : Type) (enc : TypeId × Value → H) :
    ReturnsInHanded {} Try.checked os 8 .any (Rows.punishHonestSpec.pre6 enc Try.prog Try.f8 Rows.punishHonestRow.domain false) (Rows.punishHonestSpec.post enc Try.prog Try.f8 false true false false) := by
  refine returnsInHanded_of_change (C := Try.checked) own started (by kernel_rfl) Try.func8
    (ChangeSpec.witness6 (enc := enc) (C := Try.checked) false ⟨#[], #[(.slice none 0 0), (.int .i64 0)], []⟩ 8 (by kernel_rfl) (by kernel_rfl) (by kernel_rfl) (by kernel_rfl)) ?_
  intro W base args ds gs before hval0 hW hcnd _
  have hval : ∀ (j : Nat) t v, Try.f8.params[j]? = some t → args[j]? = some v → Value.okWide Try.prog W .any base t v := hval0
  have hW' := hW
  obtain ⟨p, q, hA0, hV, rfl, hfz, hnd⟩ := hW
  have hA : DataW.TrodAll enc Try.prog W 0 (fun _ => true) true Try.f8.params.toList args.toList ds p := hA0
  rw [Try.params8] at hA hval
  obtain ⟨v0, vs0, d0, ds0, p0, q0, hargs, rfl, rfl, h0, r0⟩ := trodAll_cons hA
  obtain ⟨v1, vs1, d1, ds1, p1, q1, rfl, rfl, rfl, h1, r1⟩ := trodAll_cons r0
  obtain ⟨rfl, rfl, rfl⟩ := trodAll_nil r1
  obtain rfl : args = #[v0, v1] := by cases args; simp_all
  obtain ⟨rfl, rfl⟩ := trodVars_none hV
  have k0 := h0
  have lt0 : ∀ x ∈ p0, x.block < W.heap.size := by obtain ⟨m, hm⟩ := k0; exact DataW.trod_lt m _ _ _ hm
  obtain ⟨a0, n0, c0, l0, rfl, hR0, w0⟩ := arg_slice Try.underlying74 (Reads.slice Try.underlying74 (by kernel_rfl) (by decide) rd_S_baizelaw34_Deed) (hval 0 74 v0 rfl rfl) h0
  obtain ⟨a1, rfl, rfl, rfl, w1⟩ := open_int Try.underlying3 (hval 1 3 v1 rfl rfl) h1
  clear hA0 hval0
  have hc := P.baizelaw34_PunishHonest ⟨W, fun _ => 0⟩ l0 a1 a0 n0 c0 hR0 true (law_PunishHonest l0 a1 w0 w1)
  refine hc.mono fun e W' hh => ?_
  obtain ⟨v, g', rfl, rfl, st, rfl⟩ := hh
  have bel := st.below
  exact ⟨_, rfl, _, _, _, [], _, [], hW', trodAll_mk1 (shut_bool Try.underlying4 _), (trodAll_cons_mk (Below.trod laidOut (by kernel_rfl) (of_decide_eq_true (by kernel_rfl)) k0 bel lt0) (trodAll_cons_mk (shut_int Try.underlying3 w1) trodAll_mk0)), rfl, bel.frame _, fun h => by cases h⟩
theorem over : Rows.punishHonestRow.holds Try.pinned (OpenSpec.ofChange Rows.punishHonestSpec) :=
  OpenClaim.holds_of_wide 8 Try.f8 rfl rfl rfl rfl rfl rfl rfl ⟨rfl, rfl, rfl, rfl, rfl⟩ rfl rfl rfl rfl rfl (by kernel_rfl) Try.func8 (by kernel_rfl)
    (of_decide_eq_true (by kernel_rfl)) (by unfold Func.isWrapper; first | (rw [if_pos (by decide +kernel)]; kernel_rfl) | (rw [if_neg (by decide +kernel)]; exact ⟨rfl, rfl⟩))
    (fun os started H enc _ => lifted os started H enc)
theorem proved : Rows.PunishHonestSaid := over
end Go.Proofs.Ytlnockimfgfcgaa.punishHonest
