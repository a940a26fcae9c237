/-
  PunishTells: for every input the law returns true, and each argument reads afterwards as it read before. No conditions.
-/
import Derived.Test.YtlnockimfgfcgaaWPt5
import Derived.Test.YtlnockimfgfcgaaLawPunishTells
import Derived.WalkKit
import Derived.ProofKit
import Derived.OpenShut
import Derived.ShutString
import Derived.ChangeOld
import Derived.Below
import Derived.Test.YtlnockimfgfcgaaLabW
import Derived.Test.YtlnockimfgfcgaaLabZ
namespace Go.Proofs.Ytlnockimfgfcgaa.punishTells
open Go.ChangeShapes Go.WideShapes Go.ChangeAt Go.RowKit Go.Lab
open Go.ChangeMaps (open_string shut_string)
set_option linter.unusedVariables false
theorem rd_S_baizeref34_Thing {W : World} : ReadsZ Try.prog W 35 k_S_baizeref34_Thing (fun y => wf_S_baizeref34_Thing y ∧ y.f5.length ≤ reachBytes ∧ y.f6.length ≤ reachBytes) := by
  intro H enc fuel cs x h hz
  obtain ⟨xs, n, _, hX, hl, hx, hel⟩ := DataW.trod_struct Try.underlying35 h
  rw [hX] at hz
  simp only [DataW.weights, Try.underlying35] at hz
  rw [show Try.prog.cellsOf 35 = 21 from by kernel_rfl] at hl
  replace hx : xs.length = 7 := hx
  have e0 : DataW.trod enc Try.prog W 0 (fun _ => true) true n 3 ((cs.drop 0).take (Try.prog.cellsOf 3)) = xs[0]? := hel 0 _ rfl
  rw [List.getElem?_eq_getElem (show 0 < xs.length by omega), show Try.prog.cellsOf 3 = 1 from by kernel_rfl] at e0
  obtain ⟨y0, h0, w0⟩ := (Reads.int Try.underlying3) enc n _ _ e0
  have e1 : DataW.trod enc Try.prog W 0 (fun _ => true) true n 32 ((cs.drop 1).take (Try.prog.cellsOf 32)) = xs[1]? := hel 1 _ rfl
  rw [List.getElem?_eq_getElem (show 1 < xs.length by omega), show Try.prog.cellsOf 32 = 8 from by kernel_rfl] at e1
  obtain ⟨y1, h1, w1⟩ := (Reads.arrI Try.underlying32 Try.underlying5 (by kernel_rfl) (by kernel_rfl)) enc n _ _ e1
  have e2 : DataW.trod enc Try.prog W 0 (fun _ => true) true n 3 ((cs.drop 9).take (Try.prog.cellsOf 3)) = xs[2]? := hel 2 _ rfl
  rw [List.getElem?_eq_getElem (show 2 < xs.length by omega), show Try.prog.cellsOf 3 = 1 from by kernel_rfl] at e2
  obtain ⟨y2, h2, w2⟩ := (Reads.int Try.underlying3) enc n _ _ e2
  have e3 : DataW.trod enc Try.prog W 0 (fun _ => true) true n 32 ((cs.drop 10).take (Try.prog.cellsOf 32)) = xs[3]? := hel 3 _ rfl
  rw [List.getElem?_eq_getElem (show 3 < xs.length by omega), show Try.prog.cellsOf 32 = 8 from by kernel_rfl] at e3
  obtain ⟨y3, h3, w3⟩ := (Reads.arrI Try.underlying32 Try.underlying5 (by kernel_rfl) (by kernel_rfl)) enc n _ _ e3
  have e4 : DataW.trod enc Try.prog W 0 (fun _ => true) true n 33 ((cs.drop 18).take (Try.prog.cellsOf 33)) = xs[4]? := hel 4 _ rfl
  rw [List.getElem?_eq_getElem (show 4 < xs.length by omega), show Try.prog.cellsOf 33 = 1 from by kernel_rfl] at e4
  have hz4 : ((xs[4]'(by omega)).1.weights Try.prog 33).all (· ≤ reachBytes) = true := part_sized hz (j := 4) (t := 33) rfl (by rw [List.getElem?_map, List.getElem?_eq_getElem (show 4 < xs.length by omega)]; rfl)
  obtain ⟨y4, h4, w4, z4⟩ := (Reads.sliceZ Try.underlying33 (by kernel_rfl) (Reads.slice Try.underlying33 (by kernel_rfl) (by decide) (Reads.int Try.underlying5))) enc n _ _ e4 hz4
  have e5 : DataW.trod enc Try.prog W 0 (fun _ => true) true n 33 ((cs.drop 19).take (Try.prog.cellsOf 33)) = xs[5]? := hel 5 _ rfl
  rw [List.getElem?_eq_getElem (show 5 < xs.length by omega), show Try.prog.cellsOf 33 = 1 from by kernel_rfl] at e5
  have hz5 : ((xs[5]'(by omega)).1.weights Try.prog 33).all (· ≤ reachBytes) = true := part_sized hz (j := 5) (t := 33) rfl (by rw [List.getElem?_map, List.getElem?_eq_getElem (show 5 < xs.length by omega)]; rfl)
  obtain ⟨y5, h5, w5, z5⟩ := (Reads.sliceZ Try.underlying33 (by kernel_rfl) (Reads.slice Try.underlying33 (by kernel_rfl) (by decide) (Reads.int Try.underlying5))) enc n _ _ e5 hz5
  have e6 : DataW.trod enc Try.prog W 0 (fun _ => true) true n 4 ((cs.drop 20).take (Try.prog.cellsOf 4)) = xs[6]? := hel 6 _ rfl
  rw [List.getElem?_eq_getElem (show 6 < xs.length by omega), show Try.prog.cellsOf 4 = 1 from by kernel_rfl] at e6
  obtain ⟨y6, h6, w6⟩ := (Reads.bool Try.underlying4) enc n _ _ e6
  rw [List.take_of_length_le (by rw [List.length_drop]; omega)] at h6
  exact ⟨⟨y0, y1, y2, y3, y4, y5, y6⟩, ⟨_, _, split_0 1 cs, h0, _, _, split_at 1 8 cs, h1, _, _, split_at 9 1 cs, h2, _, _, split_at 10 8 cs, h3, _, _, split_at 18 1 cs, h4, _, _, split_at 19 1 cs, h5, h6⟩, ⟨w0, w1, w2, w3, w4, w5, w6⟩, z4, z5⟩
theorem rd_S_3_uint8 {W : World} : Reads Try.prog W 56 k_S_3_uint8 (wf_S_3_uint8) := by
  intro H enc fuel cs x h
  obtain ⟨xs, n, _, _, hl, hx, hel⟩ := DataW.trod_array Try.underlying56 h
  rw [show Try.prog.cellsOf 56 = 3 from by kernel_rfl] at hl
  replace hx : xs.length = 3 := hx
  have hce : Try.prog.cellsOf 5 = 1 := by kernel_rfl
  simp only [hce] at hel
  have e0 := hel 0 (by decide)
  rw [List.getElem?_eq_getElem (show 0 < xs.length by omega)] at e0
  replace e0 : DataW.trod enc Try.prog W 0 (fun _ => true) true n 5 ((cs.drop 0).take 1) = some xs[0] := e0
  obtain ⟨y0, h0, w0⟩ := (Reads.int Try.underlying5) enc n _ _ e0
  have e1 := hel 1 (by decide)
  rw [List.getElem?_eq_getElem (show 1 < xs.length by omega)] at e1
  replace e1 : DataW.trod enc Try.prog W 0 (fun _ => true) true n 5 ((cs.drop 1).take 1) = some xs[1] := e1
  obtain ⟨y1, h1, w1⟩ := (Reads.int Try.underlying5) enc n _ _ e1
  have e2 := hel 2 (by decide)
  rw [List.getElem?_eq_getElem (show 2 < xs.length by omega)] at e2
  replace e2 : DataW.trod enc Try.prog W 0 (fun _ => true) true n 5 ((cs.drop 2).take 1) = some xs[2] := e2
  obtain ⟨y2, h2, w2⟩ := (Reads.int Try.underlying5) enc n _ _ e2
  rw [List.take_of_length_le (by rw [List.length_drop]; omega)] at h2
  exact ⟨⟨y0, y1, y2⟩, ⟨_, _, split_0 1 cs, h0, _, _, split_at 1 1 cs, h1, h2⟩, w0, w1, w2⟩
theorem own : ownKnob Try.prog.godebug = none := by kernel_rfl
theorem laidOut : laidOutB Try.prog = true := by kernel_rfl
set_option maxRecDepth 100000 in
theorem lifted (os : Os) (started : os.Started) (H : Type) (enc : TypeId × Value → H) :
    ReturnsInHanded {} Try.checked os 5 .any (Rows.punishTellsSpec.pre6 enc Try.prog Try.f5 Rows.punishTellsRow.domain false) (Rows.punishTellsSpec.post enc Try.prog Try.f5 false true false false) := by
  refine returnsInHanded_of_change_sized (C := Try.checked) own started (by kernel_rfl) Try.func5
    (ChangeSpec.witness6 (enc := enc) (C := Try.checked) false ⟨#[], #[(.agg #[.int .i64 0, .int .u8 0, .int .u8 0, .int .u8 0, .int .u8 0, .int .u8 0, .int .u8 0, .int .u8 0, .int .u8 0, .int .i64 0, .int .u8 0, .int .u8 0, .int .u8 0, .int .u8 0, .int .u8 0, .int .u8 0, .int .u8 0, .int .u8 0, .slice none 0 0, .slice none 0 0, .bool false]), (.agg #[.int .i64 0, .int .u8 0, .int .u8 0, .int .u8 0, .int .u8 0, .int .u8 0, .int .u8 0, .int .u8 0, .int .u8 0, .int .i64 0, .int .u8 0, .int .u8 0, .int .u8 0, .int .u8 0, .int .u8 0, .int .u8 0, .int .u8 0, .int .u8 0, .slice none 0 0, .slice none 0 0, .bool false]), (.agg #[.int .u8 0, .int .u8 0, .int .u8 0, .int .u8 0, .int .u8 0, .int .u8 0, .int .u8 0, .int .u8 0]), (.agg #[.int .u8 0, .int .u8 0, .int .u8 0])], []⟩ 8 (by kernel_rfl) (by kernel_rfl) (by kernel_rfl) (by kernel_rfl)) ?_
  intro W base args ds gs before hval0 hW hcnd hsz _
  have hval : ∀ (j : Nat) t v, Try.f5.params[j]? = some t → args[j]? = some v → Value.okWide Try.prog W .any base t v := hval0
  have hW' := hW
  obtain ⟨p, q, hA0, hV, rfl, hfz, hnd⟩ := hW
  have hA : DataW.TrodAll enc Try.prog W 0 (fun _ => true) true Try.f5.params.toList args.toList ds p := hA0
  rw [Try.params5] at hA hval
  obtain ⟨v0, vs0, d0, ds0, p0, q0, hargs, rfl, rfl, h0, r0⟩ := trodAll_cons hA
  obtain ⟨v1, vs1, d1, ds1, p1, q1, rfl, rfl, rfl, h1, r1⟩ := trodAll_cons r0
  obtain ⟨v2, vs2, d2, ds2, p2, q2, rfl, rfl, rfl, h2, r2⟩ := trodAll_cons r1
  obtain ⟨v3, vs3, d3, ds3, p3, q3, rfl, rfl, rfl, h3, r3⟩ := trodAll_cons r2
  obtain ⟨rfl, rfl, rfl⟩ := trodAll_nil r3
  obtain rfl : args = #[v0, v1, v2, v3] := by cases args; simp_all
  obtain ⟨rfl, rfl⟩ := trodVars_none hV
  have k0 := h0
  have lt0 : ∀ x ∈ p0, x.block < W.heap.size := by obtain ⟨m, hm⟩ := k0; exact DataW.trod_lt m _ _ _ hm
  have hd0 : (d0.weights Try.prog 35).all (· ≤ reachBytes) = true := part_sized (P := Try.prog) hsz (j := 0) (t := 35) (by kernel_rfl) rfl
  obtain ⟨cs0, y0, rfl, hy0, w0, z0⟩ := arg_aggZ (by rw [Try.underlying35]) rd_S_baizeref34_Thing (hval 0 35 v0 rfl rfl) h0 hd0
  obtain ⟨a0_4, n0_4, c0_4, a0_5, n0_5, c0_5, hcs0, hR0_4, hR0_5⟩ := k_S_baizeref34_Thing.opn hy0
  rw [agg_of hcs0] at hW' k0 ⊢
  have k1 := h1
  have lt1 : ∀ x ∈ p1, x.block < W.heap.size := by obtain ⟨m, hm⟩ := k1; exact DataW.trod_lt m _ _ _ hm
  have hd1 : (d1.weights Try.prog 35).all (· ≤ reachBytes) = true := part_sized (P := Try.prog) hsz (j := 1) (t := 35) (by kernel_rfl) rfl
  obtain ⟨cs1, y1, rfl, hy1, w1, z1⟩ := arg_aggZ (by rw [Try.underlying35]) rd_S_baizeref34_Thing (hval 1 35 v1 rfl rfl) h1 hd1
  obtain ⟨a1_4, n1_4, c1_4, a1_5, n1_5, c1_5, hcs1, hR1_4, hR1_5⟩ := k_S_baizeref34_Thing.opn hy1
  rw [agg_of hcs1] at hW' k1 ⊢
  have k2 := h2
  have lt2 : ∀ x ∈ p2, x.block < W.heap.size := by obtain ⟨m, hm⟩ := k2; exact DataW.trod_lt m _ _ _ hm
  obtain ⟨cs2, y2, rfl, hy2, w2⟩ := arg_agg (by rw [Try.underlying32]) (Reads.arrI Try.underlying32 Try.underlying5 (by kernel_rfl) (by kernel_rfl)) (hval 2 32 v2 rfl rfl) h2
  rw [agg_of (Kd.o_arr hy2)] at hW' k2 ⊢
  have k3 := h3
  have lt3 : ∀ x ∈ p3, x.block < W.heap.size := by obtain ⟨m, hm⟩ := k3; exact DataW.trod_lt m _ _ _ hm
  obtain ⟨cs3, y3, rfl, hy3, w3⟩ := arg_agg (by rw [Try.underlying56]) rd_S_3_uint8 (hval 3 56 v3 rfl rfl) h3
  have hcs3 := k_S_3_uint8.opn hy3
  rw [agg_of hcs3] at hW' k3 ⊢
  clear hA0 hval0
  have hc := P.baizelaw34_PunishTells ⟨W, fun _ => 0⟩ y0.f1 y0.f2 y0.f3 y0.f4 y0.f5 y0.f6 y0.f7 y1.f1 y1.f2 y1.f3 y1.f4 y1.f5 y1.f6 y1.f7 y2 y3.f1 y3.f2 y3.f3 a0_4 n0_4 c0_4 a0_5 n0_5 c0_5 a1_4 n1_4 c1_4 a1_5 n1_5 c1_5 hR0_4 hR0_5 hR1_4 hR1_5 true (law_PunishTells y0 y1 y2 y3 w0 w1 w2 w3 z0 z1)
  refine hc.mono fun e W' hh => ?_
  obtain ⟨v, g', rfl, rfl, st, rfl⟩ := hh
  have bel := st.below
  exact ⟨_, rfl, _, _, _, [], _, [], hW', trodAll_mk1 (shut_bool Try.underlying4 _), (trodAll_cons_mk (Below.trod laidOut (by kernel_rfl) (of_decide_eq_true (by kernel_rfl)) k0 bel lt0) (trodAll_cons_mk (Below.trod laidOut (by kernel_rfl) (of_decide_eq_true (by kernel_rfl)) k1 bel lt1) (trodAll_cons_mk (Below.trod laidOut (by kernel_rfl) (of_decide_eq_true (by kernel_rfl)) k2 bel lt2) (trodAll_cons_mk (Below.trod laidOut (by kernel_rfl) (of_decide_eq_true (by kernel_rfl)) k3 bel lt3) trodAll_mk0)))), rfl, bel.frame _, fun h => by cases h⟩
theorem over : Rows.punishTellsRow.holds Try.pinned (OpenSpec.ofChange Rows.punishTellsSpec) :=
  OpenClaim.holds_of_wide 5 Try.f5 rfl rfl rfl rfl rfl rfl rfl ⟨rfl, rfl, rfl, rfl, rfl⟩ rfl rfl rfl rfl rfl (by kernel_rfl) Try.func5 (by kernel_rfl)
    (of_decide_eq_true (by kernel_rfl)) (by unfold Func.isWrapper; first | (rw [if_pos (by decide +kernel)]; kernel_rfl) | (rw [if_neg (by decide +kernel)]; exact ⟨rfl, rfl⟩))
    (fun os started H enc _ => lifted os started H enc)
theorem proved : Rows.PunishTellsSaid := over
end Go.Proofs.Ytlnockimfgfcgaa.punishTells
