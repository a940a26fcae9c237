/-
  Proved: of all states, acts and payouts it is told what is signed.
-/
import Derived.Test.YthfmgobnanifnaaStateRef
namespace Go.Proofs.Ythfmgobnanifnaa
open Go.Lab
set_option maxRecDepth 10000

theorem law_StateDigests (y0 : (Arr Int 8)) (a1 : Int) (y2 : S_baizelaw32_Body) (w0 : (∀ y ∈ y0.1, (Lit.int .u8 y).wf = true)) (w1 : (Lit.int .i64 a1).wf = true) (w2 : wf_S_baizelaw32_Body y2) : F.baizelaw32_StateDigests y0 a1 y2.f1 y2.f2 y2.f3 = some true := by
  obtain ⟨b, at0, pays⟩ := y2
  simp only [wf_S_baizelaw32_Body] at w2
  simp only []
  have hd := byts_wf w0
  have hn : I64 a1 := wf_i64.1 w1
  have hb := (byts_wf w2.1.2).take 5000
  have ha := byts_wf w2.2.1
  have hp : ∀ x ∈ pays.take 20, I64 x := fun x hx => i64_wf w2.2.2.2 x (List.mem_of_mem_take hx)
  have hbl : (b.take 5000).length ≤ 5000 := by rw [List.length_take]; omega
  have hpl : (pays.take 20).length ≤ 20 := by rw [List.length_take]; omega
  have hi := imin_le (pays.length : Int) 20 (by omega) (by omega)
  have hc := cut_eq pays 20
  simp only [Int.cast_ofNat_Int] at hc
  unfold F.baizelaw32_StateDigests F.baizelaw32_StateDigests.c1
  rw [few_eq, Option.bind_some, if_pos (by omega), hc]
  generalize b.take 5000 = b at *
  generalize pays.take 20 = p at *
  have l1 := stateB_len y0 a1 b
  have l2 := actB_len y0 a1 at0 b
  have l3 := payB_len y0 p
  rw [State_eq hd hn hb (by omega), Option.bind_some, Act_eq hd hn ha hb (by omega), Option.bind_some, Pay_eq hd (by omega) hp, Option.bind_some, told32, Option.bind_some, if_pos rfl,
    rState_eq y0 hn (by omega), Option.bind_some, rOf32 (stateB_byts hd a1 hb) (by omega), Option.bind_some, if_pos (arr_same _), rAct_eq y0 hn at0 (by omega), Option.bind_some, rOf32 (actB_byts hd a1 ha hb) (by omega), Option.bind_some, if_pos (arr_same _),
    rPays_eq y0 (by omega) hp, Option.bind_some, rOf32 (payB_byts hd p) (by omega), Option.bind_some, arr_same]
end Go.Proofs.Ythfmgobnanifnaa
