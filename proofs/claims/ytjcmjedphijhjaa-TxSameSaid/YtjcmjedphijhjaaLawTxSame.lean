/-
  The plain law of TxSame: transactions are the same just if all fields are; those that aren't have unlike bytes; a clone shares nothing.
-/
import Derived.Test.YtjcmjedphijhjaaTxSames
namespace Go.Proofs.Ytjcmjedphijhjaa
open Go.Lab

theorem clone_b {l : List Int} (hl : l.length ≤ 140737488355328) : F.slices_Clone_byte_byte l = some l := by
  have hc : ([] : List Int).length + l.length ≤ 140737488355328 := by rw [List.length_nil, Nat.zero_add]; exact hl
  unfold F.slices_Clone_byte_byte F.slices_Clone_byte_byte_some
  rw [if_pos hc]; rfl

theorem same_c1 (a2 : Int) (d : Arr Int 8) (x1 x2 x3 : Int) {l1 l2 : List Int} (h1 : Byts l1) (h2 : Byts l2) (k1 : l1.length ≤ 400) (k2 : l2.length ≤ 1100) : F.baizelaw25_TxSame.c1 a2 d x1 x2 x3 l1 l2 false = some true := by
  unfold F.baizelaw25_TxSame.c1 F.tx_Tx_Clone
  rw [if_neg (by simp), clone_b (by omega), Option.bind_some, clone_b (by omega), Option.bind_some, Option.bind_some]
  simp only []
  rw [txSame_eq _ _ _ _ _ _ _ _ h1 h2 h1 h2, Option.bind_some, decide_eq_true ⟨rfl, rfl, rfl, rfl, rfl, rfl⟩, if_neg (by simp), known_true]
  by_cases hl : l1.length > 0
  case neg => rw [if_neg (by simpa using hl)]; rfl
  have hlu : IntKind.u64.wrap (l1.length : Int) = (l1.length : Int) := by rw [wrap_u64]; omega
  have hu : 0 ≤ IntKind.u64.wrap a2 := by rw [wrap_u64]; omega
  have hk0 : 0 ≤ (IntKind.u64.wrap a2).tmod (l1.length : Int) := Int.tmod_nonneg _ hu
  have hk1 : (IntKind.u64.wrap a2).tmod (l1.length : Int) < (l1.length : Int) := Int.tmod_lt_of_pos _ (by omega)
  rw [if_pos (by simp; omega), hlu, if_pos (by omega), wrap_id (x := (IntKind.u64.wrap a2).tmod (l1.length : Int)) (by omega) (by omega)]
  generalize (IntKind.u64.wrap a2).tmod (l1.length : Int) = k at hk0 hk1 ⊢
  rw [if_pos ⟨hk0, hk1⟩, if_pos ⟨hk0, hk1⟩, if_pos ⟨hk0, hk1⟩, Option.bind_some, if_pos rfl, if_pos ⟨hk0, hk1⟩, if_pos (by simp)]
  have hx := h1 _ (getI_mem hk0 hk1)
  have hwb : IntKind.u8.wrap (getI l1 k + 1) = (getI l1 k + 1) % 256 := wrap_byte _
  have hbs : Byts (setI l1 k (IntKind.u8.wrap (getI l1 k + 1))) := by
    intro y hy
    unfold setI at hy
    rcases List.mem_or_eq_of_mem_set hy with hy | rfl
    · exact h1 y hy
    · omega
  have hne : setI l1 k (IntKind.u8.wrap (getI l1 k + 1)) ≠ l1 := by
    intro he
    have hlt : k.toNat < l1.length := by omega
    have := congrArg (fun q => q[k.toNat]?) he
    simp only [setI] at this
    rw [List.getElem?_set_self hlt, getI_some ⟨hk0, hk1⟩] at this
    have := Option.some.inj this
    omega
  rw [txSame_eq _ _ _ _ _ _ _ _ hbs h2 h1 h2, Option.bind_some, decide_eq_false (fun q => hne q.2.2.2.2.1)]
  rfl

theorem law_TxSame (y0 : S_tx_Tx) (y1 : S_tx_Tx) (a2 : Int) (w0 : wf_S_tx_Tx y0) (w1 : wf_S_tx_Tx y1) (w2 : (Lit.int .i64 a2).wf = true) : F.baizelaw25_TxSame y0.f1 y0.f2 y0.f3 y0.f4 y0.f5 y0.f6 y1.f1 y1.f2 y1.f3 y1.f4 y1.f5 y1.f6 a2 = some true := by
  have hd0 : Byts y0.f1.1 := byts_wf w0.1
  have hd1 : Byts y1.f1.1 := byts_wf w1.1
  have h05 : Byts (y0.f5.take 400) := (byts_wf w0.2.2.2.2.1.2).take 400
  have h06 : Byts (y0.f6.take 1100) := (byts_wf w0.2.2.2.2.2.2).take 1100
  have h15 : Byts (y1.f5.take 400) := (byts_wf w1.2.2.2.2.1.2).take 400
  have h16 : Byts (y1.f6.take 1100) := (byts_wf w1.2.2.2.2.2.2).take 1100
  have k05 : (y0.f5.take 400).length ≤ 400 := by rw [List.length_take]; omega
  have k06 : (y0.f6.take 1100).length ≤ 1100 := by rw [List.length_take]; omega
  have k15 : (y1.f5.take 400).length ≤ 400 := by rw [List.length_take]; omega
  have k16 : (y1.f6.take 1100).length ≤ 1100 := by rw [List.length_take]; omega
  unfold F.baizelaw25_TxSame
  rw [Cut_eq, Cut_eq]
  unfold F.baizelaw25_Of
  simp only [Option.bind_some]
  rw [refSame_eq _ _ _ _ _ _ _ _ _ _ (by omega) (by omega), txSame_eq _ _ _ _ _ _ _ _ h05 h06 h15 h16, txSame_eq _ _ _ _ _ _ _ _ h15 h16 h05 h06, txSame_eq _ _ _ _ _ _ _ _ h05 h06 h05 h06,
    Encode_eq hd0 _ _ _ h05 (by omega), Encode_eq hd1 _ _ _ h15 (by omega)]
  simp only [Option.bind_some]
  have hc := same_c1 a2 y0.f1 y0.f2 y0.f3 y0.f4 h05 h06 k05 k06
  generalize y0.f5.take 400 = p5 at *
  generalize y0.f6.take 1100 = p6 at *
  generalize y1.f5.take 400 = q5 at *
  generalize y1.f6.take 1100 = q6 at *
  have hsym : decide (y1.f1 = y0.f1 ∧ y1.f2 = y0.f2 ∧ y1.f3 = y0.f3 ∧ y1.f4 = y0.f4 ∧ q5 = p5 ∧ q6 = p6) = decide (y0.f1 = y1.f1 ∧ y0.f2 = y1.f2 ∧ y0.f3 = y1.f3 ∧ y0.f4 = y1.f4 ∧ p5 = q5 ∧ p6 = q6) :=
    decide_eq_decide.2 ⟨fun ⟨a, b, c, d, e, f⟩ => ⟨a.symm, b.symm, c.symm, d.symm, e.symm, f.symm⟩, fun ⟨a, b, c, d, e, f⟩ => ⟨a.symm, b.symm, c.symm, d.symm, e.symm, f.symm⟩⟩
  rw [hsym, if_neg (by simp), if_neg (by simp), if_neg (by simp)]
  by_cases c0 : chkT y0.f2 y0.f3 y0.f4 p5 p6 = 0
  case neg =>
    rw [if_pos c0]
    simp only []
    rw [if_neg (show ¬ ((chkT y0.f2 y0.f3 y0.f4 p5 p6 == 0) = true) by simpa using c0)]
    exact hc
  rw [if_neg (show ¬ (chkT y0.f2 y0.f3 y0.f4 p5 p6 ≠ 0) by simpa using c0)]
  by_cases c1 : chkT y1.f2 y1.f3 y1.f4 q5 q6 = 0
  case neg =>
    rw [if_pos c1]
    simp only []
    rw [if_pos (by rfl), if_neg (by simpa using c1)]
    exact hc
  rw [if_neg (show ¬ (chkT y1.f2 y1.f3 y1.f4 q5 q6 ≠ 0) by simpa using c1)]
  simp only []
  have hle := allB_len y0.f1 y0.f2 y0.f3 y0.f4 p5 p6
  rw [if_pos (by rfl), if_pos (by rfl), Same_eq (by omega), Option.bind_some]
  have key : allB y0.f1 y0.f2 y0.f3 y0.f4 p5 p6 = allB y1.f1 y1.f2 y1.f3 y1.f4 q5 q6 ↔ (y0.f1 = y1.f1 ∧ y0.f2 = y1.f2 ∧ y0.f3 = y1.f3 ∧ y0.f4 = y1.f4 ∧ p5 = q5 ∧ p6 = q6) := by
    constructor
    · intro he
      have a := dec_all hd0 c0
      have b := dec_all hd1 c1
      rw [he, b] at a
      simp only [Prod.mk.injEq, and_true] at a
      obtain ⟨a1, a2, a3, a4, a5, a6⟩ := a
      exact ⟨a1.symm, a2.symm, a3.symm, a4.symm, a5.symm, a6.symm⟩
    · rintro ⟨a1, a2, a3, a4, a5, a6⟩
      rw [a1, a2, a3, a4, a5, a6]
  have hkey : decide (allB y0.f1 y0.f2 y0.f3 y0.f4 p5 p6 = allB y1.f1 y1.f2 y1.f3 y1.f4 q5 q6) = decide (y0.f1 = y1.f1 ∧ y0.f2 = y1.f2 ∧ y0.f3 = y1.f3 ∧ y0.f4 = y1.f4 ∧ p5 = q5 ∧ p6 = q6) := decide_eq_decide.2 key
  rw [hkey]
  simp only [beq_self_eq_true, Bool.not_true]
  exact hc
end Go.Proofs.Ytjcmjedphijhjaa
