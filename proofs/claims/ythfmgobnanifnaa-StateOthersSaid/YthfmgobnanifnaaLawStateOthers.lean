/-
  Proved: signatures of another state, or of other seats, count for nothing.
-/
import Derived.Test.YthfmgobnanifnaaStateRef
import Derived.Test.YthfmgobnanifnaaVote
namespace Go.Proofs.Ythfmgobnanifnaa
open Go.Lab
set_option maxRecDepth 10000

def keyN (i : Nat) : Arr Int 8 := ⟨[((i + 1 : Nat) : Int), 0, 0, 0, 0, 0, 0, 0], rfl⟩
theorem keyN_inj : ∀ i j, i < 3 → j < 3 → keyN i = keyN j → i = j := by
  intro i j _ _ h
  have := congrArg Subtype.val h
  simp only [keyN, List.cons.injEq] at this
  omega

theorem keys3 : [(⟨[1, 0, 0, 0, 0, 0, 0, 0], rfl⟩ : Arr Int 8), (⟨[2, 0, 0, 0, 0, 0, 0, 0], rfl⟩ : Arr Int 8), (⟨[3, 0, 0, 0, 0, 0, 0, 0], rfl⟩ : Arr Int 8)] = (List.range 3).map keyN := rfl

section
variable {A B : Arr Int 8}

theorem full_len (n : Nat) : (voteE keyN (fun _ => some A) n).length = n := by
  induction n with
  | zero => rfl
  | succ n ih =>
    show (voteE keyN (fun _ => some A) n ++ [_]).length = n + 1
    rw [List.length_append, ih]; rfl

theorem full_sig (i : Nat) : voteS keyN (fun _ => some A) i = sigB i := by
  show sigB (voteE keyN (fun _ => some A) i).length = _
  rw [full_len]

theorem full_ok {i j : Nat} (hi : i < 3) (hj : j < 3) (h : j ≠ i) : okV (voteE keyN (fun _ => some A) 3) (keyN i) A (sigB j) = false := by
  unfold okV
  rw [voteE_idx keyN_inj _ hi A 3 (Nat.le_refl _), if_pos ⟨hi, rfl⟩, full_len]
  exact decide_eq_false (fun q => h (sigB_inj (by omega) (by omega) q))

theorem Full_eq (D : Arr Int 8) : F.state_Full (voteE keyN (fun _ => some A) 3) (places (voteE keyN (fun _ => some A) 3)) ((List.range 3).map keyN) [] D ((List.range 3).map (voteS keyN fun _ => some A)) = some (decide (A = D)) := by
  have hl : (voteE keyN (fun _ => some A) 3).length ≤ 65536 := by rw [full_len]; omega
  have hm := miss_vote keyN_inj (fun _ => some A) D [] (n := 3) (Nat.le_refl _)
  unfold F.state_Full
  rw [All_eq hl (by simp) D (sigs_byts _ _ _), Option.bind_some, if_neg (by simp)]
  by_cases h : A = D
  · rw [if_pos (hm.2 (fun i _ => .inr (by rw [h]))), decide_eq_true h]
    rfl
  · rw [if_neg (fun q => by
      rcases hm.1 q 0 (by omega) with g | g
      · simp [atB] at g
      · exact h (by simpa using g)), decide_eq_false h]
    rfl

theorem Count_B (D : Arr Int 8) : F.state_Count (voteE keyN (fun _ => some A) 3) (places (voteE keyN (fun _ => some A) 3)) ((List.range 3).map keyN) D ((List.range 3).map (voteS keyN fun _ => some A)) = some (if A = D then 3 else 0) := by
  have hl : (voteE keyN (fun _ => some A) 3).length ≤ 65536 := by rw [full_len]; omega
  rw [Count_eq hl (by simp) D (sigs_byts _ _ _), count_vote keyN_inj (fun _ => some A) D (Nat.le_refl _)]
  by_cases h : A = D <;> simp [howMany, h]

theorem Count_turned : F.state_Count (voteE keyN (fun _ => some A) 3) (places (voteE keyN (fun _ => some A) 3)) ((List.range 3).map keyN) A [sigB 1, sigB 2, sigB 0] = some 0 := by
  have hl : (voteE keyN (fun _ => some A) 3).length ≤ 65536 := by rw [full_len]; omega
  rw [Count_eq hl (by simp) A (by
    intro s hs
    simp only [List.mem_cons, List.not_mem_nil, or_false] at hs
    rcases hs with rfl | rfl | rfl <;> exact sigB_byts _)]
  have e1 := full_ok (A := A) (i := 0) (j := 1) (by omega) (by omega) (by omega)
  have e2 := full_ok (A := A) (i := 1) (j := 2) (by omega) (by omega) (by omega)
  have e3 := full_ok (A := A) (i := 2) (j := 0) (by omega) (by omega) (by omega)
  have hz : countL (voteE keyN (fun _ => some A) 3) A [sigB 1, sigB 2, sigB 0] ((List.range 3).map keyN) 0 = 0 := by
    show countL _ A [sigB 1, sigB 2, sigB 0] [keyN 0, keyN 1, keyN 2] 0 = 0
    simp only [countL]
    have g0 : getI [sigB 1, sigB 2, sigB 0] ((0 : Nat) : Int) = sigB 1 := rfl
    have g1 : getI [sigB 1, sigB 2, sigB 0] ((0 + 1 : Nat) : Int) = sigB 2 := rfl
    have g2 : getI [sigB 1, sigB 2, sigB 0] ((0 + 1 + 1 : Nat) : Int) = sigB 0 := rfl
    rw [g0, g1, g2, e1, e2, e3]
    simp
  rw [hz]
  rfl

theorem others_l1 {d1 d2 : Arr Int 8} {x1 x2 : Int} {l3 l4 : List Int} (hA : F.state_State_Digest d1 x1 l3 = some A) (hB : F.state_State_Digest d2 x2 l4 = some B) : ∀ (j k i : Nat), i + j = 3 → j < k →
    F.baizelaw32_StateOthers.l1 d1 x1 d2 x2 l3 l4 k (voteE keyN (fun _ => some A) i) (places (voteE keyN (fun _ => some A) i)) ((List.range i).map (voteS keyN fun _ => some A)) (i : Int) = some true := by
  intro j
  induction j with
  | zero =>
    intro k i hi hk
    obtain ⟨k, rfl⟩ : ∃ j, k = j + 1 := ⟨k - 1, by omega⟩
    have : i = 3 := by omega
    subst this
    have hL : ∀ L : List (List Int), L = (List.range 3).map (voteS keyN fun _ => some A) → ([] ++ (sliceI L 1 (L.length : Int))) ++ [getI L 0] = [sigB 1, sigB 2, sigB 0] := by
      rintro _ rfl
      have : (List.range 3).map (voteS keyN fun _ => some A) = [sigB 0, sigB 1, sigB 2] := by
        show [voteS keyN _ 0, voteS keyN _ 1, voteS keyN _ 2] = _
        rw [full_sig, full_sig, full_sig]
      rw [this]
      rfl
    have hLl : ((List.range 3).map (voteS keyN fun _ => some A)).length = 3 := by simp
    unfold F.baizelaw32_StateOthers.l1 F.baizelaw32_StateOthers.c1
    rw [if_neg (by decide), keys3, hL _ rfl, hLl, if_pos (by decide), if_pos (by simp [sliceI]), if_pos (by decide), if_pos (by simp [sliceI]), hA, hB]
    simp only [Option.bind_some]
    rw [Full_eq, Option.bind_some, if_pos (by simp), Full_eq, Option.bind_some, arr_beq, if_pos (by simp), Count_turned, Option.bind_some, if_pos (by decide), Count_B, Option.bind_some]
    by_cases h : A = B <;> simp [h]
  | succ j ih =>
    intro k i hi hk
    obtain ⟨k, rfl⟩ : ∃ j, k = j + 1 := ⟨k - 1, by omega⟩
    have hg : getI ((List.range 3).map keyN) (i : Int) = keyN i := getI_range _ (by omega)
    unfold F.baizelaw32_StateOthers.l1 F.notary_Book_Signer
    rw [if_pos (by simp; omega), keys3, if_pos (by simp; omega), hg, Option.bind_some, hA, Option.bind_some, Sign_eq (by rw [full_len]; omega), vote_sign keyN_inj _ (by omega), Option.bind_some]
    simp only []
    rw [if_pos (by simp; omega), wrap_succ (by omega) (by omega)]
    have := ih k (i + 1) (by omega) (by omega)
    rw [List.range_succ, List.map_append] at this
    rw [show (i : Int) + 1 = ((i + 1 : Nat) : Int) by push_cast; rfl]
    exact this
end

theorem law_StateOthers (y0 : S_state_State) (y1 : S_state_State) (w0 : wf_S_state_State y0) (w1 : wf_S_state_State y1) : F.baizelaw32_StateOthers y0.f1 y0.f2 y0.f3 y1.f1 y1.f2 y1.f3 = some true := by
  obtain ⟨d, n, b⟩ := y0
  obtain ⟨e, m, c⟩ := y1
  simp only [wf_S_state_State] at w0 w1
  simp only []
  have hbl : (b.take 5000).length ≤ 5000 := by rw [List.length_take]; omega
  have hcl : (c.take 5000).length ≤ 5000 := by rw [List.length_take]; omega
  have hA := State_eq (byts_wf w0.1) (wf_i64.1 w0.2.1) ((byts_wf w0.2.2.2).take 5000) (by omega)
  have hB := State_eq (byts_wf w1.1) (wf_i64.1 w1.2.1) ((byts_wf w1.2.2.2).take 5000) (by omega)
  unfold F.baizelaw32_StateOthers F.notary_NewBook
  rw [few_eq, Option.bind_some, few_eq, Option.bind_some, Option.bind_some, told32, Option.bind_some, if_neg (by decide)]
  exact others_l1 hA hB 3 fuel 0 (by omega) (by rw [fuel_eq]; omega)
end Go.Proofs.Ythfmgobnanifnaa
