/-
  Proved: whoever signed, and whoever is gone, a state is full just if all have signed that aren't gone; and it is told how many did.
-/
import Derived.Test.YthfmgobnanifnaaStateRef
import Derived.Test.YthfmgobnanifnaaVote
namespace Go.Proofs.Ythfmgobnanifnaa
open Go.Lab
set_option maxRecDepth 10000

def keyF (i : Nat) : Arr Int 8 := ⟨[(i : Int), 5, 0, 0, 0, 0, 0, 0], rfl⟩
theorem keyF_inj : ∀ i j, i < 9 → j < 9 → keyF i = keyF j → i = j := by
  intro i j _ _ h
  have := congrArg Subtype.val h
  simp only [keyF, List.cons.injEq] at this
  omega
theorem keyF_wrap {i : Nat} (h : i < 9) : (⟨[(IntKind.u8.wrap (i : Int)), 5, 0, 0, 0, 0, 0, 0], rfl⟩ : Arr Int 8) = keyF i := by
  apply Subtype.ext
  simp only [keyF]
  rw [wrap_u8 (by omega) (by omega)]

def sigM (A : Arr Int 8) (sg : List Bool) (i : Nat) : Option (Arr Int 8) := if atB sg i = true then some A else none
def wantB (sg gn : List Bool) (i : Nat) : Bool := decide (∀ j, j < i → atB sg j = true ∨ atB gn j = true)
theorem want_succ (sg gn : List Bool) (i : Nat) : wantB sg gn (i + 1) = (wantB sg gn i && (atB sg i || atB gn i)) := by
  unfold wantB
  rw [Bool.eq_iff_iff]
  simp only [decide_eq_true_eq, Bool.and_eq_true, Bool.or_eq_true]
  constructor
  · exact fun h => ⟨fun j hj => h j (by omega), h i (by omega)⟩
  · rintro ⟨h1, h2⟩ j hj
    rcases Nat.lt_succ_iff_lt_or_eq.1 hj with h | rfl
    · exact h1 j h
    · exact h2

theorem atB_take (l : List Bool) {i n : Nat} (h : i < n) : atB (l.take n) i = atB l i := by
  unfold atB getI
  simp only [Int.toNat_natCast, List.getD_eq_getElem?_getD, List.getElem?_take_of_lt h, List.length_take]
  congr 1
  exact decide_eq_decide.2 (by omega)

theorem CountNil_l1 {keys : List (Arr Int 8)} (hk : keys.length < 1000000) : ∀ (j k b : Nat), b + j = keys.length → j < k → F.state_Count_2.l1 keys k (b : Int) = some 0 := by
  intro j
  induction j with
  | zero =>
    intro k b hb hkk
    obtain ⟨k, rfl⟩ : ∃ j, k = j + 1 := ⟨k - 1, by omega⟩
    unfold F.state_Count_2.l1
    rw [if_neg (by simp; omega)]
  | succ j ih =>
    intro k b hb hkk
    obtain ⟨k, rfl⟩ : ∃ j, k = j + 1 := ⟨k - 1, by omega⟩
    unfold F.state_Count_2.l1
    rw [if_pos (by simp; omega), if_pos (by omega), wrap_succ (by omega) (by omega)]
    have := ih k (b + 1) (by omega) (by omega)
    rw [show (b : Int) + 1 = ((b + 1 : Nat) : Int) by push_cast; rfl]
    exact this

section
variable {A : Arr Int 8} {sg gn : List Bool}

theorem howMany_sg (i : Nat) : howMany (sigM A sg) A (i + 1) = howMany (sigM A sg) A i + if atB sg i = true then 1 else 0 := by
  simp only [howMany, sigM]
  by_cases h : atB sg i = true <;> simp [h]

theorem howMany_le (m : Nat → Option (Arr Int 8)) (D : Arr Int 8) : ∀ i, howMany m D i ≤ i
  | 0 => Nat.le_refl _
  | i + 1 => by
    have := howMany_le m D i
    simp only [howMany]
    split <;> omega

theorem full_end {x1 : Int} {n : Nat} (hn : 2 ≤ n ∧ n ≤ 8) (hx : IntKind.i64.wrap (2 + (IntKind.i64.wrap ((IntKind.u64.wrap x1).tmod 7))) = (n : Int)) (k : Nat) :
    F.baizelaw32_StateFull.l1 x1 sg gn A (k + 1) (voteE keyF (sigM A sg) n) (places (voteE keyF (sigM A sg) n)) ((List.range n).map keyF) ((List.range n).map (voteS keyF (sigM A sg))) (wantB sg gn n) ((howMany (sigM A sg) A n : Nat) : Int) (n : Int) = some true := by
  have hlen := voteE_len keyF (sigM A sg) n
  have hi := imin_le (gn.length : Int) 12 (by omega) (by omega)
  have hcut : sliceI gn 0 (imin (gn.length : Int) 12) = gn.take 12 := by
    unfold sliceI imin
    split
    · simp
    · rw [show ((0 : Int)).toNat = 0 from rfl, List.drop_zero, Int.toNat_natCast, Nat.sub_zero, List.take_of_length_le (Nat.le_refl _), List.take_of_length_le (by omega)]
  have hb := sigs_byts keyF (sigM A sg) n
  have hm := miss_vote keyF_inj (sigM A sg) A (gn.take 12) (n := n) (by omega)
  have hF : F.state_Full (voteE keyF (sigM A sg) n) (places (voteE keyF (sigM A sg) n)) ((List.range n).map keyF) (gn.take 12) A ((List.range n).map (voteS keyF (sigM A sg))) = some (wantB sg gn n) := by
    unfold F.state_Full
    rw [All_eq (by omega) (by simp; omega) A hb, Option.bind_some, if_neg (by simp; omega)]
    have hiff : missL (voteE keyF (sigM A sg) n) A ((List.range n).map (voteS keyF (sigM A sg))) (gn.take 12) ((List.range n).map keyF) 0 = [] ↔ wantB sg gn n = true := by
      rw [hm]
      unfold wantB sigM
      rw [decide_eq_true_eq]
      constructor
      · intro h i hi
        rcases h i hi with h | h
        · rw [atB_take _ (by omega)] at h; exact .inr h
        · left
          cases hq : atB sg i with
          | true => rfl
          | false => rw [hq] at h; cases h
      · intro h i hi
        rcases h i hi with h | h
        · right; rw [if_pos h]
        · left; rw [atB_take _ (by omega)]; exact h
    cases hw : wantB sg gn n with
    | true => rw [if_pos (hiff.2 hw)]; rfl
    | false => rw [if_neg (fun q => by rw [hiff.1 q] at hw; cases hw)]; rfl
  have hC : F.state_Count (voteE keyF (sigM A sg) n) (places (voteE keyF (sigM A sg) n)) ((List.range n).map keyF) A ((List.range n).map (voteS keyF (sigM A sg))) = some ((howMany (sigM A sg) A n : Nat) : Int) := by
    rw [Count_eq (by omega) (by simp; omega) A hb, count_vote keyF_inj (sigM A sg) A (by omega)]
  have hF2 : F.state_Full (voteE keyF (sigM A sg) n) (places (voteE keyF (sigM A sg) n)) ((List.range n).map keyF) (gn.take 12) A (sliceI ((List.range n).map (voteS keyF (sigM A sg))) 1 (((List.range n).map (voteS keyF (sigM A sg))).length : Int)) = some false := by
    unfold F.state_Full
    rw [All_eq (by omega) (by simp; omega) A (by
      intro s hs
      unfold sliceI at hs
      exact hb s (List.mem_of_mem_drop (List.mem_of_mem_take hs))), Option.bind_some, if_pos (by
      right
      simp only [sliceI, List.length_take, List.length_drop, List.length_map, List.length_range]
      omega)]
    rfl
  have hN : F.state_Count_2 ((List.range n).map keyF) A ((List.range n).map (voteS keyF (sigM A sg))) = some 0 := by
    unfold F.state_Count_2
    exact CountNil_l1 (by simp; omega) n fuel 0 (by simp) (by rw [fuel_eq]; omega)
  unfold F.baizelaw32_StateFull.l1 F.baizelaw32_StateFull.c4
  rw [hx, if_neg (by simp), if_pos (by omega), hcut, hF, Option.bind_some, if_pos (by simp), hC, Option.bind_some, if_pos (by simp), if_pos (by simp; omega), hF2, Option.bind_some, if_pos (by decide), hN, Option.bind_some]
  rfl

theorem full_l1 {x1 : Int} {n : Nat} (hn : 2 ≤ n ∧ n ≤ 8) (hx : IntKind.i64.wrap (2 + (IntKind.i64.wrap ((IntKind.u64.wrap x1).tmod 7))) = (n : Int)) : ∀ (j k i : Nat), i + j = n → j < k →
    F.baizelaw32_StateFull.l1 x1 sg gn A k (voteE keyF (sigM A sg) i) (places (voteE keyF (sigM A sg) i)) ((List.range i).map keyF) ((List.range i).map (voteS keyF (sigM A sg))) (wantB sg gn i) ((howMany (sigM A sg) A i : Nat) : Int) (i : Int) = some true := by
  intro j
  induction j with
  | zero =>
    intro k i hi hk
    obtain ⟨k, rfl⟩ : ∃ j, k = j + 1 := ⟨k - 1, by omega⟩
    have : i = n := by omega
    subst this
    exact full_end hn hx k
  | succ j ih =>
    intro k i hi hk
    obtain ⟨k, rfl⟩ : ∃ j, k = j + 1 := ⟨k - 1, by omega⟩
    have hlen := voteE_len keyF (sigM A sg) i
    have hhm := howMany_le (sigM A sg) A i
    have hkey : (List.range i).map keyF ++ [keyF i] = (List.range (i + 1)).map keyF := by rw [List.range_succ, List.map_append]; rfl
    have hgk : getI ((List.range (i + 1)).map keyF) (i : Int) = keyF i := getI_range _ (by omega)
    have hset : ∀ s : List Int, setI ((List.range i).map (voteS keyF (sigM A sg)) ++ [[]]) (i : Int) s = (List.range i).map (voteS keyF (sigM A sg)) ++ [s] := by
      intro s
      unfold setI
      rw [Int.toNat_natCast, List.set_append_right _ _ (by simp)]
      simp
    have hv : voteE keyF (sigM A sg) (i + 1) = (match sigM A sg i with | some d => voteE keyF (sigM A sg) i ++ [⟨keyF i, d⟩] | none => voteE keyF (sigM A sg) i) := rfl
    have hstep : ∀ (es : List S_notary_entry) (s : List Int) (q : Bool) (c : Int), es = voteE keyF (sigM A sg) (i + 1) → s = voteS keyF (sigM A sg) i → q = wantB sg gn (i + 1) → c = ((howMany (sigM A sg) A (i + 1) : Nat) : Int) →
        F.baizelaw32_StateFull.c1 (F.baizelaw32_StateFull.l1 x1 sg gn A k) (i : Int) es (places es) ((List.range (i + 1)).map keyF) ((List.range i).map (voteS keyF (sigM A sg)) ++ [s]) q c = some true := by
      intro es s q c he hs hq hc
      subst he hs hq hc
      unfold F.baizelaw32_StateFull.c1
      rw [wrap_succ (by omega) (by omega)]
      have := ih k (i + 1) (by omega) (by omega)
      have hS : (List.range i).map (voteS keyF (sigM A sg)) ++ [voteS keyF (sigM A sg) i] = (List.range (i + 1)).map (voteS keyF (sigM A sg)) := by rw [List.range_succ, List.map_append]; rfl
      rw [hS, show (i : Int) + 1 = ((i + 1 : Nat) : Int) by push_cast; rfl]
      exact this
    have hwant := want_succ sg gn i
    have hmany := howMany_sg (A := A) (sg := sg) i
    have hc2 : ∀ q : Bool, q = atB sg i → F.baizelaw32_StateFull.c2 (F.baizelaw32_StateFull.l1 x1 sg gn A k) gn A (voteE keyF (sigM A sg) i) (places (voteE keyF (sigM A sg) i)) ((List.range i).map keyF) ((List.range i).map (voteS keyF (sigM A sg))) (wantB sg gn i) ((howMany (sigM A sg) A i : Nat) : Int) (i : Int) q = some true := by
      intro q hq
      unfold F.baizelaw32_StateFull.c2
      rw [keyF_wrap (by omega), hkey, hgk]
      cases q with
      | true =>
        have hs : sigM A sg i = some A := by unfold sigM; rw [← hq]; rfl
        rw [if_pos rfl, if_pos (by simp; omega), F.notary_Book_Signer, Option.bind_some, Sign_eq (by omega), vote_sign keyF_inj _ (by omega), Option.bind_some]
        simp only []
        rw [if_neg (by decide), if_pos (by simp; omega), hset, wrap_succ (by omega) (by omega)]
        refine hstep _ _ _ _ (by rw [hv, hs]) (by unfold voteS; rw [hs]) (by rw [hwant, ← hq]; simp) ?_
        rw [hmany, ← hq]
        push_cast
        rfl
      | false =>
        have hs : sigM A sg i = none := by unfold sigM; rw [← hq]; rfl
        have he : voteE keyF (sigM A sg) i = voteE keyF (sigM A sg) (i + 1) := by rw [hv, hs]
        have hz : ([] : List Int) = voteS keyF (sigM A sg) i := by unfold voteS; rw [hs]
        have hm2 : ((howMany (sigM A sg) A i : Nat) : Int) = ((howMany (sigM A sg) A (i + 1) : Nat) : Int) := by rw [hmany, ← hq]; simp
        rw [if_neg (by decide)]
        unfold F.baizelaw32_StateFull.c3
        rw [keyF_wrap (by omega), hkey]
        by_cases hg : i < gn.length
        · rw [if_neg (c := decide ((i : Int) ≥ (gn.length : Int)) = true) (by simp; omega), if_pos (by omega)]
          have ha : atB gn i = getI gn (i : Int) := by unfold atB; simp [hg]
          cases hgi : getI gn (i : Int) with
          | true =>
            rw [if_neg (by decide)]
            exact hstep _ _ _ _ he hz (by rw [hwant, ha, hgi]; simp) hm2
          | false =>
            rw [if_pos (by decide)]
            exact hstep _ _ _ _ he hz (by rw [hwant, ha, hgi, ← hq]; simp) hm2
        · rw [if_pos (c := decide ((i : Int) ≥ (gn.length : Int)) = true) (by simp; omega), if_pos rfl]
          have ha : atB gn i = false := by unfold atB; simp [hg]
          exact hstep _ _ _ _ he hz (by rw [hwant, ha, ← hq]; simp) hm2
    unfold F.baizelaw32_StateFull.l1
    rw [hx, if_pos (by simp; omega), if_pos (by simp; omega), if_pos (by simp; omega)]
    by_cases hs : i < sg.length
    · rw [if_pos (c := decide ((i : Int) < (sg.length : Int)) = true) (by simpa using hs), if_pos (by omega)]
      exact hc2 _ (by unfold atB; simp [hs])
    · rw [if_neg (c := decide ((i : Int) < (sg.length : Int)) = true) (by simpa using hs)]
      exact hc2 _ (by unfold atB; simp [hs])
end

theorem law_StateFull (a0 : Int) (y1 : S_2_bool) (y2 : S_state_State) (w0 : (Lit.int .i64 a0).wf = true) (w1 : wf_S_2_bool y1) (w2 : wf_S_state_State y2) : F.baizelaw32_StateFull a0 y1.f1 y1.f2 y2.f1 y2.f2 y2.f3 = some true := by
  obtain ⟨sg, gn⟩ := y1
  obtain ⟨d, n, b⟩ := y2
  simp only [wf_S_state_State] at w2
  simp only []
  have hbl : (b.take 5000).length ≤ 5000 := by rw [List.length_take]; omega
  have hA := State_eq (byts_wf w2.1) (wf_i64.1 w2.2.1) ((byts_wf w2.2.2.2).take 5000) (by omega)
  have ha := wf_i64.1 w0
  have hx : IntKind.i64.wrap (2 + (IntKind.i64.wrap ((IntKind.u64.wrap a0).tmod 7))) = ((2 + ((a0 % 18446744073709551616) % 7).toNat : Nat) : Int) := by
    rw [wrap_u64, Int.tmod_eq_emod_of_nonneg (by omega), wrap_id (x := a0 % 18446744073709551616 % 7) (by omega) (by omega), wrap_id (by omega) (by omega)]
    push_cast
    omega
  unfold F.baizelaw32_StateFull F.notary_NewBook
  rw [Option.bind_some, told32, Option.bind_some, if_neg (by decide), few_eq, Option.bind_some, hA, Option.bind_some]
  generalize hOf (stateB d n (b.take 5000)) = A
  exact full_l1 (n := 2 + ((a0 % 18446744073709551616) % 7).toNat) (by omega) hx _ fuel 0 (Nat.zero_add _) (by rw [fuel_eq]; omega)
end Go.Proofs.Ythfmgobnanifnaa
