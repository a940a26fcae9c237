/-
  Plain facts of the statements' votes: what the loop over the seats comes to.
-/
import Derived.Test.YtahpmlekenbafaaCloseVote
namespace Go.Proofs.Ytahpmlekenbafaa
open Go.Lab
set_option maxRecDepth 10000

def voteM (m1 m2 : Arr Int 8) (sg ot : List Bool) (i : Nat) : Option (Arr Int 8) := if atB sg i = true then some m1 else if atB ot i = true then some m2 else none

theorem vote_l1 {d1 d2 : Arr Int 8} (h1 : Byts d1.1) (h2 : Byts d2.1) {p o : List Int} (hp : p.length < 1000) (ho : o.length < 1000) (wp : ∀ x ∈ p, I64 x) (wo : ∀ x ∈ o, I64 x) (sg ot gn : List Bool) {seats : Nat} (hs : seats < 100) :
    ∀ (j k i : Nat), i + j = seats → j < k →
      F.baizelaw35_vote_2.l1 d1 p d2 o (seats : Int) sg ot gn k (voteE (voteM (payD d1 p) (payD d2 o) sg ot) i) (places (voteE (voteM (payD d1 p) (payD d2 o) sg ot) i)) ((List.range i).map keyN) ((List.range i).map (voteS (voteM (payD d1 p) (payD d2 o) sg ot))) (i : Int) =
        some (voteE (voteM (payD d1 p) (payD d2 o) sg ot) seats, places (voteE (voteM (payD d1 p) (payD d2 o) sg ot) seats), (List.range seats).map keyN, (List.range seats).map (voteS (voteM (payD d1 p) (payD d2 o) sg ot)), p, o, sg, ot, gn) := by
  generalize hm : voteM (payD d1 p) (payD d2 o) sg ot = m
  intro j
  induction j with
  | zero =>
    intro k i hi hk
    obtain ⟨k, rfl⟩ : ∃ j, k = j + 1 := ⟨k - 1, by omega⟩
    have : i = seats := by omega
    subst this
    unfold F.baizelaw35_vote_2.l1
    rw [if_neg (by simp)]
  | succ j ih =>
    intro k i hi hk
    obtain ⟨k, rfl⟩ : ∃ j, k = j + 1 := ⟨k - 1, by omega⟩
    have hlen := voteE_len m i
    have hv : voteE m (i + 1) = (match m i with | some d => voteE m i ++ [⟨keyN i, d⟩] | none => voteE m i) := rfl
    have hstep : ∀ (es : List S_notary_entry) (sig : List Int), es = voteE m (i + 1) → sig = voteS m i →
        F.baizelaw35_vote_2.c1 (F.baizelaw35_vote_2.l1 d1 p d2 o (seats : Int) sg ot gn k) ((List.range i).map keyN) ((List.range i).map (voteS m)) (i : Int) es (places es) sig =
          some (voteE m seats, places (voteE m seats), (List.range seats).map keyN, (List.range seats).map (voteS m), p, o, sg, ot, gn) := by
      intro es sig he hsg
      subst he hsg
      unfold F.baizelaw35_vote_2.c1
      rw [if_pos (by simp; omega), if_pos (by simp; omega), key_wrap (by omega), wrap_succ (by omega) (by omega)]
      have := ih k (i + 1) (by omega) (by omega)
      rw [List.range_succ, List.map_append, List.map_append] at this
      rw [show (i : Int) + 1 = ((i + 1 : Nat) : Int) by push_cast; rfl]
      exact this
    have hsign : ∀ d : Arr Int 8, F.notary_bookSigner_Sign (voteE m i) (places (voteE m i)) (keyN i) d = some (sigB (voteE m i).length, 0, places (voteE m i ++ [⟨keyN i, d⟩]), voteE m i ++ [⟨keyN i, d⟩]) := by
      intro d
      rw [Sign_eq (by omega), vote_sign]
    unfold F.baizelaw35_vote_2.l1 F.notary_Book_Signer
    rw [if_pos (by simp; omega), Option.bind_some, at_eq, Option.bind_some, at_eq, key_wrap (by omega)]
    by_cases c1 : atB sg i = true
    · have hmi : m i = some (payD d1 p) := by rw [← hm]; simp [voteM, c1]
      rw [if_pos c1, Payout_Digest_eq h1 (by omega) wp, Option.bind_some, hsign, Option.bind_some]
      refine hstep _ _ (by rw [hv, hmi]) (by simp [voteS, hmi])
    · rw [if_neg c1, Option.bind_some]
      by_cases c2 : atB ot i = true
      · have hmi : m i = some (payD d2 o) := by rw [← hm]; simp [voteM, c1, c2]
        rw [if_pos c2, Payout_Digest_eq h2 (by omega) wo, Option.bind_some, hsign, Option.bind_some]
        refine hstep _ _ (by rw [hv, hmi]) (by simp [voteS, hmi])
      · have hmi : m i = none := by rw [← hm]; simp [voteM, c1, c2]
        rw [if_neg c2]
        exact hstep _ _ (by rw [hv, hmi]) (by simp [voteS, hmi])

theorem vote_eq {d1 d2 : Arr Int 8} (h1 : Byts d1.1) (h2 : Byts d2.1) {p o : List Int} (hp : p.length < 1000) (ho : o.length < 1000) (wp : ∀ x ∈ p, I64 x) (wo : ∀ x ∈ o, I64 x) (sg ot gn : List Bool) {seats : Nat} (hs : seats < 100) :
    F.baizelaw35_vote_2 d1 p d2 o (seats : Int) sg ot gn = some (voteE (voteM (payD d1 p) (payD d2 o) sg ot) seats, places (voteE (voteM (payD d1 p) (payD d2 o) sg ot) seats), (List.range seats).map keyN, (List.range seats).map (voteS (voteM (payD d1 p) (payD d2 o) sg ot)), p, o, sg, ot, gn) := by
  unfold F.baizelaw35_vote_2 F.notary_NewBook
  rw [Option.bind_some]
  exact vote_l1 h1 h2 hp ho wp wo sg ot gn hs seats fuel 0 (by omega) (by rw [fuel_eq]; omega)

/-- All that aren't gone signed it. -/
theorem miss_vote (m : Nat → Option (Arr Int 8)) (D : Arr Int 8) (gone : List Bool) (n : Nat) :
    missL (voteE m n) D ((List.range n).map (voteS m)) gone ((List.range n).map keyN) 0 = [] ↔ ∀ i, i < n → atB gone i = true ∨ m i = some D := by
  rw [missL_nil]
  constructor
  · intro h i hi
    have := h i (by simpa using hi)
    simp only [Nat.zero_add, List.length_map, List.length_range, List.getElem_map, List.getElem_range] at this
    rw [getI_range _ hi, vote_ok m hi] at this
    rcases this with h | h
    · exact .inl h
    · exact .inr (by simpa using h.2)
  · intro h i hi
    have hn : i < n := by simpa using hi
    simp only [Nat.zero_add, List.length_map, List.length_range, List.getElem_map, List.getElem_range]
    rw [getI_range _ hn, vote_ok m hn]
    rcases h i hn with h | h
    · exact .inl h
    · exact .inr ⟨hn, by simp [h]⟩

theorem sigs_byts (m : Nat → Option (Arr Int 8)) (n : Nat) : ∀ s ∈ (List.range n).map (voteS m), Byts s := by
  intro s hs
  simp only [List.mem_map] at hs
  obtain ⟨i, _, rfl⟩ := hs
  exact voteS_byts m i

theorem seven_byts : Byts (⟨[7, 0, 0, 0, 0, 0, 0, 0], rfl⟩ : Arr Int 8).1 := by
  intro y hy
  simp only [List.mem_cons, List.not_mem_nil, or_false] at hy
  omega
theorem eight_byts : Byts (⟨[8, 0, 0, 0, 0, 0, 0, 0], rfl⟩ : Arr Int 8).1 := by
  intro y hy
  simp only [List.mem_cons, List.not_mem_nil, or_false] at hy
  omega
theorem i64_wf {l : List Int} (h : ∀ y ∈ l, (Lit.int .i64 y).wf = true) : ∀ x ∈ l, I64 x := fun x hx => wf_i64.1 (h x hx)
end Go.Proofs.Ytahpmlekenbafaa
