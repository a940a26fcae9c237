/-
  Proved: nobody is paid by an agreement that they didn't sign, unless they are gone, whatever all others sign (of 8 seats).
-/
import Derived.Test.YtahpmlekenbafaaCloseLoop
namespace Go.Proofs.Ytahpmlekenbafaa
open Go.Lab
set_option maxRecDepth 10000

def genL (f : Nat → Bool) (n i : Nat) : List Bool := (List.range i).map f ++ List.replicate (n - i) false
theorem gen_len (f : Nat → Bool) {n i : Nat} (h : i ≤ n) : (genL f n i).length = n := by simp [genL]; omega
theorem gen_step (f : Nat → Bool) {n i : Nat} (h : i < n) : setI (genL f n i) (i : Int) (f i) = genL f n (i + 1) := by
  unfold setI genL
  rw [List.range_succ, List.map_append]
  obtain ⟨r, hr⟩ : ∃ r, n - i = r + 1 := ⟨n - i - 1, by omega⟩
  rw [hr, show n - (i + 1) = r by omega, List.replicate_succ]
  rw [List.set_append_right _ _ (by simp)]
  simp

theorem repl_set {n me : Nat} : setI (List.replicate n false) (me : Int) true = (List.range n).map fun i => decide (me = i) := by
  unfold setI
  apply List.ext_getElem
  · simp
  · intro i h1 h2
    simp only [Int.toNat_natCast, List.getElem_set, List.getElem_replicate, List.getElem_map, List.getElem_range]
    by_cases h : me = i <;> simp [h]

theorem atB_range (f : Nat → Bool) {n i : Nat} (h : i < n) : atB ((List.range n).map f) i = f i := by
  have : atB ((List.range n).map f) i = (decide (i < ((List.range n).map f).length) && getI ((List.range n).map f) (i : Int)) := rfl
  rw [this, getI_range _ h]
  simp [h]

theorem repl_range (n : Nat) : List.replicate n false = (List.range n).map fun _ => false := by
  apply List.ext_getElem
  · simp
  · intro i h1 h2
    simp

theorem sum_right : ∀ (l : List Int) (x : Int), rightB x = true → (sumP l x).2 = 0 → (∀ y ∈ l, rightB y = true) ∧ rightB (sumP l x).1 = true
  | [], x, h, _ => ⟨fun y hy => by simp at hy, h⟩
  | y :: l, x, h, h0 => by
    unfold sumP at h0 ⊢
    by_cases hc : ((addP x y).2 != 0) = true
    · rw [if_pos hc] at h0
      simp only at h0
      rw [h0] at hc
      simp at hc
    · rw [if_neg hc] at h0 ⊢
      have ha : (rightB x && rightB y && rightB (IntKind.i64.wrap (x + y))) = true := by
        cases hq : (rightB x && rightB y && rightB (IntKind.i64.wrap (x + y))) with
        | true => rfl
        | false =>
          exfalso
          apply hc
          unfold addP
          rw [hq]
          rfl
      have hv : (addP x y).1 = IntKind.i64.wrap (x + y) := by unfold addP; rw [if_pos ha]
      simp only [Bool.and_eq_true] at ha
      obtain ⟨h1, h2⟩ := sum_right l (addP x y).1 (by rw [hv]; exact ha.2) h0
      refine ⟨fun z hz => ?_, h2⟩
      rcases List.mem_cons.1 hz with rfl | hz
      · exact ha.1.2
      · exact h1 z hz

theorem adds_sum {p : List Int} (h2 : 2 ≤ p.length) (h8 : p.length ≤ 8) : (sumP p 0).2 = 0 → addsP (sumP p 0).1 (p.length : Int) p = 0 := by
  intro h0
  obtain ⟨h1, h3⟩ := sum_right p 0 rfl h0
  have ha : (p.any fun y => !rightB y) = false := by
    apply Bool.eq_false_iff.2
    intro hq
    simp only [List.any_eq_true, Bool.not_eq_true'] at hq
    obtain ⟨y, hy, hz⟩ := hq
    rw [h1 y hy] at hz
    cases hz
  unfold addsP
  rw [if_neg (by omega), if_neg (by rw [h3]; simp), if_neg (by simp), if_neg (by rw [ha]; simp), if_neg (by rw [h0]; simp)]

theorem adds_bad {p : List Int} (pot : Int) (h0 : (sumP p 0).2 ≠ 0) : addsP pot (p.length : Int) p ≠ 0 := by
  unfold addsP
  split
  · decide
  split
  · decide
  split
  · decide
  split
  · decide
  rw [if_pos (.inl h0)]
  decide

section
variable {p o : List Int}

theorem mine_end (h2 : 2 ≤ p.length) (h8 : p.length ≤ 8) (ho : o.length ≤ 8) (wp : ∀ x ∈ p, I64 x) (wo : ∀ x ∈ o, I64 x) {me : Nat} (hme : me < p.length) {x1 : Int} (hx : (IntKind.i64.wrap x1).tmod (p.length : Int) = (me : Int)) (k : Nat) :
    F.baizelaw35_CloseMine.l1 p o x1 (k + 1) (genL (fun i => decide (i ≠ me)) p.length p.length) (p.length : Int) = some true := by
  have hP := Payout_Digest_eq seven_byts (l := p) (by omega) wp
  have hO := Payout_Digest_eq eight_byts (l := o) (by omega) wo
  have hmx : (maxLen : Int) = 9223372036854775807 := rfl
  have hgn : (List.replicate (p.length : Int).toNat false) = (List.range p.length).map fun _ => false := by rw [Int.toNat_natCast]; exact repl_range _
  have hot : setI (List.replicate (p.length : Int).toNat false) (me : Int) true = (List.range p.length).map fun i => decide (me = i) := by rw [Int.toNat_natCast]; exact repl_set
  have hsg : genL (fun i => decide (i ≠ me)) p.length p.length = (List.range p.length).map fun i => decide (i ≠ me) := by simp [genL]
  have hgone : setI ((List.range p.length).map fun _ => false) (me : Int) true = (List.range p.length).map fun i => decide (me = i) := by rw [← repl_range]; exact repl_set
  unfold F.baizelaw35_CloseMine.l1 F.baizelaw35_CloseMine.c2 F.baizelaw35_CloseMine.c3
  rw [if_neg (by simp), hx, if_pos (by simp; omega), List.nil_append, List.nil_append, hP, Option.bind_some, hO, Option.bind_some, arr_beq]
  have hV := vote_eq seven_byts eight_byts (p := p) (o := o) (by omega) (by omega) wp wo (genL (fun i => decide (i ≠ me)) p.length p.length) (setI (List.replicate (p.length : Int).toNat false) (me : Int) true) (List.replicate (p.length : Int).toNat false) (seats := p.length) (by omega)
  have hAg := fun (m : Nat → Option (Arr Int 8)) (gone : List Bool) (hg : gone.length = p.length) (pot : Int) => Agree_eq (es := voteE m p.length) (by have := voteE_len m p.length; omega) seven_byts (pays := p) (by omega) wp pot (keys := (List.range p.length).map keyN) (by simp; omega) (sigs_byts m p.length) (by simp) (gone := gone) (by omega)
  generalize payD (⟨[7, 0, 0, 0, 0, 0, 0, 0], rfl⟩ : Arr Int 8) p = D at *
  generalize payD (⟨[8, 0, 0, 0, 0, 0, 0, 0], rfl⟩ : Arr Int 8) o = E at *
  by_cases hDE : D = E
  · rw [if_pos (by simpa using hDE), told_ok]
    rfl
  rw [if_neg (by simpa using hDE), hV, Option.bind_some]
  simp only []
  rw [hot, hgn, hsg]
  generalize hm : voteM D E ((List.range p.length).map fun i => decide (i ≠ me)) ((List.range p.length).map fun i => decide (me = i)) = m
  have hmi : ∀ i, i < p.length → m i = if i = me then some E else some D := by
    intro i hi
    rw [← hm]
    unfold voteM
    rw [atB_range _ hi, atB_range _ hi]
    by_cases h : i = me
    · subst h; simp
    · simp [h]
  have hk : ((List.range p.length).map keyN).length = p.length := by simp
  rw [ref_Sum_eq _ (by omega), Option.bind_some]
  generalize hs : sumP p 0 = s at *
  obtain ⟨s1, s2⟩ := s
  simp only []
  by_cases h0 : s2 = 0
  · subst h0
    have hadd := adds_sum h2 h8 (by rw [hs])
    rw [hs] at hadd
    simp only at hadd
    have hm1 : missL (voteE m p.length) D ((List.range p.length).map (voteS m)) ((List.range p.length).map fun _ => false) ((List.range p.length).map keyN) 0 ≠ [] := by
      intro q
      rcases (miss_vote m D _ p.length).1 q me hme with h | h
      · rw [atB_range _ hme] at h; cases h
      · rw [hmi me hme, if_pos rfl] at h
        injection h with h
        exact hDE h.symm
    have hany1 : (((List.range p.length).map fun _ => false).any fun y => false == y) = true := by
      simp only [List.any_map, List.any_eq_true, List.mem_range]
      exact ⟨0, by omega, rfl⟩
    have A1 : F.close_Agree (voteE m p.length) (places (voteE m p.length)) (⟨[7, 0, 0, 0, 0, 0, 0, 0], rfl⟩ : Arr Int 8) p s1 ((List.range p.length).map keyN) ((List.range p.length).map (voteS m)) ((List.range p.length).map fun _ => false) = some 16 := by
      rw [hAg m _ (by simp), hk, hadd, hany1, if_neg hm1]
      simp
    have hm2 : missL (voteE m p.length) D ((List.range p.length).map (voteS m)) ((List.range p.length).map fun i => decide (me = i)) ((List.range p.length).map keyN) 0 = [] := by
      rw [miss_vote]
      intro i hi
      rw [atB_range _ hi, hmi i hi]
      by_cases h : i = me
      · left; simp [h]
      · right; rw [if_neg h]
    have hany2 : (((List.range p.length).map fun i => decide (me = i)).any fun y => false == y) = true := by
      simp only [List.any_map, List.any_eq_true, List.mem_range, Function.comp_apply]
      by_cases h : me = 0
      · exact ⟨1, by omega, by simp [h]⟩
      · exact ⟨0, by omega, by simp [h]⟩
    have A2 : F.close_Agree (voteE m p.length) (places (voteE m p.length)) (⟨[7, 0, 0, 0, 0, 0, 0, 0], rfl⟩ : Arr Int 8) p s1 ((List.range p.length).map keyN) ((List.range p.length).map (voteS m)) ((List.range p.length).map fun i => decide (me = i)) = some 0 := by
      rw [hAg m _ (by simp), hk, hadd, hany2, if_pos hm2]
      simp
    rw [if_neg (c := ((0 : Int) != 0) = true) (by decide), A1, Option.bind_some, if_neg (c := ((16 : Int) != 16) = true) (by decide), if_pos (by simp; omega), A2, Option.bind_some, if_pos (by decide), told_ok]
    rfl
  · have hbad := adds_bad s1 (p := p) (by rw [hs]; exact h0)
    have A0 : F.close_Agree (voteE m p.length) (places (voteE m p.length)) (⟨[7, 0, 0, 0, 0, 0, 0, 0], rfl⟩ : Arr Int 8) p s1 ((List.range p.length).map keyN) ((List.range p.length).map (voteS m)) ((List.range p.length).map fun _ => false) = some (addsP s1 (p.length : Int) p) := by
      rw [hAg m _ (by simp), hk, if_pos hbad]
    rw [if_pos (c := (s2 != 0) = true) (by simpa using h0), A0, Option.bind_some, if_pos (by simpa using hbad), told_ok]
    rfl

theorem mine_l1 (h2 : 2 ≤ p.length) (h8 : p.length ≤ 8) (ho : o.length ≤ 8) (wp : ∀ x ∈ p, I64 x) (wo : ∀ x ∈ o, I64 x) {me : Nat} (hme : me < p.length) {x1 : Int} (hx : (IntKind.i64.wrap x1).tmod (p.length : Int) = (me : Int)) : ∀ (j k i : Nat), i + j = p.length → j < k →
    F.baizelaw35_CloseMine.l1 p o x1 k (genL (fun i => decide (i ≠ me)) p.length i) (i : Int) = some true := by
  intro j
  induction j with
  | zero =>
    intro k i hi hk
    obtain ⟨k, rfl⟩ : ∃ j, k = j + 1 := ⟨k - 1, by omega⟩
    have : i = p.length := by omega
    subst this
    exact mine_end h2 h8 ho wp wo hme hx k
  | succ j ih =>
    intro k i hi hk
    obtain ⟨k, rfl⟩ : ∃ j, k = j + 1 := ⟨k - 1, by omega⟩
    have hq : ((i : Int) != (me : Int)) = decide (i ≠ me) := by
      by_cases h : i = me
      · simp [h]
      · simp [h]; omega
    unfold F.baizelaw35_CloseMine.l1
    rw [if_pos (by simp; omega), if_pos (by rw [gen_len _ (by omega)]; omega), hx, hq, gen_step (fun i => decide (i ≠ me)) (by omega), wrap_succ (by omega) (by omega)]
    have := ih k (i + 1) (by omega) (by omega)
    rw [show (i : Int) + 1 = ((i + 1 : Nat) : Int) by push_cast; rfl]
    exact this
end

theorem law_CloseMine (l0 : (List Int)) (l1 : (List Int)) (a2 : Int) (w0 : (l0.length ≤ maxLen ∧ ∀ y ∈ l0, (Lit.int .i64 y).wf = true)) (w1 : (l1.length ≤ maxLen ∧ ∀ y ∈ l1, (Lit.int .i64 y).wf = true)) (w2 : (Lit.int .u8 a2).wf = true) : F.baizelaw35_CloseMine l0 l1 a2 = some true := by
  have wp := i64_wf w0.2
  have wo := i64_wf w1.2
  have ha := byts_wf (l := [a2]) (by intro y hy; simp only [List.mem_singleton] at hy; subst hy; exact w2) a2 (by simp)
  have hc : ∀ q : Bool, (q = false → 2 ≤ l0.length ∧ l0.length ≤ 8 ∧ l1.length ≤ 8) → F.baizelaw35_CloseMine.c1 l0 l1 a2 q = some true := by
    intro q hq
    unfold F.baizelaw35_CloseMine.c1
    cases q with
    | true => rw [if_pos rfl, told_ok]; rfl
    | false =>
      obtain ⟨b0, b1, b2⟩ := hq rfl
      rw [if_neg (by simp), if_pos (by omega), if_pos (by simp; omega), if_pos (by simp; omega), if_pos (by omega), if_pos (by omega), if_pos (by omega)]
      have hx : (IntKind.i64.wrap a2).tmod (l0.length : Int) = ((a2.toNat % l0.length : Nat) : Int) := by
        rw [wrap_id (by omega) (by omega), Int.tmod_eq_emod_of_nonneg (by omega)]
        push_cast
        rw [show ((a2.toNat : Nat) : Int) = a2 by omega]
      have := mine_l1 b0 b1 b2 wp wo (me := a2.toNat % l0.length) (Nat.mod_lt _ (by omega)) hx l0.length fuel 0 (by omega) (by rw [fuel_eq]; omega)
      simpa [genL] using this
  unfold F.baizelaw35_CloseMine
  by_cases h1 : (l0.length : Int) < 2
  · rw [if_pos (by simpa using h1)]
    exact hc true (by simp)
  rw [if_neg (by simpa using h1)]
  by_cases h2 : (l0.length : Int) > 8
  · rw [if_pos (by simpa using h2)]
    exact hc true (by simp)
  rw [if_neg (by simpa using h2)]
  refine hc _ (fun q => ?_)
  simp only [gt_iff_lt, decide_eq_false_iff_not, Int.not_lt] at q
  omega
end Go.Proofs.Ytahpmlekenbafaa
