/-
  Plain facts of signed states' bytes: what is told of them, and what is read.
-/
import Derived.Test.YthfmgobnanifnaaStateSame
import Derived.Test.YthfmgobnanifnaaFarR
namespace Go.Proofs.Ythfmgobnanifnaa
open Go.Lab
set_option maxRecDepth 10000

/-! ### What may be told -/

def mayP (n : Int) (b : List Int) (s : List (List Int)) : Bool := (s.all fun z => decide (z.length ≤ 4096)) && decide (0 ≤ n ∧ n ≤ 1099511627776 ∧ b.length ≤ 4096 ∧ 2 ≤ s.length ∧ s.length ≤ 8)

theorem long_l1 {s : List (List Int)} (hl : s.length < 1000000000) : ∀ (r p : List (List Int)) (k : Nat), s = p ++ r → r.length < k →
    ∃ x, F.slices_IndexFunc_byte_byte.l1 s k (p.length : Int) = some x ∧ decide (x ≥ 0) = !(r.all fun z => decide (z.length ≤ 4096)) := by
  intro r
  induction r with
  | nil =>
    intro p k hp hk
    obtain ⟨k, rfl⟩ : ∃ j, k = j + 1 := ⟨k - 1, by omega⟩
    have : s.length = p.length := by rw [hp]; simp
    unfold F.slices_IndexFunc_byte_byte.l1
    rw [if_neg (by simp; omega)]
    exact ⟨-1, rfl, rfl⟩
  | cons z r ih =>
    intro p k hp hk
    obtain ⟨k, rfl⟩ : ∃ j, k = j + 1 := ⟨k - 1, by simp at hk; omega⟩
    have e1 : s.length = p.length + r.length + 1 := by rw [hp]; simp; omega
    have g1 : getI s (p.length : Int) = z := by rw [hp]; exact getI_c rfl
    unfold F.slices_IndexFunc_byte_byte.l1 F.state_Signed_may_1
    rw [if_pos (by simp; omega), if_pos (by omega), g1, Option.bind_some, wrap_succ (by omega) (by omega)]
    by_cases hz : z.length ≤ 4096
    · rw [if_neg (by simp; omega)]
      have := ih (p ++ [z]) k (by rw [hp]; simp) (by simp at hk; omega)
      rw [List.length_append] at this
      simp only [List.length_cons, List.length_nil, Nat.zero_add] at this
      obtain ⟨x, h1, h2⟩ := this
      refine ⟨x, by rw [show (p.length : Int) + 1 = ((p.length + 1 : Nat) : Int) by push_cast; rfl]; exact h1, ?_⟩
      rw [h2, List.all_cons, decide_eq_true hz, Bool.true_and]
    · rw [if_pos (by simp; omega)]
      refine ⟨_, rfl, ?_⟩
      rw [List.all_cons, decide_eq_false hz, Bool.false_and]
      simp

theorem may_eq (d : Arr Int 8) (n : Int) (b : List Int) {s : List (List Int)} (hl : s.length < 1000000000) : F.state_Signed_may d n b s = some (mayP n b s) := by
  obtain ⟨x, h1, h2⟩ := long_l1 hl s [] fuel (by simp) (by rw [fuel_eq]; omega)
  simp only [List.length_nil, Int.natCast_zero] at h1
  unfold F.state_Signed_may F.state_Signed_may.c1 F.slices_ContainsFunc_byte_byte F.slices_IndexFunc_byte_byte mayP
  rw [h1, Option.bind_some, Option.bind_some, h2, Bool.not_not]
  cases s.all fun z => decide (z.length ≤ 4096) with
  | false => rw [if_neg (by decide), Bool.false_and]
  | true =>
    rw [if_pos rfl, Bool.true_and]
    by_cases c1 : n ≥ 0
    · rw [if_pos (by simpa using c1)]
      by_cases c2 : n ≤ 1099511627776
      · rw [if_pos (by simpa using c2)]
        by_cases c3 : (b.length : Int) ≤ 4096
        · rw [if_pos (by simpa using c3)]
          by_cases c4 : (s.length : Int) ≥ 2
          · rw [if_pos (by simpa using c4)]
            congr 1
            exact decide_eq_decide.2 (by omega)
          · rw [if_neg (by simpa using c4), decide_eq_false (by omega)]
        · rw [if_neg (by simpa using c3), decide_eq_false (by omega)]
      · rw [if_neg (by simpa using c2), decide_eq_false (by omega)]
    · rw [if_neg (by simpa using c1), decide_eq_false (by omega)]

theorem right_l1 {s : List (List Int)} (hl : s.length < 1000000000) : ∀ (r p : List (List Int)) (k : Nat), s = p ++ r → r.length < k →
    F.baizeref32_Right.l1 s k (p.length : Int) = some (r.all fun z => decide (z.length ≤ 4096)) := by
  intro r
  induction r with
  | nil =>
    intro p k hp hk
    obtain ⟨k, rfl⟩ : ∃ j, k = j + 1 := ⟨k - 1, by omega⟩
    have : s.length = p.length := by rw [hp]; simp
    unfold F.baizeref32_Right.l1
    rw [if_neg (by simp; omega)]
    rfl
  | cons z r ih =>
    intro p k hp hk
    obtain ⟨k, rfl⟩ : ∃ j, k = j + 1 := ⟨k - 1, by simp at hk; omega⟩
    have e1 : s.length = p.length + r.length + 1 := by rw [hp]; simp; omega
    have g1 : getI s (p.length : Int) = z := by rw [hp]; exact getI_c rfl
    unfold F.baizeref32_Right.l1
    rw [if_pos (by simp; omega), if_pos (by omega), g1, wrap_succ (by omega) (by omega)]
    by_cases hz : z.length ≤ 4096
    · rw [if_neg (by simp; omega)]
      have := ih (p ++ [z]) k (by rw [hp]; simp) (by simp at hk; omega)
      rw [List.length_append] at this
      simp only [List.length_cons, List.length_nil, Nat.zero_add] at this
      rw [show (p.length : Int) + 1 = ((p.length + 1 : Nat) : Int) by push_cast; rfl, this, List.all_cons, decide_eq_true hz, Bool.true_and]
    · rw [if_pos (by simp; omega), List.all_cons, decide_eq_false hz, Bool.false_and]

theorem right_eq (d : Arr Int 8) (n : Int) (b : List Int) {s : List (List Int)} (hl : s.length < 1000000000) : F.baizeref32_Right d n b s = some (mayP n b s) := by
  have h1 := right_l1 hl s [] fuel (by simp) (by rw [fuel_eq]; omega)
  simp only [List.length_nil, Int.natCast_zero] at h1
  unfold F.baizeref32_Right F.baizeref32_Right.c1 mayP
  by_cases c1 : n < 0
  · rw [if_pos (by simpa using c1), if_pos rfl, decide_eq_false (by omega), Bool.and_false]
  rw [if_neg (by simpa using c1)]
  by_cases c2 : n > 1099511627776
  · rw [if_pos (by simpa using c2), if_pos rfl, decide_eq_false (by omega), Bool.and_false]
  rw [if_neg (by simpa using c2)]
  by_cases c3 : (b.length : Int) > 4096
  · rw [if_pos (by simpa using c3), if_pos rfl, decide_eq_false (by omega), Bool.and_false]
  rw [if_neg (by simpa using c3)]
  by_cases c4 : (s.length : Int) < 2
  · rw [if_pos (by simpa using c4), if_pos rfl, decide_eq_false (by omega), Bool.and_false]
  rw [if_neg (by simpa using c4)]
  by_cases c5 : (s.length : Int) > 8
  · rw [if_pos (by simpa using c5), decide_eq_false (by omega), Bool.and_false]
  rw [if_neg (by simpa using c5), h1, decide_eq_true (by omega), Bool.and_true]

theorem may_ok {n : Int} {b : List Int} {s : List (List Int)} (h : mayP n b s = true) : (0 ≤ n ∧ n ≤ 1099511627776) ∧ b.length ≤ 4096 ∧ 2 ≤ s.length ∧ s.length ≤ 8 ∧ ∀ z ∈ s, z.length ≤ 4096 := by
  unfold mayP at h
  rw [Bool.and_eq_true, decide_eq_true_eq] at h
  obtain ⟨h1, h2⟩ := h
  exact ⟨by omega, by omega, by omega, by omega, fun z hz => by have := List.all_eq_true.1 h1 z hz; simpa using this⟩

/-! ### Bytes -/

def sigsB (s : List (List Int)) : List Int := (s.map bytB).flatten
def allS (d : Arr Int 8) (n : Int) (b : List Int) (s : List (List Int)) : List Int := bytB d.1 ++ (encN n ++ (bytB b ++ (encN (s.length : Int) ++ sigsB s)))

theorem sigsB_len : ∀ {s : List (List Int)}, (∀ z ∈ s, z.length ≤ 4096) → (sigsB s).length ≤ 4106 * s.length
  | [], _ => by simp [sigsB]
  | z :: s, h => by
    have ih := sigsB_len (s := s) (fun y hy => h y (by simp [hy]))
    have h1 := bytB_len z
    have h2 := h z (by simp)
    simp only [sigsB, List.map_cons, List.flatten_cons, List.length_append, List.length_cons] at ih ⊢
    omega

theorem sigsB_byts : ∀ {s : List (List Int)}, (∀ z ∈ s, Byts z) → Byts (sigsB s)
  | [], _ => by intro y hy; simp [sigsB] at hy
  | z :: s, h => by
    have ih := sigsB_byts (s := s) (fun y hy => h y (by simp [hy]))
    exact (bytB_byts (h z (by simp))).append ih

theorem allS_len {d : Arr Int 8} {n : Int} {b : List Int} {s : List (List Int)} (hb : b.length ≤ 4096) (hs : s.length ≤ 8) (hz : ∀ z ∈ s, z.length ≤ 4096) : (allS d n b s).length ≤ 40000 := by
  have h1 := bytB_len d.1
  have h2 := d.2
  have h3 := encN_len n
  have h4 := bytB_len b
  have h5 := encN_len (s.length : Int)
  have h6 := sigsB_len hz
  unfold allS
  simp only [List.length_append]
  omega
theorem allS_byts {d : Arr Int 8} {n : Int} {b : List Int} {s : List (List Int)} (hd : Byts d.1) (hb : Byts b) (hs : ∀ z ∈ s, Byts z) : Byts (allS d n b s) :=
  (bytB_byts hd).append ((encN_byts _).append ((bytB_byts hb).append ((encN_byts _).append (sigsB_byts hs))))

theorem PutB_eq {l x : List Int} (hl : l.length + x.length ≤ 140737488350000) : F.octet_PutBytes l x = some (l ++ bytB x) := PutBytes_eq hl

theorem Encode_l1 {s : List (List Int)} (hl : s.length ≤ 8) (hz : ∀ z ∈ s, z.length ≤ 4096) : ∀ (r p : List (List Int)) (k : Nat) (acc : List Int), s = p ++ r → r.length < k → acc.length + 4106 * r.length ≤ 100000 →
    F.state_Signed_Encode.l1 s k acc (p.length : Int) = some (acc ++ sigsB r, 0) := by
  intro r
  induction r with
  | nil =>
    intro p k acc hp hk ha
    obtain ⟨k, rfl⟩ : ∃ j, k = j + 1 := ⟨k - 1, by omega⟩
    have : s.length = p.length := by rw [hp]; simp
    unfold F.state_Signed_Encode.l1
    rw [if_neg (by simp; omega)]
    simp [sigsB]
  | cons z r ih =>
    intro p k acc hp hk ha
    obtain ⟨k, rfl⟩ : ∃ j, k = j + 1 := ⟨k - 1, by simp at hk; omega⟩
    have e1 : s.length = p.length + r.length + 1 := by rw [hp]; simp; omega
    have g1 : getI s (p.length : Int) = z := by rw [hp]; exact getI_c rfl
    have h1 := bytB_len z
    have h2 := hz z (by rw [hp]; simp)
    simp only [List.length_cons] at ha
    unfold F.state_Signed_Encode.l1
    rw [if_pos (by simp; omega), if_pos (by omega), g1, PutB_eq (by omega), Option.bind_some, wrap_succ (by omega) (by omega)]
    have := ih (p ++ [z]) k (acc ++ bytB z) (by rw [hp]; simp) (by simp at hk; omega) (by rw [List.length_append]; omega)
    rw [show (p ++ [z]).length = p.length + 1 by simp] at this
    rw [show (p.length : Int) + 1 = ((p.length + 1 : Nat) : Int) by push_cast; rfl, this]
    simp [sigsB]

theorem Encode_eq (d : Arr Int 8) (n : Int) (b : List Int) {s : List (List Int)} (hl : s.length < 1000000000) : F.state_Signed_Encode d n b s = some (if mayP n b s = true then (allS d n b s, 0) else ([], 2)) := by
  unfold F.state_Signed_Encode
  rw [may_eq d n b hl, Option.bind_some]
  cases hm : mayP n b s with
  | false => rw [if_pos (by decide), if_neg (by decide)]
  | true =>
    obtain ⟨hn, hb, h2, h8, hz⟩ := may_ok hm
    have h1 := bytB_len d.1
    have h2 := d.2
    have h3 := encN_len n
    have h4 := bytB_len b
    have h5 := encN_len (s.length : Int)
    rw [if_neg (by decide), if_pos rfl, PutB_eq (by simp; omega), Option.bind_some, List.nil_append, show IntKind.u64.wrap n = n by rw [wrap_u64]; omega, PutNum_eq (by omega) hn.1 (by omega), Option.bind_some, PutB_eq (by simp only [List.length_append]; omega), Option.bind_some,
      show IntKind.u64.wrap (s.length : Int) = (s.length : Int) by rw [wrap_u64]; omega, PutNum_eq (by simp only [List.length_append]; omega) (by omega) (by omega), Option.bind_some]
    have := Encode_l1 h8 hz s [] fuel (((bytB d.1 ++ encN n) ++ bytB b) ++ encN (s.length : Int)) (by simp) (by rw [fuel_eq]; omega) (by simp only [List.length_append]; omega)
    simp only [List.length_nil, Int.natCast_zero] at this
    rw [this]
    simp [allS]

theorem rEncode_l1 {s : List (List Int)} (hl : s.length ≤ 8) (hz : ∀ z ∈ s, z.length ≤ 4096) : ∀ (r p : List (List Int)) (k : Nat) (acc : List Int), s = p ++ r → r.length < k → acc.length + 4106 * r.length ≤ 100000 →
    F.baizeref32_Encode.l1 s k acc (p.length : Int) = some (acc ++ sigsB r) := by
  intro r
  induction r with
  | nil =>
    intro p k acc hp hk ha
    obtain ⟨k, rfl⟩ : ∃ j, k = j + 1 := ⟨k - 1, by omega⟩
    have : s.length = p.length := by rw [hp]; simp
    unfold F.baizeref32_Encode.l1
    rw [if_neg (by simp; omega)]
    simp [sigsB]
  | cons z r ih =>
    intro p k acc hp hk ha
    obtain ⟨k, rfl⟩ : ∃ j, k = j + 1 := ⟨k - 1, by simp at hk; omega⟩
    have e1 : s.length = p.length + r.length + 1 := by rw [hp]; simp; omega
    have g1 : getI s (p.length : Int) = z := by rw [hp]; exact getI_c rfl
    have h1 := bytB_len z
    have h2 := hz z (by rw [hp]; simp)
    simp only [List.length_cons] at ha
    unfold F.baizeref32_Encode.l1
    rw [if_pos (by simp; omega), if_pos (by omega), g1, rBytes_eq (by omega), Option.bind_some, if_pos (by omega), wrap_succ (by omega) (by omega)]
    have := ih (p ++ [z]) k (acc ++ bytB z) (by rw [hp]; simp) (by simp at hk; omega) (by rw [List.length_append]; omega)
    rw [show (p ++ [z]).length = p.length + 1 by simp] at this
    rw [show (p.length : Int) + 1 = ((p.length + 1 : Nat) : Int) by push_cast; rfl, this]
    simp [sigsB]

theorem rEncode_eq (d : Arr Int 8) {n : Int} {b : List Int} {s : List (List Int)} (hm : mayP n b s = true) : F.baizeref32_Encode d n b s = some (allS d n b s) := by
  obtain ⟨hn, hb, h2, h8, hz⟩ := may_ok hm
  have h1 := bytB_len d.1
  have h2 := d.2
  have h3 := encN_len n
  have h4 := bytB_len b
  have h5 := encN_len (s.length : Int)
  unfold F.baizeref32_Encode
  rw [rBytes_eq (by omega), Option.bind_some, show IntKind.u64.wrap n = n by rw [wrap_u64]; omega, ref_Num_eq hn.1 (by omega), Option.bind_some, if_pos (by omega), rBytes_eq (by omega), Option.bind_some, if_pos (by simp only [List.length_append]; omega),
    show IntKind.u64.wrap (s.length : Int) = (s.length : Int) by rw [wrap_u64]; omega, ref_Num_eq (by omega) (by omega), Option.bind_some, if_pos (by simp only [List.length_append]; omega)]
  have := rEncode_l1 h8 hz s [] fuel (((bytB d.1 ++ encN n) ++ bytB b) ++ encN (s.length : Int)) (by simp) (by rw [fuel_eq]; omega) (by simp only [List.length_append]; omega)
  simp only [List.length_nil, Int.natCast_zero] at this
  rw [this]
  simp [allS]

/-! ### What is read -/

abbrev Sg := Arr Int 8 × Int × List Int × List (List Int) × Int
def badS (e : Int) : Sg := (zA 8, 0, [], [], e)
def rdS : Nat → List Int → Int → List (List Int) × List Int × Int
  | 0, l, e => ([], l, e)
  | k + 1, l, e => ((rdB l e 4096).1 :: (rdS k (rdB l e 4096).2.1 (rdB l e 4096).2.2).1, (rdS k (rdB l e 4096).2.1 (rdB l e 4096).2.2).2.1, (rdS k (rdB l e 4096).2.1 (rdB l e 4096).2.2).2.2)
def finS (d : Arr Int 8) (n : Int) (b : List Int) (acc : List (List Int)) (q : List (List Int) × List Int × Int) : Sg := if endX q.2.1 q.2.2 ≠ 0 then badS (endX q.2.1 q.2.2) else (d, n, b, acc ++ q.1, 0)
def decS (B : List Int) : Sg :=
  if (rdB B 0 8).2.2 ≠ 0 then badS (rdB B 0 8).2.2 else if (rdB B 0 8).1.length ≠ 8 then badS 3
  else if (rd (rdB B 0 8).2.1 0 1099511627776).2.2 ≠ 0 then badS (rd (rdB B 0 8).2.1 0 1099511627776).2.2
  else if (rdB (rd (rdB B 0 8).2.1 0 1099511627776).2.1 0 4096).2.2 ≠ 0 then badS (rdB (rd (rdB B 0 8).2.1 0 1099511627776).2.1 0 4096).2.2
  else if (rd (rdB (rd (rdB B 0 8).2.1 0 1099511627776).2.1 0 4096).2.1 0 8).2.2 ≠ 0 then badS (rd (rdB (rd (rdB B 0 8).2.1 0 1099511627776).2.1 0 4096).2.1 0 8).2.2
  else if (rd (rdB (rd (rdB B 0 8).2.1 0 1099511627776).2.1 0 4096).2.1 0 8).1 < 2 then badS 3
  else finS (copyA (zA 8) (rdB B 0 8).1) (rd (rdB B 0 8).2.1 0 1099511627776).1 (rdB (rd (rdB B 0 8).2.1 0 1099511627776).2.1 0 4096).1 []
    (rdS (rd (rdB (rd (rdB B 0 8).2.1 0 1099511627776).2.1 0 4096).2.1 0 8).1.toNat (rd (rdB (rd (rdB B 0 8).2.1 0 1099511627776).2.1 0 4096).2.1 0 8).2.1 0)

theorem rdS_keep {l : List Int} {e : Int} (he : e ≠ 0) : ∀ k, (rdS k l e).2 = (l, e)
  | 0 => rfl
  | k + 1 => by
    simp only [rdS]
    rw [rdB_keep he]
    exact rdS_keep he k

theorem fin_bad (d : Arr Int 8) (n : Int) (b : List Int) (acc : List (List Int)) (k : Nat) {l : List Int} {e : Int} (he : e ≠ 0) : finS d n b acc (rdS k l e) = badS e := by
  have h := rdS_keep (l := l) he k
  unfold finS
  rw [h]
  unfold endX
  rw [if_pos he, if_pos he]

theorem fin_0 (d : Arr Int 8) (n : Int) (b : List Int) (acc : List (List Int)) (l : List Int) (e : Int) : finS d n b acc ([], l, e) = if endX l e ≠ 0 then badS (endX l e) else (d, n, b, acc, 0) := by
  unfold finS
  simp only [List.append_nil]

theorem fin_cons (d : Arr Int 8) (n : Int) (b : List Int) (acc : List (List Int)) (j : Nat) (l : List Int) (e : Int) : finS d n b acc (rdS (j + 1) l e) = finS d n b (acc ++ [(rdB l e 4096).1]) (rdS j (rdB l e 4096).2.1 (rdB l e 4096).2.2) := by
  have e1 : rdS (j + 1) l e = ((rdB l e 4096).1 :: (rdS j (rdB l e 4096).2.1 (rdB l e 4096).2.2).1, (rdS j (rdB l e 4096).2.1 (rdB l e 4096).2.2).2.1, (rdS j (rdB l e 4096).2.1 (rdB l e 4096).2.2).2.2) := rfl
  rw [e1]
  generalize rdS j (rdB l e 4096).2.1 (rdB l e 4096).2.2 = q
  unfold finS
  rw [List.append_assoc]
  rfl

section
variable {d : Arr Int 8} {n : Int} {b : List Int}

theorem dec_l1 {m : Int} (hm : m ≤ 8) : ∀ (j k i : Nat) (l : List Int) (e : Int) (acc : List (List Int)), m = ((i + j : Nat) : Int) → j < k → Byts l → l.length ≤ 140737488355328 → acc.length ≤ i →
    F.state_Decode.l1 m k d n b acc l e e (i : Int) = some (finS d n b acc (rdS j l e)) := by
  intro j
  induction j with
  | zero =>
    intro k i l e acc hi hk hb hl ha
    obtain ⟨k, rfl⟩ : ∃ j, k = j + 1 := ⟨k - 1, by omega⟩
    unfold F.state_Decode.l1 F.state_Decode.c1
    rw [if_neg (by simp; omega)]
    by_cases he : e = 0
    · subst he
      rw [if_pos (by decide), Reader_End_eq, Option.bind_some]
      have hE : (if (0 : Int) ≠ 0 then (0 : Int) else if l.length > 0 then 5 else 0) = endX l 0 := rfl
      rw [hE]
      rw [show rdS 0 l 0 = ([], l, 0) from rfl, fin_0]
      by_cases hx : endX l 0 = 0
      · rw [if_neg (by simpa using hx), if_neg (c := endX l 0 ≠ 0) (by simpa using hx)]
      · rw [if_pos (by simpa using hx), if_pos (c := endX l 0 ≠ 0) hx]
        rfl
    · rw [if_neg (by simpa using he), if_pos (by simpa using he), fin_bad d n b acc 0 he]
      rfl
  | succ j ih =>
    intro k i l e acc hi hk hb hl ha
    obtain ⟨k, rfl⟩ : ∃ j, k = j + 1 := ⟨k - 1, by omega⟩
    unfold F.state_Decode.l1 F.state_Decode_1_9
    rw [if_pos (by simp; omega), wrap_succ (by omega) (by omega), show (i : Int) + 1 = ((i + 1 : Nat) : Int) by push_cast; rfl]
    by_cases he : e = 0
    · subst he
      obtain ⟨q, _, hq⟩ := rdB_left l 0 4096
      have b1 := (rdB_byts hb 0 4096).2
      have l1 : (rdB l 0 4096).2.1.length ≤ l.length := by rw [hq, List.length_drop]; omega
      unfold F.state_Decode_6_2 F.octet_Reader_Err
      rw [if_neg (by decide), Reader_Bytes_eq hb hl 0 (by decide) (by decide), Option.bind_some]
      have hr : rdS (j + 1) l 0 = ((rdB l 0 4096).1 :: (rdS j (rdB l 0 4096).2.1 (rdB l 0 4096).2.2).1, (rdS j (rdB l 0 4096).2.1 (rdB l 0 4096).2.2).2.1, (rdS j (rdB l 0 4096).2.1 (rdB l 0 4096).2.2).2.2) := rfl
      rw [hr]
      generalize rdB l 0 4096 = p at b1 l1 ⊢
      obtain ⟨x, y, z⟩ := p
      simp only [] at b1 l1 ⊢
      rw [if_pos (by simp; omega), Option.bind_some]
      simp only [Option.bind_some]
      have hI := ih k (i + 1) y z (acc ++ [x]) (by omega) (by omega) b1 (by omega) (by simp; omega)
      have hfin : finS d n b (acc ++ [x]) (rdS j y z) = finS d n b acc (x :: (rdS j y z).1, (rdS j y z).2.1, (rdS j y z).2.2) := by
        unfold finS
        simp
      by_cases hz : z = 0
      · subst hz
        rw [if_neg (by decide), if_neg (by decide), Option.bind_some]
        simp only []
        rw [hI, hfin]
      · rw [if_pos (by simpa using hz), Option.bind_some]
        simp only []
        rw [hI, hfin]
    · rw [if_pos (by simpa using he), Option.bind_some]
      simp only []
      rw [ih k (i + 1) l e acc (by omega) (by omega) hb hl (by omega), fin_bad d n b acc j he, fin_bad d n b acc (j + 1) he]

/-- Nothing more is read when something is wrong. -/
theorem dec_stuck {m : Int} (hm : m ≤ 8) {e w : Int} (hw : w ≠ 0) (l : List Int) (acc : List (List Int)) : ∀ (j k i : Nat), m ≤ ((i + j : Nat) : Int) → j < k → F.state_Decode.l1 m k d n b acc l e w (i : Int) = some (badS w) := by
  intro j
  induction j with
  | zero =>
    intro k i hi hk
    obtain ⟨k, rfl⟩ : ∃ j, k = j + 1 := ⟨k - 1, by omega⟩
    unfold F.state_Decode.l1 F.state_Decode.c1
    rw [if_neg (by simp; omega), if_neg (by simpa using hw), if_pos (by simpa using hw)]
    rfl
  | succ j ih =>
    intro k i hi hk
    obtain ⟨k, rfl⟩ : ∃ j, k = j + 1 := ⟨k - 1, by omega⟩
    by_cases hc : (i : Int) < m
    · unfold F.state_Decode.l1 F.state_Decode_1_9
      rw [if_pos (by simpa using hc), if_pos (by simpa using hw), Option.bind_some]
      simp only []
      rw [wrap_succ (by omega) (by omega), show (i : Int) + 1 = ((i + 1 : Nat) : Int) by push_cast; rfl]
      exact ih k (i + 1) (by omega) (by omega)
    · unfold F.state_Decode.l1 F.state_Decode.c1
      rw [if_neg (by simpa using hc), if_neg (by simpa using hw), if_pos (by simpa using hw)]
      rfl
end

theorem Clone_S {l : List Int} (h : l.length ≤ 140737488355328) : F.slices_Clone_byte_byte l = some l := by
  unfold F.slices_Clone_byte_byte F.slices_Clone_byte_byte_some
  rw [if_pos (by rw [List.length_nil, Nat.zero_add]; exact h)]
  rfl

theorem Decode_eq {B : List Int} (hb : Byts B) (hl : B.length ≤ 140737488355328) : F.state_Decode B = some (decS B) := by
  have stop : ∀ (d : Arr Int 8) (n : Int) (b : List Int) (l : List Int) (e w : Int), w ≠ 0 → F.state_Decode.l1 0 fuel d n b [] l e w 0 = some (badS w) := fun d n b l e w hw => dec_stuck (m := 0) (by decide) hw l [] 0 fuel 0 (by decide) (by rw [fuel_eq]; omega)
  obtain ⟨q1, _, h1⟩ := rdB_left B 0 8
  have b1 := (rdB_byts hb 0 8).2
  have l1 : (rdB B 0 8).2.1.length ≤ B.length := by rw [h1, List.length_drop]; omega
  unfold F.state_Decode F.octet_NewReader decS
  rw [Clone_S hl, Option.bind_some, Option.bind_some]
  simp only []
  unfold F.state_Decode_1_2 F.state_Decode_2_2 F.octet_Reader_Err
  rw [if_neg (by decide), Reader_Bytes_eq hb hl 0 (by decide) (by decide), Option.bind_some]
  generalize rdB B 0 8 = t at b1 l1 ⊢
  obtain ⟨x, r1, e1⟩ := t
  simp only [Option.bind_some] at b1 l1 ⊢
  by_cases he1 : e1 = 0
  case neg =>
    rw [if_pos (by simpa using he1), Option.bind_some, if_pos (c := e1 ≠ 0) he1]
    simp only []
    unfold F.state_Decode_1_4 F.state_Decode_1_6 F.state_Decode_1_7
    rw [if_pos (by simpa using he1), Option.bind_some]
    simp only []
    rw [if_pos (by simpa using he1), Option.bind_some]
    simp only []
    rw [if_pos (by simpa using he1), Option.bind_some]
    simp only []
    exact stop _ _ _ _ _ _ he1
  subst he1
  rw [if_neg (c := ((0 : Int) != 0) = true) (by decide), if_neg (c := (0 : Int) ≠ 0) (by decide)]
  by_cases h8 : x.length = 8
  case neg =>
    rw [if_pos (by simp; omega), Option.bind_some, if_pos (c := x.length ≠ 8) h8]
    simp only []
    unfold F.state_Decode_1_4 F.state_Decode_1_6 F.state_Decode_1_7
    rw [if_pos (by decide), Option.bind_some]
    simp only []
    rw [if_pos (by decide), Option.bind_some]
    simp only []
    rw [if_pos (by decide), Option.bind_some]
    simp only []
    exact stop _ _ _ _ _ _ (by decide)
  rw [if_neg (by simp [h8]), Option.bind_some, if_neg (c := x.length ≠ 8) (by simpa using h8)]
  simp only []
  have g2 := rd_num0 b1 0 (most := 1099511627776) (by decide)
  have b2 := rd_byts b1 0 1099511627776
  have l2 := rd_len r1 0 1099511627776
  unfold F.state_Decode_1_4 F.state_Decode_3_2 F.octet_Reader_Err
  rw [if_neg (by decide), Reader_Num_eq b1 (by omega), Option.bind_some]
  generalize rd r1 0 1099511627776 = u at g2 b2 l2 ⊢
  obtain ⟨n, r2, e2⟩ := u
  simp only [Option.bind_some] at g2 b2 l2 ⊢
  by_cases he2 : e2 = 0
  case neg =>
    rw [if_pos (by simpa using he2), Option.bind_some, if_pos (c := e2 ≠ 0) he2]
    simp only []
    unfold F.state_Decode_1_6 F.state_Decode_1_7
    rw [if_pos (by simpa using he2), Option.bind_some]
    simp only []
    rw [if_pos (by simpa using he2), Option.bind_some]
    simp only []
    exact stop _ _ _ _ _ _ he2
  subst he2
  rw [if_neg (c := ((0 : Int) != 0) = true) (by decide), if_neg (c := (0 : Int) ≠ 0) (by decide), if_neg (by decide), Option.bind_some]
  simp only []
  obtain ⟨q3, _, h3⟩ := rdB_left r2 0 4096
  have b3 := (rdB_byts b2 0 4096).2
  have l3 : (rdB r2 0 4096).2.1.length ≤ r2.length := by rw [h3, List.length_drop]; omega
  unfold F.state_Decode_1_6 F.state_Decode_4_2 F.octet_Reader_Err
  rw [if_neg (by decide), Reader_Bytes_eq b2 (by omega) 0 (by decide) (by decide), Option.bind_some]
  generalize rdB r2 0 4096 = v at b3 l3 ⊢
  obtain ⟨b, r3, e3⟩ := v
  simp only [Option.bind_some] at b3 l3 ⊢
  by_cases he3 : e3 = 0
  case neg =>
    rw [if_pos (by simpa using he3), Option.bind_some, if_pos (c := e3 ≠ 0) he3]
    simp only []
    unfold F.state_Decode_1_7
    rw [if_pos (by simpa using he3), Option.bind_some]
    simp only []
    exact stop _ _ _ _ _ _ he3
  subst he3
  rw [if_neg (c := ((0 : Int) != 0) = true) (by decide), if_neg (c := (0 : Int) ≠ 0) (by decide), if_neg (by decide), Option.bind_some]
  simp only []
  have g4 := rd_num0 b3 0 (most := 8) (by decide)
  have b4 := rd_byts b3 0 8
  have l4 := rd_len r3 0 8
  unfold F.state_Decode_1_7 F.state_Decode_5 F.octet_Reader_Err
  rw [if_neg (by decide), Reader_Num_eq b3 (by omega), Option.bind_some]
  generalize rd r3 0 8 = w at g4 b4 l4 ⊢
  obtain ⟨m, r4, e4⟩ := w
  simp only [Option.bind_some] at g4 b4 l4 ⊢
  have wm : IntKind.i64.wrap m = m := wrap_id (by omega) (by omega)
  have wn : IntKind.i64.wrap n = n := wrap_id (by omega) (by omega)
  rw [wm, wn]
  by_cases he4 : e4 = 0
  case neg =>
    rw [if_pos (by simpa using he4), Option.bind_some, if_pos (c := e4 ≠ 0) he4]
    simp only []
    exact dec_stuck g4.2 he4 r4 [] 8 fuel 0 (by omega) (by rw [fuel_eq]; omega)
  subst he4
  rw [if_neg (c := ((0 : Int) != 0) = true) (by decide), if_neg (c := (0 : Int) ≠ 0) (by decide)]
  by_cases hm : m < 2
  · rw [if_pos (by simp; omega), Option.bind_some, if_pos (c := m < 2) hm]
    simp only []
    exact dec_stuck g4.2 (by decide) r4 [] 8 fuel 0 (by omega) (by rw [fuel_eq]; omega)
  · rw [if_neg (by simp; omega), Option.bind_some, if_neg (c := m < 2) hm]
    simp only []
    exact dec_l1 g4.2 m.toNat fuel 0 r4 0 [] (by omega) (by rw [fuel_eq]; omega) b4 (by omega) (Nat.le_refl _)
end Go.Proofs.Ythfmgobnanifnaa
