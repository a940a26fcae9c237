/-
  Plain facts of things' bytes: what the program tells of a thing, and what it reads.
-/
import Derived.Test.YtlnockimfgfcgaaNumP
import Derived.Test.YtlnockimfgfcgaaNumR
namespace Go.Proofs.Ytlnockimfgfcgaa
open Go.Lab
set_option maxRecDepth 10000

theorem arr_beq {n : Nat} (a b : Arr Int n) : (a.1 == b.1) = decide (a = b) := by
  by_cases h : a = b
  · subst h; simp
  · have : a.1 ≠ b.1 := fun q => h (Subtype.ext q)
    simp [h, this]

theorem known_true : F.baizelaw34_known = some true := by kernel_rfl

/-! ### What may be told -/

def chkT (k n : Int) (b s : List Int) (other : Bool) : Int :=
  if k ≠ 0 ∧ k ≠ 1 then 11 else if other = true then 3 else if n < 0 ∨ n > 1099511627776 ∨ (b.length : Int) > 4096 ∨ (s.length : Int) > 4096 then 2 else 0

theorem rng_eq (n : Int) (b s : List Int) (f : Bool → Option Int) (h1 : f true = some 2) (h2 : f false = some 0) :
    (if decide (n < 0) = true then f true else if decide (n > 1099511627776) = true then f true else if decide ((b.length : Int) > 4096) = true then f true else f (decide ((s.length : Int) > 4096))) =
      some (if n < 0 ∨ n > 1099511627776 ∨ (b.length : Int) > 4096 ∨ (s.length : Int) > 4096 then 2 else 0) := by
  by_cases c1 : n < 0
  · rw [if_pos (by simpa using c1), h1, if_pos (.inl c1)]
  rw [if_neg (by simpa using c1)]
  by_cases c2 : n > 1099511627776
  · rw [if_pos (by simpa using c2), h1, if_pos (.inr (.inl c2))]
  rw [if_neg (by simpa using c2)]
  by_cases c3 : (b.length : Int) > 4096
  · rw [if_pos (by simpa using c3), h1, if_pos (.inr (.inr (.inl c3)))]
  rw [if_neg (by simpa using c3)]
  by_cases c4 : (s.length : Int) > 4096
  · rw [show decide ((s.length : Int) > 4096) = true by simpa using c4, h1, if_pos (.inr (.inr (.inr c4)))]
  · rw [show decide ((s.length : Int) > 4096) = false by simpa using c4, h2, if_neg (by omega)]

/-- A thing's parts as the program has them. -/
def ofT (k : Int) (t : Arr Int 8) (n : Int) (a : Arr Int 8) (b s : List Int) (other : Bool) : Int × (Arr Int 8) × Int × (List Int) × (Arr Int 8) × Int × (Arr Int 8) × (List Int) × (List Int) :=
  if k = 0 then (k, t, n, b, zA 8, (if other = true then 1 else 0), zA 8, [], s) else (k, zA 8, 0, (if other = true then [0] else []), t, n, a, b, s)

theorem Of_eq34 (k : Int) (t : Arr Int 8) (n : Int) (a : Arr Int 8) (b s : List Int) (other : Bool) : F.baizelaw34_Of k t n a b s other = some (ofT k t n a b s other) := by
  unfold F.baizelaw34_Of F.baizelaw34_Of.c1 ofT
  by_cases h : k = 0
  · rw [if_pos (by simpa using h), if_pos h]
    cases other <;> simp
  · rw [if_neg (by simpa using h), if_neg h]
    cases other <;> simp

theorem none_eq (d1 : Arr Int 8) (x : Int) (d2 : Arr Int 8) (l : List Int) : F.punish_body_none d1 x d2 l = some (decide (d1 = zA 8) && (x == 0) && decide (d2 = zA 8) && ((l.length : Int) == 0)) := by
  unfold F.punish_body_none F.punish_body_none.c1
  rw [arr_beq, arr_beq]
  cases decide (d1 = zA 8) <;> cases (x == 0) <;> cases decide (d2 = zA 8) <;> simp

theorem known_eq34 (k : Int) (d1 : Arr Int 8) (x2 : Int) (l1 : List Int) (d2 : Arr Int 8) (x3 : Int) (d3 : Arr Int 8) (l2 l3 : List Int) : F.punish_Thing_known k d1 x2 l1 d2 x3 d3 l2 l3 = some (decide (k = 0 ∨ k = 1)) := by
  unfold F.punish_Thing_known F.punish_Thing_known.c1
  by_cases h0 : k = 0
  · simp [h0]
  · by_cases h1 : k = 1 <;> simp [h0, h1]
theorem own_0 (d1 : Arr Int 8) (x2 : Int) (l1 : List Int) (d2 : Arr Int 8) (x3 : Int) (d3 : Arr Int 8) (l2 l3 : List Int) : F.punish_Thing_own 0 d1 x2 l1 d2 x3 d3 l2 l3 = some (d1, x2, zA 8, l1) := by
  unfold F.punish_Thing_own F.punish_Thing_bodies
  rw [known_eq34]
  rfl
theorem own_1 (d1 : Arr Int 8) (x2 : Int) (l1 : List Int) (d2 : Arr Int 8) (x3 : Int) (d3 : Arr Int 8) (l2 l3 : List Int) : F.punish_Thing_own 1 d1 x2 l1 d2 x3 d3 l2 l3 = some (d2, x3, d3, l2) := by
  unfold F.punish_Thing_own F.punish_Thing_bodies
  rw [known_eq34]
  rfl
theorem chk_0 (d1 : Arr Int 8) (x2 : Int) (l1 : List Int) (d2 : Arr Int 8) (x3 : Int) (d3 : Arr Int 8) (l2 l3 : List Int) : F.punish_Thing_Check 0 d1 x2 l1 d2 x3 d3 l2 l3 =
    some (if (decide (d2 = zA 8) && (x3 == 0) && decide (d3 = zA 8) && ((l2.length : Int) == 0)) = false then 3 else if x2 < 0 ∨ x2 > 1099511627776 ∨ (l1.length : Int) > 4096 ∨ (l3.length : Int) > 4096 then 2 else 0) := by
  unfold F.punish_Thing_Check F.punish_Thing_bodies
  rw [known_eq34, own_0]
  simp only [Option.bind_some]
  rw [if_neg (by decide), if_neg (by decide), if_pos (by decide), none_eq, Option.bind_some]
  cases (decide (d2 = zA 8) && (x3 == 0) && decide (d3 = zA 8) && ((l2.length : Int) == 0)) with
  | false => rfl
  | true =>
    rw [if_neg (by decide)]
    simp only [Bool.true_eq_false, if_false]
    exact rng_eq x2 l1 l3 F.punish_Thing_Check.c2 (by rfl) (by rfl)
theorem chk_1 (d1 : Arr Int 8) (x2 : Int) (l1 : List Int) (d2 : Arr Int 8) (x3 : Int) (d3 : Arr Int 8) (l2 l3 : List Int) : F.punish_Thing_Check 1 d1 x2 l1 d2 x3 d3 l2 l3 =
    some (if (decide (d1 = zA 8) && (x2 == 0) && true && ((l1.length : Int) == 0)) = false then 3 else if x3 < 0 ∨ x3 > 1099511627776 ∨ (l2.length : Int) > 4096 ∨ (l3.length : Int) > 4096 then 2 else 0) := by
  unfold F.punish_Thing_Check F.punish_Thing_bodies
  rw [known_eq34, own_1]
  simp only [Option.bind_some]
  rw [if_neg (by decide), if_pos (by decide), none_eq, Option.bind_some, show decide (zA 8 = zA 8) = true from decide_eq_true rfl]
  cases (decide (d1 = zA 8) && (x2 == 0) && true && ((l1.length : Int) == 0)) with
  | false => rfl
  | true =>
    rw [if_neg (by decide)]
    simp only [Bool.true_eq_false, if_false]
    exact rng_eq x3 l2 l3 F.punish_Thing_Check.c1 (by rfl) (by rfl)

theorem Check_eq34 (k : Int) (t : Arr Int 8) (n : Int) (a : Arr Int 8) (b s : List Int) (other : Bool) :
    F.punish_Thing_Check (ofT k t n a b s other).1 (ofT k t n a b s other).2.1 (ofT k t n a b s other).2.2.1 (ofT k t n a b s other).2.2.2.1 (ofT k t n a b s other).2.2.2.2.1 (ofT k t n a b s other).2.2.2.2.2.1 (ofT k t n a b s other).2.2.2.2.2.2.1 (ofT k t n a b s other).2.2.2.2.2.2.2.1 (ofT k t n a b s other).2.2.2.2.2.2.2.2 = some (chkT k n b s other) := by
  by_cases h0 : k = 0
  · subst h0
    have ho : ofT 0 t n a b s other = (0, t, n, b, zA 8, (if other = true then 1 else 0), zA 8, [], s) := by simp [ofT]
    rw [ho]
    simp only []
    rw [chk_0]
    unfold chkT
    cases other <;> simp
  · by_cases h1 : k = 1
    · subst h1
      have ho : ofT 1 t n a b s other = (1, zA 8, 0, (if other = true then [0] else []), t, n, a, b, s) := by simp [ofT]
      rw [ho]
      simp only []
      rw [chk_1]
      unfold chkT
      cases other <;> simp
    · have ho : (ofT k t n a b s other).1 = k := by unfold ofT; rw [if_neg h0]
      unfold F.punish_Thing_Check chkT
      rw [ho, known_eq34, Option.bind_some, if_pos (by simp [h0, h1]), if_pos ⟨h0, h1⟩]

theorem RefCheck_eq34 (k : Int) (t : Arr Int 8) (n : Int) (a : Arr Int 8) (b s : List Int) (other : Bool) : F.baizeref34_Check k t n a b s other = some (chkT k n b s other) := by
  unfold F.baizeref34_Check F.baizeref34_Check.c1 chkT
  have h := rng_eq n b s F.baizeref34_Check.c2 (by rfl) (by rfl)
  by_cases h0 : k = 0
  · subst h0
    cases other with
    | true => simp
    | false => simpa using h
  · rw [if_pos (by simpa using h0)]
    by_cases h1 : k = 1
    · subst h1
      cases other with
      | true => simp
      | false => simpa using h
    · rw [if_pos (by simpa using h1), if_pos ⟨h0, h1⟩]

/-! ### Bytes -/

def bytB (x : List Int) : List Int := encN (x.length : Int) ++ x
theorem bytB_byts {x : List Int} (h : Byts x) : Byts (bytB x) := (encN_byts _).append h
theorem bytB_len (x : List Int) : (bytB x).length ≤ 10 + x.length := by
  have := encN_len (x.length : Int)
  simp only [bytB, List.length_append]; omega

def allT (k : Int) (t : Arr Int 8) (n : Int) (a : Arr Int 8) (b s : List Int) : List Int :=
  encN k ++ (bytB t.1 ++ (encN n ++ ((if k = 1 then bytB a.1 else []) ++ (bytB b ++ bytB s))))

theorem chkT_ok {k n : Int} {b s : List Int} {other : Bool} (h : chkT k n b s other = 0) : (k = 0 ∨ k = 1) ∧ other = false ∧ (0 ≤ n ∧ n ≤ 1099511627776) ∧ b.length ≤ 4096 ∧ s.length ≤ 4096 := by
  unfold chkT at h
  split at h
  · cases h
  split at h
  · cases h
  split at h
  · cases h
  rename_i h1 h2 h3
  refine ⟨by omega, by simpa using h2, ?_⟩
  omega

theorem allT_len {k n : Int} {t a : Arr Int 8} {b s : List Int} (hb : b.length ≤ 4096) (hs : s.length ≤ 4096) : (allT k t n a b s).length ≤ 10000 := by
  have e1 := encN_len k
  have e2 := encN_len n
  have e3 := bytB_len t.1
  have e4 := bytB_len a.1
  have e5 := bytB_len b
  have e6 := bytB_len s
  have ht := t.2
  have ha := a.2
  unfold allT
  split <;> simp only [List.length_append, List.length_nil] <;> omega

theorem allT_byts {k n : Int} {t a : Arr Int 8} {b s : List Int} (ht : Byts t.1) (ha : Byts a.1) (hb : Byts b) (hs : Byts s) : Byts (allT k t n a b s) := by
  unfold allT
  refine (encN_byts _).append ((bytB_byts ht).append ((encN_byts _).append (Byts.append ?_ ((bytB_byts hb).append (bytB_byts hs)))))
  split
  · exact bytB_byts ha
  · intro y hy; simp at hy

theorem Put_eq {l x : List Int} (hl : l.length + x.length ≤ 140737488350000) : F.octet_PutBytes l x = some (l ++ bytB x) := PutBytes_eq hl

theorem Encode_eq34 (k : Int) (t : Arr Int 8) (n : Int) (a : Arr Int 8) (b s : List Int) (other : Bool) :
    F.punish_Thing_Encode (ofT k t n a b s other).1 (ofT k t n a b s other).2.1 (ofT k t n a b s other).2.2.1 (ofT k t n a b s other).2.2.2.1 (ofT k t n a b s other).2.2.2.2.1 (ofT k t n a b s other).2.2.2.2.2.1 (ofT k t n a b s other).2.2.2.2.2.2.1 (ofT k t n a b s other).2.2.2.2.2.2.2.1 (ofT k t n a b s other).2.2.2.2.2.2.2.2 =
      some (if chkT k n b s other ≠ 0 then ([], chkT k n b s other) else (allT k t n a b s, 0)) := by
  unfold F.punish_Thing_Encode
  rw [Check_eq34, Option.bind_some]
  by_cases hc : chkT k n b s other = 0
  · obtain ⟨hk, ho, hn, hb, hs⟩ := chkT_ok hc
    subst ho
    rw [if_neg (by simpa using hc), if_neg (by simpa using hc)]
    have e1 := encN_len k
    have e2 := encN_len n
    have e3 := bytB_len t.1
    have e4 := bytB_len a.1
    have e5 := bytB_len b
    have ht := t.2
    have ha := a.2
    have wn : IntKind.u64.wrap n = n := by rw [wrap_u64]; omega
    unfold F.punish_Thing_Encode.c1
    rcases hk with rfl | rfl
    · have hof : ofT 0 t n a b s false = (0, t, n, b, zA 8, 0, zA 8, [], s) := by simp [ofT]
      rw [hof]
      simp only []
      rw [own_0, Option.bind_some]
      simp only []
      rw [show IntKind.u64.wrap 0 = 0 from rfl, PutNum_eq (by simp) (by decide) (by decide), Option.bind_some, List.nil_append, Put_eq (by omega), Option.bind_some, wn, PutNum_eq (by simp only [List.length_append]; omega) hn.1 (by omega), Option.bind_some,
        if_neg (by simp), Put_eq (by simp only [List.length_append]; omega), Option.bind_some, Put_eq (by simp only [List.length_append]; omega), Option.bind_some]
      simp [allT]
    · have hof : ofT 1 t n a b s false = (1, zA 8, 0, [], t, n, a, b, s) := by simp [ofT]
      rw [hof]
      simp only []
      rw [own_1, Option.bind_some]
      simp only []
      rw [show IntKind.u64.wrap 1 = 1 from rfl, PutNum_eq (by simp) (by decide) (by decide), Option.bind_some, List.nil_append, Put_eq (by omega), Option.bind_some, wn, PutNum_eq (by simp only [List.length_append]; omega) hn.1 (by omega), Option.bind_some,
        if_pos (by simp), Put_eq (by simp only [List.length_append]; omega), Option.bind_some, Put_eq (by simp only [List.length_append]; omega), Option.bind_some, Put_eq (by simp only [List.length_append]; omega), Option.bind_some]
      simp [allT]
  · rw [if_pos (by simpa using hc), if_pos (by simpa using hc)]

theorem RBytes_eq {x : List Int} (h : x.length ≤ 1000000) : F.baizeref01_Bytes x = some (bytB x) := by
  have e := encN_len (x.length : Int)
  unfold F.baizeref01_Bytes bytB
  rw [show IntKind.u64.wrap (x.length : Int) = (x.length : Int) by rw [wrap_u64]; omega, ref_Num_eq (by omega) (by omega), Option.bind_some, if_pos (by omega)]

theorem RefEncode_eq34 (k : Int) (t : Arr Int 8) (n : Int) (a : Arr Int 8) (b s : List Int) (other : Bool) :
    F.baizeref34_Encode k t n a b s other = some (if chkT k n b s other ≠ 0 then ([], chkT k n b s other) else (allT k t n a b s, 0)) := by
  unfold F.baizeref34_Encode
  rw [RefCheck_eq34, Option.bind_some]
  by_cases hc : chkT k n b s other = 0
  · obtain ⟨hk, ho, hn, hb, hs⟩ := chkT_ok hc
    rw [if_neg (by simpa using hc), if_neg (by simpa using hc)]
    have e1 := encN_len k
    have e2 := encN_len n
    have e3 := bytB_len t.1
    have e4 := bytB_len a.1
    have e5 := bytB_len b
    have e6 := bytB_len s
    have ht := t.2
    have ha := a.2
    have wn : IntKind.u64.wrap n = n := by rw [wrap_u64]; omega
    have wk : IntKind.u64.wrap k = k := by rw [wrap_u64]; omega
    unfold F.baizeref34_Encode.c1
    rw [wk, wn, ref_Num_eq (by omega) (by omega), Option.bind_some, RBytes_eq (by omega), Option.bind_some, if_pos (by omega), ref_Num_eq hn.1 (by omega), Option.bind_some, if_pos (by simp only [List.length_append]; omega), RBytes_eq (by omega), RBytes_eq (by omega), RBytes_eq (by omega)]
    simp only [Option.bind_some]
    rcases hk with rfl | rfl
    · rw [if_neg (by simp), if_pos (by simp only [List.length_append]; omega), if_pos (by simp only [List.length_append]; omega)]
      simp [allT]
    · rw [if_pos (by simp), if_pos (by simp only [List.length_append]; omega), if_pos (by simp only [List.length_append]; omega), if_pos (by simp only [List.length_append]; omega)]
      simp [allT]
  · rw [if_pos (by simpa using hc), if_pos (by simpa using hc)]
end Go.Proofs.Ytlnockimfgfcgaa
