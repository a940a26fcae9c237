/-
  Plain facts of things: what may be told of them, and what they have.
-/
import Derived.Test.YtlnockimfgfcgaaStateRef
import Derived.Test.YtlnockimfgfcgaaNotaryMiss
import Derived.Test.YtlnockimfgfcgaaThingS
namespace Go.Proofs.Ytlnockimfgfcgaa
open Go.Lab
set_option maxRecDepth 10000

theorem known_true : F.baizelaw34_known = some true := by kernel_rfl

theorem rng_eq (n : Int) (b s : List Int) (f : Bool → Option Int) (h1 : f true = some 2) (h2 : f false = some 0) :
    (if decide (n < 0) = true then f true else if decide (n > 1099511627776) = true then f true else if decide ((b.length : Int) > 4096) = true then f true else f (decide ((s.length : Int) > 4096))) =
      some (if n < 0 ∨ n > 1099511627776 ∨ (b.length : Int) > 4096 ∨ (s.length : Int) > 4096 then 2 else 0) := by
  by_cases c1 : n < 0
  · rw [if_pos (by simpa using c1), h1, if_pos (.inl c1)]
  rw [if_neg (by simpa using c1)]
  by_cases c2 : n > 1099511627776
  · rw [if_pos (by simpa using c2), h1, if_pos (.inr (.inl c2))]
  rw [if_neg (by simpa using c2)]
  by_cases c3 : (b.length : Int) > 4096
  · rw [if_pos (by simpa using c3), h1, if_pos (.inr (.inr (.inl c3)))]
  rw [if_neg (by simpa using c3)]
  by_cases c4 : (s.length : Int) > 4096
  · rw [show decide ((s.length : Int) > 4096) = true by simpa using c4, h1, if_pos (.inr (.inr (.inr c4)))]
  · rw [show decide ((s.length : Int) > 4096) = false by simpa using c4, h2, if_neg (by omega)]

/-- A thing's parts as the program has them. -/
def ofT (k : Int) (t : Arr Int 8) (n : Int) (a : Arr Int 8) (b s : List Int) (other : Bool) : Int × (Arr Int 8) × Int × (List Int) × (Arr Int 8) × Int × (Arr Int 8) × (List Int) × (List Int) :=
  if k = 0 then (k, t, n, b, zA 8, (if other = true then 1 else 0), zA 8, [], s) else (k, zA 8, 0, (if other = true then [0] else []), t, n, a, b, s)

theorem Of_eq34 (k : Int) (t : Arr Int 8) (n : Int) (a : Arr Int 8) (b s : List Int) (other : Bool) : F.baizelaw34_Of k t n a b s other = some (ofT k t n a b s other) := by
  unfold F.baizelaw34_Of F.baizelaw34_Of.c1 ofT
  by_cases h : k = 0
  · rw [if_pos (by simpa using h), if_pos h]
    cases other <;> simp
  · rw [if_neg (by simpa using h), if_neg h]
    cases other <;> simp

theorem none_eq (d1 : Arr Int 8) (x : Int) (d2 : Arr Int 8) (l : List Int) : F.punish_body_none d1 x d2 l = some (decide (d1 = zA 8) && (x == 0) && decide (d2 = zA 8) && ((l.length : Int) == 0)) := by
  unfold F.punish_body_none F.punish_body_none.c1
  rw [arr_beq, arr_beq]
  cases decide (d1 = zA 8) <;> cases (x == 0) <;> cases decide (d2 = zA 8) <;> simp

theorem known_eq34 (k : Int) (d1 : Arr Int 8) (x2 : Int) (l1 : List Int) (d2 : Arr Int 8) (x3 : Int) (d3 : Arr Int 8) (l2 l3 : List Int) : F.punish_Thing_known k d1 x2 l1 d2 x3 d3 l2 l3 = some (decide (k = 0 ∨ k = 1)) := by
  unfold F.punish_Thing_known F.punish_Thing_known.c1
  by_cases h0 : k = 0
  · simp [h0]
  · by_cases h1 : k = 1 <;> simp [h0, h1]
theorem own_0 (d1 : Arr Int 8) (x2 : Int) (l1 : List Int) (d2 : Arr Int 8) (x3 : Int) (d3 : Arr Int 8) (l2 l3 : List Int) : F.punish_Thing_own 0 d1 x2 l1 d2 x3 d3 l2 l3 = some (d1, x2, zA 8, l1) := by
  unfold F.punish_Thing_own F.punish_Thing_bodies
  rw [known_eq34]
  rfl
theorem own_1 (d1 : Arr Int 8) (x2 : Int) (l1 : List Int) (d2 : Arr Int 8) (x3 : Int) (d3 : Arr Int 8) (l2 l3 : List Int) : F.punish_Thing_own 1 d1 x2 l1 d2 x3 d3 l2 l3 = some (d2, x3, d3, l2) := by
  unfold F.punish_Thing_own F.punish_Thing_bodies
  rw [known_eq34]
  rfl
theorem chk_0 (d1 : Arr Int 8) (x2 : Int) (l1 : List Int) (d2 : Arr Int 8) (x3 : Int) (d3 : Arr Int 8) (l2 l3 : List Int) : F.punish_Thing_Check 0 d1 x2 l1 d2 x3 d3 l2 l3 =
    some (if (decide (d2 = zA 8) && (x3 == 0) && decide (d3 = zA 8) && ((l2.length : Int) == 0)) = false then 3 else if x2 < 0 ∨ x2 > 1099511627776 ∨ (l1.length : Int) > 4096 ∨ (l3.length : Int) > 4096 then 2 else 0) := by
  unfold F.punish_Thing_Check F.punish_Thing_bodies
  rw [known_eq34, own_0]
  simp only [Option.bind_some]
  rw [if_neg (by decide), if_neg (by decide), if_pos (by decide), none_eq, Option.bind_some]
  cases (decide (d2 = zA 8) && (x3 == 0) && decide (d3 = zA 8) && ((l2.length : Int) == 0)) with
  | false => rfl
  | true =>
    rw [if_neg (by decide)]
    simp only [Bool.true_eq_false, if_false]
    exact rng_eq x2 l1 l3 F.punish_Thing_Check.c2 (by rfl) (by rfl)
theorem chk_1 (d1 : Arr Int 8) (x2 : Int) (l1 : List Int) (d2 : Arr Int 8) (x3 : Int) (d3 : Arr Int 8) (l2 l3 : List Int) : F.punish_Thing_Check 1 d1 x2 l1 d2 x3 d3 l2 l3 =
    some (if (decide (d1 = zA 8) && (x2 == 0) && true && ((l1.length : Int) == 0)) = false then 3 else if x3 < 0 ∨ x3 > 1099511627776 ∨ (l2.length : Int) > 4096 ∨ (l3.length : Int) > 4096 then 2 else 0) := by
  unfold F.punish_Thing_Check F.punish_Thing_bodies
  rw [known_eq34, own_1]
  simp only [Option.bind_some]
  rw [if_neg (by decide), if_pos (by decide), none_eq, Option.bind_some, show decide (zA 8 = zA 8) = true from decide_eq_true rfl]
  cases (decide (d1 = zA 8) && (x2 == 0) && true && ((l1.length : Int) == 0)) with
  | false => rfl
  | true =>
    rw [if_neg (by decide)]
    simp only [Bool.true_eq_false, if_false]
    exact rng_eq x3 l2 l3 F.punish_Thing_Check.c1 (by rfl) (by rfl)

end Go.Proofs.Ytlnockimfgfcgaa
