/-
  Plain facts of two things that were signed: what they show, and which the first two are that show it.
-/
import Derived.Test.YtlnockimfgfcgaaPunishCheck
namespace Go.Proofs.Ytlnockimfgfcgaa
open Go.Lab
set_option maxRecDepth 10000

/-- A thing's digest, table, number, place. -/
def dig (T : S_punish_Thing) : Arr Int 8 := if T.f1 = 0 then hOf (stateB T.f2 T.f3 T.f4) else hOf (actB T.f5 T.f6 T.f7 T.f8)
def tab (T : S_punish_Thing) : Arr Int 8 := if T.f1 = 0 then T.f2 else T.f5
def num (T : S_punish_Thing) : Int := if T.f1 = 0 then T.f3 else T.f6
def plc (T : S_punish_Thing) : Arr Int 8 := if T.f1 = 0 then zA 8 else T.f7
/-- What is wrong with it. -/
def chkX (T : S_punish_Thing) : Int :=
  if T.f1 = 0 then (if (decide (T.f5 = zA 8) && (T.f6 == 0) && decide (T.f7 = zA 8) && ((T.f8.length : Int) == 0)) = false then 3 else if T.f3 < 0 ∨ T.f3 > 1099511627776 ∨ (T.f4.length : Int) > 4096 ∨ (T.f9.length : Int) > 4096 then 2 else 0)
  else (if (decide (T.f2 = zA 8) && (T.f3 == 0) && true && ((T.f4.length : Int) == 0)) = false then 3 else if T.f6 < 0 ∨ T.f6 > 1099511627776 ∨ (T.f8.length : Int) > 4096 ∨ (T.f9.length : Int) > 4096 then 2 else 0)

/-- A thing of this machine. -/
structure OkT (T : S_punish_Thing) : Prop where
  kind : T.f1 = 0 ∨ T.f1 = 1
  b2 : Byts T.f2.1
  b4 : Byts T.f4
  b5 : Byts T.f5.1
  b7 : Byts T.f7.1
  b8 : Byts T.f8
  b9 : Byts T.f9
  n3 : I64 T.f3
  n6 : I64 T.f6
  l4 : T.f4.length ≤ 100000
  l8 : T.f8.length ≤ 100000

theorem dig_eq {T : S_punish_Thing} (h : OkT T) : F.punish_Thing_Digest T.f1 T.f2 T.f3 T.f4 T.f5 T.f6 T.f7 T.f8 T.f9 = some (dig T) := by
  have h4 := h.l4
  have h8 := h.l8
  unfold F.punish_Thing_Digest dig
  rcases h.kind with k | k
  · rw [k, if_pos (by decide), if_pos rfl, State_eq h.b2 h.n3 h.b4 (by omega), Option.bind_some]
  · rw [k, if_neg (c := ((1 : Int) == 0) = true) (by decide), if_pos (c := ((1 : Int) == 1) = true) (by decide), if_neg (c := (1 : Int) = 0) (by decide), Act_eq h.b5 h.n6 h.b7 h.b8 (by omega), Option.bind_some]

theorem chkX_eq {T : S_punish_Thing} (h : OkT T) : F.punish_Thing_Check T.f1 T.f2 T.f3 T.f4 T.f5 T.f6 T.f7 T.f8 T.f9 = some (chkX T) := by
  unfold chkX
  rcases h.kind with k | k
  · rw [k, chk_0, if_pos rfl]
  · rw [k, chk_1, if_neg (c := (1 : Int) = 0) (by decide)]

theorem own_eq {T : S_punish_Thing} (h : OkT T) : ∃ b, F.punish_Thing_own T.f1 T.f2 T.f3 T.f4 T.f5 T.f6 T.f7 T.f8 T.f9 = some (tab T, num T, plc T, b) := by
  unfold tab num plc
  rcases h.kind with k | k
  · exact ⟨T.f4, by rw [k, own_0, if_pos rfl, if_pos rfl, if_pos rfl]⟩
  · exact ⟨T.f8, by rw [k, own_1, if_neg (by decide), if_neg (by decide), if_neg (by decide)]⟩

/-- What two things show. -/
def twiceP (es : List S_notary_entry) (table key : Arr Int 8) (a b : S_punish_Thing) : Int :=
  if chkX a ≠ 0 then chkX a else if chkX b ≠ 0 then chkX b else if a.f1 ≠ b.f1 then 11 else if ¬ (tab a = table ∧ tab b = table) then 6 else if ¬ (num a = num b ∧ plc a = plc b) then 18
  else if dig a = dig b then 7 else if okV es key (dig a) a.f9 = true ∧ okV es key (dig b) b.f9 = true then 0 else 16

theorem Twice_eq {es : List S_notary_entry} (hl : es.length ≤ 65536) (table key : Arr Int 8) {a b : S_punish_Thing} (ha : OkT a) (hb : OkT b) :
    F.punish_Twice es (places es) table key a.f1 a.f2 a.f3 a.f4 a.f5 a.f6 a.f7 a.f8 a.f9 b.f1 b.f2 b.f3 b.f4 b.f5 b.f6 b.f7 b.f8 b.f9 = some (twiceP es table key a b) := by
  obtain ⟨oa, ha2⟩ := own_eq ha
  obtain ⟨ob, hb2⟩ := own_eq hb
  have hda := dig_eq ha
  have hdb := dig_eq hb
  have hca := chkX_eq ha
  have hcb := chkX_eq hb
  unfold F.punish_Twice twiceP
  rw [show fuel = ((9223372036854775805 + 1) + 1) + 1 from rfl]
  unfold F.punish_Twice.l1
  rw [if_pos (by decide), if_pos (by decide), hca, Option.bind_some, show IntKind.i64.wrap (0 + 1) = 1 from rfl]
  by_cases c1 : chkX a = 0
  case neg => rw [if_pos (by simpa using c1), if_pos c1]
  rw [if_neg (by simpa using c1), if_neg (by simpa using c1)]
  unfold F.punish_Twice.l1
  rw [if_pos (by decide), if_neg (by decide), if_pos rfl, hcb, Option.bind_some, show IntKind.i64.wrap (1 + 1) = 2 from rfl]
  by_cases c2 : chkX b = 0
  case neg => rw [if_pos (by simpa using c2), if_pos c2]
  rw [if_neg (by simpa using c2), if_neg (by simpa using c2)]
  unfold F.punish_Twice.l1
  rw [if_neg (by decide), ha2, Option.bind_some]
  simp only []
  rw [hb2, Option.bind_some]
  simp only []
  by_cases c3 : a.f1 = b.f1
  case neg => rw [if_pos (by simpa using c3), if_pos c3]
  rw [if_neg (c := (a.f1 != b.f1) = true) (by simpa using c3), if_neg (c := a.f1 ≠ b.f1) (by simpa using c3), arr_beq, arr_beq]
  have k3 : ∀ q : Bool, F.punish_Twice.c3 q = some (if q = true then 16 else 0) := by
    intro q
    unfold F.punish_Twice.c3
    cases q <;> rfl
  have k2 : ∀ q : Bool, q = !decide (num a = num b ∧ plc a = plc b) → F.punish_Twice.c2 es (places es) key a.f1 a.f2 a.f3 a.f4 a.f5 a.f6 a.f7 a.f8 a.f9 b.f1 b.f2 b.f3 b.f4 b.f5 b.f6 b.f7 b.f8 b.f9 q =
      some (if ¬ (num a = num b ∧ plc a = plc b) then 18 else if dig a = dig b then 7 else if okV es key (dig a) a.f9 = true ∧ okV es key (dig b) b.f9 = true then 0 else 16) := by
    intro q hq
    unfold F.punish_Twice.c2
    by_cases c5 : num a = num b ∧ plc a = plc b
    · rw [decide_eq_true c5] at hq
      subst hq
      rw [if_neg (by decide), hda, Option.bind_some, hdb, Option.bind_some, arr_beq, if_neg (c := ¬ (num a = num b ∧ plc a = plc b)) (by simpa using c5)]
      by_cases c6 : dig a = dig b
      · rw [if_pos (by simpa using c6), if_pos c6]
      · rw [if_neg (by simpa using c6), if_neg c6, Option.bind_some, Verify_ok hl _ _ ha.b9, Option.bind_some, Option.bind_some, Verify_ok hl _ _ hb.b9, Option.bind_some, k3, k3]
        cases okV es key (dig a) a.f9 <;> cases okV es key (dig b) b.f9 <;> rfl
    · rw [decide_eq_false c5] at hq
      subst hq
      rw [if_pos (by decide), if_pos c5]
  have k1 : ∀ q : Bool, q = !decide (tab a = table ∧ tab b = table) → F.punish_Twice.c1 es (places es) key a.f1 a.f2 a.f3 a.f4 a.f5 a.f6 a.f7 a.f8 a.f9 b.f1 b.f2 b.f3 b.f4 b.f5 b.f6 b.f7 b.f8 b.f9 (num a) (plc a) (num b) (plc b) q =
      some (if ¬ (tab a = table ∧ tab b = table) then 6 else if ¬ (num a = num b ∧ plc a = plc b) then 18 else if dig a = dig b then 7 else if okV es key (dig a) a.f9 = true ∧ okV es key (dig b) b.f9 = true then 0 else 16) := by
    intro q hq
    unfold F.punish_Twice.c1
    by_cases c4 : tab a = table ∧ tab b = table
    · rw [decide_eq_true c4] at hq
      subst hq
      rw [if_neg (by decide), if_neg (c := ¬ (tab a = table ∧ tab b = table)) (by simpa using c4)]
      by_cases c5 : num a = num b
      · rw [if_neg (by simpa using c5), arr_beq]
        exact k2 _ (by simp [c5])
      · rw [if_pos (by simpa using c5)]
        exact k2 _ (by simp [c5])
    · rw [decide_eq_false c4] at hq
      subst hq
      rw [if_pos (by decide), if_pos c4]
  by_cases c4 : tab a = table
  · rw [if_neg (by simpa using c4)]
    exact k1 _ (by simp [c4])
  · rw [if_pos (by simpa using c4)]
    exact k1 _ (by simp [c4])

theorem twice_swap {es : List S_notary_entry} {table key : Arr Int 8} {a b : S_punish_Thing} (h : twiceP es table key a b = 0) : twiceP es table key b a = 0 := by
  unfold twiceP at h ⊢
  split at h
  · rename_i q; exact absurd h q
  split at h
  · rename_i q; exact absurd h q
  split at h
  · cases h
  split at h
  · cases h
  split at h
  · cases h
  split at h
  · cases h
  split at h
  · rename_i q1 q2 q3 q4 q5 q6 q7
    rw [if_neg q2, if_neg q1, if_neg (fun z => q3 (fun y => z y.symm)), if_neg (fun z => q4 (fun y => z ⟨y.2, y.1⟩)), if_neg (fun z => q5 (fun y => z ⟨y.1.symm, y.2.symm⟩)), if_neg (fun z => q6 z.symm), if_pos ⟨q7.2, q7.1⟩]
  · cases h

/-! ### The first two -/

def scanA (g : Nat → Bool) : Nat → Nat → Option Nat
  | _, 0 => none
  | c, n + 1 => if g c = true then some c else scanA g (c + 1) n
def scanB (f : Nat → Nat → Bool) : Nat → Nat → Option (Nat × Nat)
  | _, 0 => none
  | b, n + 1 => match scanA (fun a => f a b) 0 b with
    | some a => some (a, b)
    | none => scanB f (b + 1) n

theorem scanA_some {g : Nat → Bool} : ∀ {n c a : Nat}, scanA g c n = some a → g a = true ∧ c ≤ a ∧ a < c + n
  | n + 1, c, a, h => by
    unfold scanA at h
    split at h
    · rename_i hc
      injection h with h
      subst h
      exact ⟨hc, Nat.le_refl _, by omega⟩
    · obtain ⟨h1, h2, h3⟩ := scanA_some h
      exact ⟨h1, by omega, by omega⟩
theorem scanA_none {g : Nat → Bool} : ∀ {n c : Nat}, (∀ a, c ≤ a → a < c + n → g a = false) → scanA g c n = none
  | 0, _, _ => rfl
  | n + 1, c, h => by
    unfold scanA
    rw [if_neg (by rw [h c (Nat.le_refl _) (by omega)]; decide)]
    exact scanA_none (fun a h1 h2 => h a (by omega) (by omega))
theorem scanB_some {f : Nat → Nat → Bool} : ∀ {n b a c : Nat}, scanB f b n = some (a, c) → f a c = true ∧ a < c ∧ b ≤ c ∧ c < b + n
  | n + 1, b, a, c, h => by
    unfold scanB at h
    cases hs : scanA (fun a => f a b) 0 b with
    | some x =>
      rw [hs] at h
      simp only [Option.some.injEq, Prod.mk.injEq] at h
      obtain ⟨rfl, rfl⟩ := h
      obtain ⟨h1, _, h3⟩ := scanA_some hs
      exact ⟨h1, by omega, Nat.le_refl _, by omega⟩
    | none =>
      rw [hs] at h
      obtain ⟨h1, h2, h3, h4⟩ := scanB_some h
      exact ⟨h1, h2, by omega, by omega⟩
theorem scanB_none {f : Nat → Nat → Bool} : ∀ {n b : Nat}, (∀ a c, a < c → b ≤ c → c < b + n → f a c = false) → scanB f b n = none
  | 0, _, _ => rfl
  | n + 1, b, h => by
    unfold scanB
    rw [scanA_none (fun a h1 h2 => h a b (by omega) (Nat.le_refl _) (by omega))]
    exact scanB_none (fun a c h1 h2 h3 => h a c h1 (by omega) (by omega))

/-- Do two of a list show it? -/
def showsF (es : List S_notary_entry) (table key : Arr Int 8) (l : List S_punish_Thing) (a b : Nat) : Bool := twiceP es table key (getI l (a : Int)) (getI l (b : Int)) == 0

section
variable {es : List S_notary_entry} {table key : Arr Int 8} {l : List S_punish_Thing}

theorem getI_slice {i x : Nat} (h : i < x) (hx : x ≤ l.length) : getI (sliceI l 0 (x : Int)) (i : Int) = getI l (i : Int) := by
  unfold getI sliceI
  simp [List.getD_eq_getElem?_getD, List.getElem?_take_of_lt h]

end
end Go.Proofs.Ytlnockimfgfcgaa
