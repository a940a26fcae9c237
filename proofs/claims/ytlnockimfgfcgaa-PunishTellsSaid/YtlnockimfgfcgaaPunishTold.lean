/-
  Plain facts of any two things, whatever they bear: what the program and the document say of them.
-/
import Derived.Test.YtlnockimfgfcgaaPunishDeed
namespace Go.Proofs.Ytlnockimfgfcgaa
open Go.Lab
set_option maxRecDepth 10000

def chkT (k n : Int) (b s : List Int) (other : Bool) : Int :=
  if k ≠ 0 ∧ k ≠ 1 then 11 else if other = true then 3 else if n < 0 ∨ n > 1099511627776 ∨ (b.length : Int) > 4096 ∨ (s.length : Int) > 4096 then 2 else 0

theorem RefCheck_eq34 (k : Int) (t : Arr Int 8) (n : Int) (a : Arr Int 8) (b s : List Int) (other : Bool) : F.baizeref34_Check k t n a b s other = some (chkT k n b s other) := by
  unfold F.baizeref34_Check F.baizeref34_Check.c1 chkT
  have h := rng_eq n b s F.baizeref34_Check.c2 (by rfl) (by rfl)
  by_cases h0 : k = 0
  · subst h0
    cases other with
    | true => simp
    | false => simpa using h
  · rw [if_pos (by simpa using h0)]
    by_cases h1 : k = 1
    · subst h1
      cases other with
      | true => simp
      | false => simpa using h
    · rw [if_pos (by simpa using h1), if_pos ⟨h0, h1⟩]

theorem chkT_ok {k n : Int} {b s : List Int} {other : Bool} (h : chkT k n b s other = 0) : (k = 0 ∨ k = 1) ∧ other = false ∧ (0 ≤ n ∧ n ≤ 1099511627776) ∧ b.length ≤ 4096 ∧ s.length ≤ 4096 := by
  unfold chkT at h
  split at h
  · cases h
  split at h
  · cases h
  split at h
  · cases h
  rename_i h1 h2 h3
  refine ⟨by omega, by simpa using h2, ?_⟩
  omega

/-- A thing, whatever it bears, without its signature. -/
def mkO (k : Int) (t : Arr Int 8) (n : Int) (a : Arr Int 8) (b : List Int) (o : Bool) : S_punish_Thing :=
  if k = 0 then ⟨k, t, n, b, zA 8, (if o = true then 1 else 0), zA 8, [], []⟩ else ⟨k, zA 8, 0, (if o = true then [0] else []), t, n, a, b, []⟩
theorem mkO_0 (t : Arr Int 8) (n : Int) (a : Arr Int 8) (b : List Int) (o : Bool) : mkO 0 t n a b o = ⟨0, t, n, b, zA 8, (if o = true then 1 else 0), zA 8, [], []⟩ := if_pos rfl
theorem mkO_1 {k : Int} (h : k ≠ 0) (t : Arr Int 8) (n : Int) (a : Arr Int 8) (b : List Int) (o : Bool) : mkO k t n a b o = ⟨k, zA 8, 0, (if o = true then [0] else []), t, n, a, b, []⟩ := if_neg h

section
variable {k : Int} {t : Arr Int 8} {n : Int} {a : Arr Int 8} {b : List Int} {o : Bool}

theorem OfO_eq (k : Int) (t : Arr Int 8) (n : Int) (a : Arr Int 8) (b s : List Int) (o : Bool) : F.baizelaw34_Of k t n a b s o = some ((mkO k t n a b o).f1, (mkO k t n a b o).f2, (mkO k t n a b o).f3, (mkO k t n a b o).f4, (mkO k t n a b o).f5, (mkO k t n a b o).f6, (mkO k t n a b o).f7, (mkO k t n a b o).f8, s) := by
  rw [Of_eq34]
  unfold ofT mkO
  by_cases h : k = 0
  · rw [if_pos h, if_pos h]
  · rw [if_neg h, if_neg h]

/-- Its digest, its place. -/
def digP (k : Int) (t : Arr Int 8) (n : Int) (a : Arr Int 8) (b : List Int) : Arr Int 8 := if k = 0 then hOf (stateB t n b) else if k = 1 then hOf (actB t n a b) else zA 8
def atP (k : Int) (a : Arr Int 8) : Arr Int 8 := if k = 1 then a else zA 8

theorem digO_eq (ht : Byts t.1) (hn : I64 n) (ha : Byts a.1) (hb : Byts b) (hl : b.length ≤ 1000000) (s : List Int) : F.punish_Thing_Digest (mkO k t n a b o).f1 (mkO k t n a b o).f2 (mkO k t n a b o).f3 (mkO k t n a b o).f4 (mkO k t n a b o).f5 (mkO k t n a b o).f6 (mkO k t n a b o).f7 (mkO k t n a b o).f8 s = some (digP k t n a b) := by
  unfold F.punish_Thing_Digest digP
  by_cases h : k = 0
  · subst h
    rw [mkO_0]
    simp only []
    rw [if_pos (by decide), if_pos (c := True) trivial, State_eq ht hn hb hl, Option.bind_some]
  · rw [mkO_1 h]
    simp only []
    rw [if_neg (c := (k == 0) = true) (by simpa using h), if_neg (c := k = 0) h]
    by_cases h1 : k = 1
    · subst h1
      rw [if_pos (c := ((1 : Int) == 1) = true) (by decide), if_pos rfl, Act_eq ht hn ha hb hl, Option.bind_some]
    · rw [if_neg (c := (k == 1) = true) (by simpa using h1), if_neg h1]

theorem rdigO_eq (ht : Byts t.1) (hn : I64 n) (ha : Byts a.1) (hb : Byts b) (hl : b.length ≤ 1000000) (s : List Int) : F.baizeref34_Digest k t n a b s o = some (digP k t n a b) := by
  have l1 := stateB_len t n b
  have l2 := actB_len t n a b
  unfold F.baizeref34_Digest digP
  by_cases h : k = 0
  · rw [if_pos (by simpa using h), if_pos h, rState_eq t hn hl, Option.bind_some, rOf32 (stateB_byts ht n hb) (by omega), Option.bind_some]
  · rw [if_neg (by simpa using h), if_neg h]
    by_cases h1 : k = 1
    · rw [if_pos (by simpa using h1), if_pos h1, rAct_eq t hn a hl, Option.bind_some, rOf32 (actB_byts ht n ha hb) (by omega), Option.bind_some]
    · rw [if_neg (by simpa using h1), if_neg h1]

theorem ratO_eq (s : List Int) : F.baizeref34_At k t n a b s o = some (atP k a) := by
  unfold F.baizeref34_At atP
  by_cases h : k = 1
  · rw [if_pos (by simpa using h), if_pos h]
  · rw [if_neg (by simpa using h), if_neg h]

theorem chkO_eq (s : List Int) : F.punish_Thing_Check (mkO k t n a b o).f1 (mkO k t n a b o).f2 (mkO k t n a b o).f3 (mkO k t n a b o).f4 (mkO k t n a b o).f5 (mkO k t n a b o).f6 (mkO k t n a b o).f7 (mkO k t n a b o).f8 s = some (chkT k n b s o) := by
  by_cases h0 : k = 0
  · subst h0
    rw [mkO_0]
    simp only []
    rw [chk_0]
    unfold chkT
    cases o <;> simp
  · by_cases h1 : k = 1
    · subst h1
      rw [mkO_1 (by decide)]
      simp only []
      rw [chk_1]
      unfold chkT
      cases o <;> simp
    · rw [mkO_1 h0]
      simp only []
      unfold F.punish_Thing_Check chkT
      rw [known_eq34, Option.bind_some, if_pos (by simp [h0, h1]), if_pos ⟨h0, h1⟩]

theorem placeO_eq (s : List Int) : ∃ d x e, F.punish_Thing_Place (mkO k t n a b o).f1 (mkO k t n a b o).f2 (mkO k t n a b o).f3 (mkO k t n a b o).f4 (mkO k t n a b o).f5 (mkO k t n a b o).f6 (mkO k t n a b o).f7 (mkO k t n a b o).f8 s = some (d, x, e) ∧ (k = 0 ∨ k = 1 → d = t ∧ x = n ∧ e = atP k a) := by
  unfold F.punish_Thing_Place
  by_cases h0 : k = 0
  · subst h0
    rw [mkO_0]
    simp only []
    rw [own_0, Option.bind_some]
    exact ⟨_, _, _, rfl, fun _ => ⟨rfl, rfl, rfl⟩⟩
  · rw [mkO_1 h0]
    simp only []
    by_cases h1 : k = 1
    · subst h1
      rw [own_1, Option.bind_some]
      exact ⟨_, _, _, rfl, fun _ => ⟨rfl, rfl, rfl⟩⟩
    · unfold F.punish_Thing_own
      rw [known_eq34, Option.bind_some, if_pos (by simp [h0, h1]), Option.bind_some]
      exact ⟨_, _, _, rfl, fun q => by omega⟩

/-- Such a thing is one that deeds may be of. -/
theorem mkO_mkT (hk : k = 0 ∨ k = 1) (s : List Int) : withSig (mkO k t n a b false) s = mkT k t n a b s := by
  rcases hk with rfl | rfl
  · rw [mkO_0]; rfl
  · rw [mkO_1 (by decide)]; rfl
theorem mkT_parts (hk : k = 0 ∨ k = 1) (s : List Int) : (mkT k t n a b s).f1 = k ∧ tab (mkT k t n a b s) = t ∧ num (mkT k t n a b s) = n ∧ plc (mkT k t n a b s) = atP k a ∧ dig (mkT k t n a b s) = digP k t n a b ∧ (mkT k t n a b s).f9 = s := by
  rcases hk with rfl | rfl
  · refine ⟨rfl, rfl, rfl, rfl, ?_, rfl⟩
    unfold dig digP mkT
    rw [if_pos (c := (0 : Int) = 0) rfl, if_pos (c := (0 : Int) = 0) rfl]
    simp only []
    rw [if_pos (c := True) trivial]
  · refine ⟨rfl, rfl, rfl, rfl, ?_, rfl⟩
    unfold dig digP mkT
    rw [if_neg (c := (1 : Int) = 0) (by decide), if_neg (c := (1 : Int) = 0) (by decide), if_pos (c := (1 : Int) = 1) rfl]
    simp only []
    rw [if_neg (c := (1 : Int) = 0) (by decide)]
end

/-- What two things show. -/
def twO (table : Arr Int 8) (k : Int) (t : Arr Int 8) (n : Int) (a : Arr Int 8) (b s : List Int) (o : Bool) (k2 : Int) (t2 : Arr Int 8) (n2 : Int) (a2 : Arr Int 8) (b2 s2 : List Int) (o2 : Bool) (q : Bool) : Int :=
  if chkT k n b s o ≠ 0 then chkT k n b s o else if chkT k2 n2 b2 s2 o2 ≠ 0 then chkT k2 n2 b2 s2 o2 else if k ≠ k2 then 11 else if ¬ (t = table ∧ t2 = table) then 6 else if ¬ (n = n2 ∧ atP k a = atP k2 a2) then 18
  else if digP k t n a b = digP k2 t2 n2 a2 b2 then 7 else if q = true then 0 else 16

section
variable {k : Int} {t : Arr Int 8} {n : Int} {a : Arr Int 8} {b s : List Int} {o : Bool} {k2 : Int} {t2 : Arr Int 8} {n2 : Int} {a2 : Arr Int 8} {b2 s2 : List Int} {o2 : Bool}

theorem twiceO_eq {es : List S_notary_entry} (hes : es.length ≤ 65536) (table key : Arr Int 8) (ht : Byts t.1) (hn : I64 n) (ha : Byts a.1) (hb : Byts b) (hs : Byts s) (ht2 : Byts t2.1) (hn2 : I64 n2) (ha2 : Byts a2.1) (hb2 : Byts b2) (hs2 : Byts s2) :
    F.punish_Twice es (places es) table key (mkO k t n a b o).f1 (mkO k t n a b o).f2 (mkO k t n a b o).f3 (mkO k t n a b o).f4 (mkO k t n a b o).f5 (mkO k t n a b o).f6 (mkO k t n a b o).f7 (mkO k t n a b o).f8 s (mkO k2 t2 n2 a2 b2 o2).f1 (mkO k2 t2 n2 a2 b2 o2).f2 (mkO k2 t2 n2 a2 b2 o2).f3 (mkO k2 t2 n2 a2 b2 o2).f4 (mkO k2 t2 n2 a2 b2 o2).f5 (mkO k2 t2 n2 a2 b2 o2).f6 (mkO k2 t2 n2 a2 b2 o2).f7 (mkO k2 t2 n2 a2 b2 o2).f8 s2 = some (twO table k t n a b s o k2 t2 n2 a2 b2 s2 o2 (okV es key (digP k t n a b) s && okV es key (digP k2 t2 n2 a2 b2) s2)) := by
  have c1 := chkO_eq (k := k) (t := t) (n := n) (a := a) (b := b) (o := o) s
  have c2 := chkO_eq (k := k2) (t := t2) (n := n2) (a := a2) (b := b2) (o := o2) s2
  by_cases h1 : chkT k n b s o = 0
  case neg =>
    unfold F.punish_Twice twO
    rw [if_pos (c := chkT k n b s o ≠ 0) h1, show fuel = 9223372036854775807 + 1 from rfl]
    unfold F.punish_Twice.l1
    rw [if_pos (by decide), if_pos (by decide), c1, Option.bind_some, if_pos (by simpa using h1)]
  by_cases h2 : chkT k2 n2 b2 s2 o2 = 0
  case neg =>
    unfold F.punish_Twice twO
    rw [if_neg (c := chkT k n b s o ≠ 0) (by simpa using h1), if_pos (c := chkT k2 n2 b2 s2 o2 ≠ 0) h2, show fuel = (9223372036854775806 + 1) + 1 from rfl]
    unfold F.punish_Twice.l1
    rw [if_pos (by decide), if_pos (by decide), c1, Option.bind_some, if_neg (by simpa using h1), show IntKind.i64.wrap (0 + 1) = 1 from rfl]
    unfold F.punish_Twice.l1
    rw [if_pos (by decide), if_neg (by decide), if_pos rfl, c2, Option.bind_some, if_pos (by simpa using h2)]
  obtain ⟨g1, rfl, g2, g3, g4⟩ := chkT_ok h1
  obtain ⟨i1, rfl, i2, i3, i4⟩ := chkT_ok h2
  have e1 := mkO_mkT (t := t) (n := n) (a := a) (b := b) g1 s
  have e2 := mkO_mkT (t := t2) (n := n2) (a := a2) (b := b2) i1 s2
  obtain ⟨p1, p2, p3, p4, p5, p6⟩ := mkT_parts (t := t) (n := n) (a := a) (b := b) g1 s
  obtain ⟨r1, r2, r3, r4, r5, r6⟩ := mkT_parts (t := t2) (n := n2) (a := a2) (b := b2) i1 s2
  have o1 := mkT_ok (k := k) ht hn ha hb hs (by omega)
  have o2 := mkT_ok (k := k2) ht2 hn2 ha2 hb2 hs2 (by omega)
  have x1 := chkX_eq o1
  have x2 := chkX_eq o2
  have H := Twice_eq hes table key o1 o2
  rw [← e1] at x1
  rw [← e2] at x2
  have y1 : chkX (mkT k t n a b s) = 0 := by
    have := x1.symm.trans c1
    rw [e1, h1] at this
    exact Option.some.inj this
  have y2 : chkX (mkT k2 t2 n2 a2 b2 s2) = 0 := by
    have := x2.symm.trans c2
    rw [e2, h2] at this
    exact Option.some.inj this
  have hT : twiceP es table key (mkT k t n a b s) (mkT k2 t2 n2 a2 b2 s2) = twO table k t n a b s false k2 t2 n2 a2 b2 s2 false (okV es key (digP k t n a b) s && okV es key (digP k2 t2 n2 a2 b2) s2) := by
    unfold twiceP twO
    rw [y1, y2, h1, h2, p1, r1, p2, r2, p3, r3, p4, r4, p5, r5, p6, r6]
    generalize okV es key (digP k t n a b) s = q1
    generalize okV es key (digP k2 t2 n2 a2 b2) s2 = q2
    generalize digP k t n a b = D1
    generalize digP k2 t2 n2 a2 b2 = D2
    generalize atP k a = A1
    generalize atP k2 a2 = A2
    simp only [Bool.and_eq_true]
  rw [← hT]
  rw [← e1, ← e2] at H ⊢
  exact H

theorem rtwiceO_eq (table : Arr Int 8) (ht : Byts t.1) (hn : I64 n) (ha : Byts a.1) (hb : Byts b) (ht2 : Byts t2.1) (hn2 : I64 n2) (ha2 : Byts a2.1) (hb2 : Byts b2) (q : Bool) :
    F.baizeref34_Twice table k t n a b s o k2 t2 n2 a2 b2 s2 o2 q = some (twO table k t n a b s o k2 t2 n2 a2 b2 s2 o2 q) := by
  unfold F.baizeref34_Twice twO
  rw [RefCheck_eq34, Option.bind_some]
  by_cases h1 : chkT k n b s o = 0
  case neg => rw [if_pos (by simpa using h1), if_pos (c := chkT k n b s o ≠ 0) h1]
  rw [if_neg (by simpa using h1), if_neg (c := chkT k n b s o ≠ 0) (by simpa using h1), RefCheck_eq34, Option.bind_some]
  by_cases h2 : chkT k2 n2 b2 s2 o2 = 0
  case neg => rw [if_pos (by simpa using h2), if_pos (c := chkT k2 n2 b2 s2 o2 ≠ 0) h2]
  rw [if_neg (by simpa using h2), if_neg (c := chkT k2 n2 b2 s2 o2 ≠ 0) (by simpa using h2)]
  obtain ⟨_, _, _, g3, _⟩ := chkT_ok h1
  obtain ⟨_, _, _, i3, _⟩ := chkT_ok h2
  have d1 := rdigO_eq (k := k) (o := o) ht hn ha hb (by omega) s
  have d2 := rdigO_eq (k := k2) (o := o2) ht2 hn2 ha2 hb2 (by omega) s2
  by_cases h3 : k = k2
  case neg => rw [if_pos (by simpa using h3), if_pos (c := k ≠ k2) h3]
  rw [if_neg (by simpa using h3), if_neg (c := k ≠ k2) (by simpa using h3), arr_beq, arr_beq]
  have k2' : ∀ z : Bool, z = !decide (n = n2 ∧ atP k a = atP k2 a2) → F.baizeref34_Twice.c2 k t n a b s o k2 t2 n2 a2 b2 s2 o2 q z =
      some (if ¬ (n = n2 ∧ atP k a = atP k2 a2) then 18 else if digP k t n a b = digP k2 t2 n2 a2 b2 then 7 else if q = true then 0 else 16) := by
    intro z hz
    unfold F.baizeref34_Twice.c2
    by_cases c5 : n = n2 ∧ atP k a = atP k2 a2
    · rw [decide_eq_true c5] at hz
      subst hz
      rw [if_neg (by decide), d1, Option.bind_some, d2, Option.bind_some, arr_beq, if_neg (c := ¬ (n = n2 ∧ atP k a = atP k2 a2)) (by simpa using c5)]
      by_cases c6 : digP k t n a b = digP k2 t2 n2 a2 b2
      · rw [if_pos (by simpa using c6), if_pos c6]
      · rw [if_neg (by simpa using c6), if_neg c6]
        cases q <;> rfl
    · rw [decide_eq_false c5] at hz
      subst hz
      rw [if_pos (by decide), if_pos c5]
  have k1' : ∀ z : Bool, z = !decide (t = table ∧ t2 = table) → F.baizeref34_Twice.c1 k t n a b s o k2 t2 n2 a2 b2 s2 o2 q z =
      some (if ¬ (t = table ∧ t2 = table) then 6 else if ¬ (n = n2 ∧ atP k a = atP k2 a2) then 18 else if digP k t n a b = digP k2 t2 n2 a2 b2 then 7 else if q = true then 0 else 16) := by
    intro z hz
    unfold F.baizeref34_Twice.c1
    by_cases c4 : t = table ∧ t2 = table
    · rw [decide_eq_true c4] at hz
      subst hz
      rw [if_neg (by decide), if_neg (c := ¬ (t = table ∧ t2 = table)) (by simpa using c4)]
      by_cases c5 : n = n2
      · rw [if_neg (by simpa using c5), ratO_eq, Option.bind_some, ratO_eq, Option.bind_some, arr_beq]
        exact k2' _ (by simp [c5])
      · rw [if_pos (by simpa using c5)]
        exact k2' _ (by simp [c5])
    · rw [decide_eq_false c4] at hz
      subst hz
      rw [if_pos (by decide), if_pos c4]
  by_cases c4 : t = table
  · rw [if_neg (by simpa using c4)]
    exact k1' _ (by simp [c4])
  · rw [if_pos (by simpa using c4)]
    exact k1' _ (by simp [c4])
end
end Go.Proofs.Ytlnockimfgfcgaa
