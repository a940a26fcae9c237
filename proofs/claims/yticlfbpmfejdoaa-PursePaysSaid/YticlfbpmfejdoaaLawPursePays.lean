/-
  The plain law of PursePays: all that is paid out at a height, and what is held then, is the total; later nobody has less.
-/
import Derived.Test.YticlfbpmfejdoaaPursePure
namespace Go.Proofs.Yticlfbpmfejdoaa
open Go.Lab

/-- What goes back to a side by a height. -/
def backS (s now : Int) : List S_purse_Held → Int
  | [] => 0
  | x :: r => (if x.f4 < now ∧ x.f3 = s then x.f2 else 0) + backS s now r
/-- What is held at a height. -/
def outS (now : Int) : List S_purse_Held → Int
  | [] => 0
  | x :: r => (if x.f4 < now then 0 else x.f2) + outS now r

def mk3 (a b c : Int) : Arr Int 3 := ⟨[a, b, c], rfl⟩

theorem back_bounds (now : Int) : ∀ {l : List S_purse_Held}, (∀ x ∈ l, hOk x) → 0 ≤ backS 0 now l ∧ 0 ≤ backS 1 now l ∧ 0 ≤ outS now l ∧ backS 0 now l + backS 1 now l + outS now l = sumL (l.map (·.f2))
  | [], _ => by simp [backS, outS, sumL]
  | x :: r, h => by
    have ih := back_bounds now (l := r) (fun y hy => h y (by simp [hy]))
    have hx := h x (by simp)
    unfold hOk at hx
    simp only [backS, outS, List.map_cons, sumL]
    split <;> split <;> split <;> omega

theorem back_mono {now later : Int} (hn : now ≤ later) : ∀ {l : List S_purse_Held}, (∀ x ∈ l, hOk x) → backS 0 now l ≤ backS 0 later l ∧ backS 1 now l ≤ backS 1 later l ∧ outS later l ≤ outS now l
  | [], _ => by simp [backS, outS]
  | x :: r, h => by
    have ih := back_mono hn (l := r) (fun y hy => h y (by simp [hy]))
    have hx := h x (by simp)
    unfold hOk at hx
    simp only [backS, outS]
    split <;> split <;> split <;> split <;> split <;> split <;> omega

theorem out_end : ∀ {l : List S_purse_Held}, (∀ x ∈ l, hOk x) → outS 2199023255552 l = 0
  | [], _ => by simp [outS]
  | x :: r, h => by
    have ih := out_end (l := r) (fun y hy => h y (by simp [hy]))
    have hx := h x (by simp)
    unfold hOk at hx
    simp only [outS]
    rw [if_pos (by omega), ih]; rfl

theorem pays_l1 (l : List S_purse_Held) (now : Int) (hl : l.length ≤ 40) (hok : ∀ x ∈ l, hOk x) : ∀ (k i : Nat) (a b c : Int), i ≤ l.length → l.length - i < k → 0 ≤ a → 0 ≤ b → 0 ≤ c → a + b + c + sumL ((l.drop i).map (·.f2)) ≤ 1125899906842624 →
    F.purse_Purse_Pays.l1 l now k (mk3 a b c) (i : Int) = some (mk3 (a + backS 0 now (l.drop i)) (b + backS 1 now (l.drop i)) (c + outS now (l.drop i)))
  | k + 1, i, a, b, c, hi, hk, ha, hb, hc, hs => by
    unfold F.purse_Purse_Pays.l1
    by_cases h : i < l.length
    · have h1 := getI_drop (l := l) (i := (i : Int)) (by omega) (by omega)
      have hm := getI_mem (l := l) (i := (i : Int)) (by omega) (by omega)
      rw [show ((i : Int)).toNat = i by omega, show ((i : Int) + 1).toNat = i + 1 by omega] at h1
      have hw : IntKind.i64.wrap ((i : Int) + 1) = ((i + 1 : Nat) : Int) := by rw [wrap_id (by omega) (by omega)]; omega
      rw [if_pos (by simpa using h), if_pos (by omega), h1]
      rw [h1] at hs
      generalize getI l (i : Int) = x at hm hs ⊢
      have hx := hok x hm
      unfold hOk at hx
      have hr := sumL_nonneg (l := (l.drop (i + 1)).map (·.f2)) (by
        intro y hy
        obtain ⟨z, hz, rfl⟩ := List.mem_map.1 hy
        have := hok z (List.mem_of_mem_drop hz)
        unfold hOk at this; omega)
      simp only [List.map_cons, sumL] at hs
      unfold F.purse_Purse_Pays.c1
      rw [hw]
      by_cases h4 : x.f4 < now
      · rw [if_pos (by simpa using h4), if_pos (by omega), if_pos (by omega)]
        by_cases h3 : x.f3 = 0
        · rw [h3]
          rw [show aget (mk3 a b c) 0 = a from rfl, wrap_id (x := a + x.f2) (by omega) (by omega), show aset (mk3 a b c) 0 (a + x.f2) = mk3 (a + x.f2) b c from rfl]
          rw [pays_l1 l now hl hok k (i + 1) (a + x.f2) b c (by omega) (by omega) (by omega) hb hc (by omega)]
          simp only [backS, outS]
          rw [if_pos ⟨h4, h3⟩, if_neg (by omega), if_pos h4]
          simp only [Int.zero_add, Int.add_assoc]
        · have h31 : x.f3 = 1 := by omega
          rw [h31]
          rw [show aget (mk3 a b c) 1 = b from rfl, wrap_id (x := b + x.f2) (by omega) (by omega), show aset (mk3 a b c) 1 (b + x.f2) = mk3 a (b + x.f2) c from rfl]
          rw [pays_l1 l now hl hok k (i + 1) a (b + x.f2) c (by omega) (by omega) ha (by omega) hc (by omega)]
          simp only [backS, outS]
          rw [if_neg (by omega), if_pos ⟨h4, h31⟩, if_pos h4]
          simp only [Int.zero_add, Int.add_assoc]
      · rw [if_neg (by simpa using h4)]
        rw [show aget (mk3 a b c) 2 = c from rfl, wrap_id (x := c + x.f2) (by omega) (by omega), show aset (mk3 a b c) 2 (c + x.f2) = mk3 a b (c + x.f2) from rfl]
        rw [pays_l1 l now hl hok k (i + 1) a b (c + x.f2) (by omega) (by omega) ha hb (by omega) (by omega)]
        simp only [backS, outS]
        rw [if_neg (by omega), if_neg (by omega), if_neg h4]
        simp only [Int.zero_add, Int.add_assoc]
    · rw [if_neg (by simpa using h), List.drop_eq_nil_of_le (by omega)]
      simp [backS, outS]

theorem Pays_eq (d1 : Arr Int 8) (x1 : Int) (d2 : Arr Int 2) {l : List S_purse_Held} (hl : l.length ≤ 40) (now : Int) :
    F.purse_Purse_Pays d1 x1 d2 l now = some (if chk x1 d2 l = 0 then mk3 (aget d2 0 + backS 0 now l) (aget d2 1 + backS 1 now l) (outS now l) else zA 3) := by
  unfold F.purse_Purse_Pays
  rw [Check_eq d1 x1 d2 hl, Option.bind_some]
  by_cases h : chk x1 d2 l = 0
  · obtain ⟨_, h0, h1, _, hok, hs, _⟩ := chk_ok h
    rw [if_neg (by simpa using h), if_pos h]
    have := pays_l1 l now hl hok fuel 0 (aget d2 0) (aget d2 1) 0 (by omega) (by rw [fuel_eq]; omega) h0.1 h1.1 (Int.le_refl _) (by rw [List.drop_zero]; omega)
    show F.purse_Purse_Pays.l1 l now fuel (mk3 (aget d2 0) (aget d2 1) 0) 0 = _
    simpa using this
  · rw [if_pos (by simpa using h), if_neg h]

theorem law_PursePays (y0 : S_baizeref47_Purse) (a1 : Int) (a2 : Int) (w0 : wf_S_baizeref47_Purse y0) (w1 : (Lit.int .i64 a1).wf = true) (w2 : (Lit.int .i64 a2).wf = true) : F.baizelaw47_PursePays y0.f1 y0.f2 y0.f3 y0.f4 a1 a2 = some true := by
  have ct : ∀ d1 x1 d2 l x2 x3, F.baizelaw47_PursePays.c1 d1 x1 d2 l x2 x3 true = some true := by
    intros; unfold F.baizelaw47_PursePays.c1; rw [if_pos rfl, told_true]; rfl
  unfold F.baizelaw47_PursePays F.baizelaw47_great
  rw [Option.bind_some]
  by_cases hg : y0.f4.length > 40
  · rw [if_pos (by simp; omega)]; exact ct ..
  rw [if_neg (by simp; omega)]
  by_cases hn : a2 < a1
  · rw [decide_eq_true hn]; exact ct ..
  rw [decide_eq_false hn]
  unfold F.baizelaw47_PursePays.c1
  have hl : (y0.f4.map own1).length ≤ 40 := by rw [List.length_map]; omega
  rw [if_neg (by simp), Own_eq _ _ _ (by omega), Option.bind_some]
  simp only []
  rw [Pays_eq _ _ _ hl, Pays_eq _ _ _ hl, Pays_eq _ _ _ hl, Total_eq _ _ _ hl]
  simp only [Option.bind_some]
  generalize y0.f4.map own1 = l at hl ⊢
  by_cases h : chk y0.f2 y0.f3 l = 0
  · obtain ⟨_, h0, h1, _, hok, hs, hsum, _⟩ := chk_ok h
    have hz : ¬ (chk y0.f2 y0.f3 l ≠ 0) := by simpa using h
    rw [if_pos h, if_pos h, if_pos h, if_neg hz, hsum]
    have b1 := back_bounds a1 hok
    have b2 := back_bounds a2 hok
    have b3 := back_bounds 2199023255552 hok
    have hm := back_mono (show a1 ≤ a2 by omega) hok
    have he := out_end hok
    unfold Right at h0 h1
    generalize aget y0.f3 0 = u at *
    generalize aget y0.f3 1 = v at *
    generalize backS 0 a1 l = p0 at *
    generalize backS 1 a1 l = p1 at *
    generalize outS a1 l = p2 at *
    generalize backS 0 a2 l = q0 at *
    generalize backS 1 a2 l = q1 at *
    generalize outS a2 l = q2 at *
    generalize backS 0 2199023255552 l = r0 at *
    generalize backS 1 2199023255552 l = r1 at *
    rw [he] at b3 ⊢
    generalize sumL (l.map (·.f2)) = t at *
    have g : ∀ a b c, aget (mk3 a b c) 0 = a ∧ aget (mk3 a b c) 1 = b ∧ aget (mk3 a b c) 2 = c := fun _ _ _ => ⟨rfl, rfl, rfl⟩
    simp only [g]
    have e1 : IntKind.i64.wrap (IntKind.i64.wrap (u + p0 + (v + p1)) + p2) = u + v + t := by
      rw [wrap_id (x := u + p0 + (v + p1)) (by omega) (by omega), wrap_id (by omega) (by omega)]; omega
    have e2 : IntKind.i64.wrap (IntKind.i64.wrap (u + q0 + (v + q1)) + q2) = u + v + t := by
      rw [wrap_id (x := u + q0 + (v + q1)) (by omega) (by omega), wrap_id (by omega) (by omega)]; omega
    have e3 : IntKind.i64.wrap (u + r0 + (v + r1)) = u + v + t := by rw [wrap_id (by omega) (by omega)]; omega
    rw [e1, e2, e3]
    unfold F.baizelaw47_PursePays.c2 F.baizelaw47_PursePays.c3
    simp only [g, bne_self_eq_false, Bool.false_eq_true, if_false, told_true, Option.bind_some]
    rw [if_pos (by simp; omega), if_pos (by simp; omega), if_pos (by simp; omega)]
  · have hz : chk y0.f2 y0.f3 l ≠ 0 := h
    rw [if_neg h, if_neg h, if_neg h, if_pos hz]
    unfold F.baizelaw47_PursePays.c2 F.baizelaw47_PursePays.c3
    rw [told_true]
    rfl
end Go.Proofs.Yticlfbpmfejdoaa
