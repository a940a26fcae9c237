/-
  Proved: of things that were signed the first two that show that a seat signed twice are found, if there are two; whoever has them shows it, in either order (20 things).
-/
import Derived.Test.YtlnockimfgfcgaaPunishDeed
namespace Go.Proofs.Ytlnockimfgfcgaa
open Go.Lab
set_option maxRecDepth 10000

section
variable {es : List S_notary_entry} {table key : Arr Int 8} {l : List S_punish_Thing} {r : Option (Nat × Nat)}

/-- What was found. -/
def rI (r : Option (Nat × Nat)) : Int := match r with | some q => (q.1 : Int) | none => 0
def rJ (r : Option (Nat × Nat)) : Int := match r with | some q => (q.2 : Int) | none => 0

theorem finds_l3 (hes : es.length ≤ 65536) (hl : l.length < 1000000) (hok : ∀ T ∈ l, OkT T) (nx : Int → Option Bool) {b : Nat} (hb : b < l.length) : ∀ (n k c : Nat), c + n = b → n < k →
    (∀ a, scanA (fun a => showsF es table key l a b) c n = some a → r = some (a, b)) →
    F.baizelaw34_PunishFinds.l3 nx es (places es) l table key (rI r) (rJ r) r.isSome (b : Int) k (c : Int) = (match scanA (fun a => showsF es table key l a b) c n with | some _ => some true | none => nx ((b + 1 : Nat) : Int)) := by
  intro n
  induction n with
  | zero =>
    intro k c hc hk _
    obtain ⟨k, rfl⟩ : ∃ j, k = j + 1 := ⟨k - 1, by omega⟩
    unfold F.baizelaw34_PunishFinds.l3
    rw [if_neg (by simp; omega), wrap_succ (by omega) (by omega)]
    rfl
  | succ n ih =>
    intro k c hc hk hr
    obtain ⟨k, rfl⟩ : ∃ j, k = j + 1 := ⟨k - 1, by omega⟩
    have oc := hok (getI l (c : Int)) (getI_mem (by omega) (by omega))
    have ob := hok (getI l (b : Int)) (getI_mem (by omega) (by omega))
    have i1 : (0 : Int) ≤ (c : Int) ∧ (c : Int) < (l.length : Int) := by omega
    have i2 : (0 : Int) ≤ (b : Int) ∧ (b : Int) < (l.length : Int) := by omega
    unfold F.baizelaw34_PunishFinds.l3 F.baizelaw34_PunishFinds.c2
    rw [if_pos (by simp; omega), if_pos i1, if_pos i2, Twice_eq hes table key oc ob, Option.bind_some]
    have hs : (twiceP es table key (getI l (c : Int)) (getI l (b : Int)) == 0) = showsF es table key l c b := rfl
    rw [hs]
    unfold scanA at hr ⊢
    cases hq : showsF es table key l c b with
    | true =>
      rw [hq, if_pos rfl] at hr
      have := hr c rfl
      subst this
      have hsw : twiceP es table key (getI l (b : Int)) (getI l (c : Int)) = 0 := twice_swap (by simpa [showsF] using hq)
      rw [if_pos rfl, if_pos rfl]
      rw [show rI (some (c, b)) = (c : Int) from rfl, show rJ (some (c, b)) = (b : Int) from rfl, show (some (c, b)).isSome = true from rfl]
      rw [if_pos rfl, if_pos (by simp), if_pos (by simp), if_pos i2, if_pos i1, Twice_eq hes table key ob oc, Option.bind_some, hsw]
      rfl
    | false =>
      rw [hq, if_neg (by decide)] at hr
      rw [if_neg (by decide), if_neg (by decide), wrap_succ (by omega) (by omega)]
      have := ih k (c + 1) (by omega) (by omega) hr
      rw [show (c : Int) + 1 = ((c + 1 : Nat) : Int) by push_cast; rfl]
      exact this

theorem finds_l2 (hes : es.length ≤ 65536) (hl : l.length < 1000000) (hok : ∀ T ∈ l, OkT T) : ∀ (n k b : Nat), b + n = l.length → n < k → r = scanB (showsF es table key l) b n →
    F.baizelaw34_PunishFinds.l2 es (places es) l table key (rI r) (rJ r) r.isSome k (b : Int) = some true := by
  intro n
  induction n with
  | zero =>
    intro k b hb hk hr
    obtain ⟨k, rfl⟩ : ∃ j, k = j + 1 := ⟨k - 1, by omega⟩
    have : r = none := hr
    subst this
    unfold F.baizelaw34_PunishFinds.l2 F.baizelaw34_PunishFinds.c3
    rw [if_neg (by simp; omega)]
    rfl
  | succ n ih =>
    intro k b hb hk hr
    obtain ⟨k, rfl⟩ : ∃ j, k = j + 1 := ⟨k - 1, by omega⟩
    unfold F.baizelaw34_PunishFinds.l2
    rw [if_pos (by simp; omega)]
    unfold scanB at hr
    have h3 := finds_l3 (r := r) (table := table) (key := key) hes hl hok (F.baizelaw34_PunishFinds.l2 es (places es) l table key (rI r) (rJ r) r.isSome k) (b := b) (by omega) b fuel 0 (by omega) (by rw [fuel_eq]; omega) (fun a ha => by rw [ha] at hr; exact hr)
    simp only [Int.natCast_zero] at h3
    rw [h3]
    cases hs : scanA (fun a => showsF es table key l a b) 0 b with
    | some a => rfl
    | none =>
      rw [hs] at hr
      exact ih k (b + 1) (by omega) (by omega) hr
end

theorem finds_l1 {l1 : List S_baizelaw34_Deed} (hl : l1.length < 1000) (x1 : Int) (q1 : Bool) : ∀ (r p : List S_baizelaw34_Deed) (k : Nat) (es : List S_notary_entry) (ts : List S_punish_Thing), l1 = p ++ r → (∀ d ∈ r, OkD d) → r.length < k → es.length ≤ p.length → ts.length = p.length → (∀ T ∈ ts, OkT T) →
    F.baizelaw34_PunishFinds.l1 l1 x1 q1 k es (places es) ts (p.length : Int) = some true := by
  intro r
  induction r with
  | nil =>
    intro p k es ts hp hd hk he ht hok
    obtain ⟨k, rfl⟩ : ∃ j, k = j + 1 := ⟨k - 1, by omega⟩
    have hlp : l1.length = p.length := by rw [hp]; simp
    unfold F.baizelaw34_PunishFinds.l1
    rw [if_neg (by simp; omega), table_eq, Option.bind_some, key_eq, Option.bind_some, Find_eqP (by omega) (by omega) hok, Option.bind_some]
    have h2 := finds_l2 (es := es) (table := tabQ q1) (key := keyS x1) (l := ts) (r := scanB (showsF es (tabQ q1) (keyS x1) ts) 0 ts.length) (by omega) (by omega) hok ts.length fuel 0 (by omega) (by rw [fuel_eq]; omega) rfl
    cases hs : scanB (showsF es (tabQ q1) (keyS x1) ts) 0 ts.length with
    | none => rw [hs] at h2; exact h2
    | some q => rw [hs] at h2; exact h2
  | cons d r ih =>
    intro p k es ts hp hd hk he ht hok
    obtain ⟨k, rfl⟩ : ∃ j, k = j + 1 := ⟨k - 1, by simp at hk; omega⟩
    have hlen : l1.length = p.length + r.length + 1 := by rw [hp]; simp; omega
    have hg : getI l1 (p.length : Int) = d := by rw [hp]; exact getI_mid'
    have od := hd d (by simp)
    have hs := signL_len es ⟨keyS d.f1, dig (baseT d)⟩
    unfold F.baizelaw34_PunishFinds.l1
    rw [if_pos (by simp; omega), if_pos (by omega), hg, sign_eqD od (by omega), Option.bind_some]
    simp only []
    rw [if_pos (by simp; omega), wrap_succ (by omega) (by omega)]
    have := ih (p ++ [d]) k (signL es ⟨keyS d.f1, dig (baseT d)⟩).1 (ts ++ [withSig (baseT d) (sigE (signL es ⟨keyS d.f1, dig (baseT d)⟩).2 d.f7)]) (by rw [hp]; simp) (fun e he => hd e (by simp [he])) (by simp at hk; omega) (by simp; omega) (by simp; omega) (by
      intro T hT
      simp only [List.mem_append, List.mem_singleton] at hT
      rcases hT with hT | rfl
      · exact hok T hT
      · exact withSig_ok (base_ok od) (sigE_byts _ _))
    rw [List.length_append] at this
    simp only [List.length_cons, List.length_nil, Nat.zero_add] at this
    rw [show (p.length : Int) + 1 = ((p.length + 1 : Nat) : Int) by push_cast; rfl]
    exact this

theorem law_PunishFinds (l0 : (List S_baizelaw34_Deed)) (a1 : Int) (a2 : Bool) (w0 : (l0.length ≤ maxLen ∧ ∀ y ∈ l0, wf_S_baizelaw34_Deed y)) (w1 : (Lit.int .i64 a1).wf = true) : F.baizelaw34_PunishFinds l0 a1 a2 = some true := by
  unfold F.baizelaw34_PunishFinds
  rw [known_true, Option.bind_some, if_neg (by decide), few_eqD w0.1, Option.bind_some]
  unfold F.baizelaw34_PunishFinds.c1 F.notary_NewBook
  cases hf : (l0.all fun d => decide (d.f4.length ≤ 60)) && decide (l0.length ≤ 20) with
  | false => rw [if_pos (by decide), known_true]; rfl
  | true =>
    rw [Bool.and_eq_true, decide_eq_true_eq] at hf
    rw [if_neg (by decide), Option.bind_some]
    exact finds_l1 (by omega) a1 a2 l0 [] fuel [] [] (by simp) (okD_wf w0.2 hf.1) (by rw [fuel_eq]; omega) (Nat.le_refl _) rfl (fun T hT => by simp at hT)
end Go.Proofs.Ytlnockimfgfcgaa
