/-
  Plain facts of pairs that show that a seat signed twice.
-/
import Derived.Test.YtlnockimfgfcgaaPunishDeed
namespace Go.Proofs.Ytlnockimfgfcgaa
open Go.Lab
set_option maxRecDepth 10000

theorem twice_zero {es : List S_notary_entry} {table key : Arr Int 8} {a b : S_punish_Thing} (h : twiceP es table key a b = 0) :
    a.f1 = b.f1 ∧ (tab a = table ∧ tab b = table) ∧ (num a = num b ∧ plc a = plc b) ∧ dig a ≠ dig b ∧ okV es key (dig a) a.f9 = true ∧ okV es key (dig b) b.f9 = true := by
  unfold twiceP at h
  split at h
  · rename_i q; exact absurd h q
  split at h
  · rename_i q; exact absurd h q
  split at h
  · cases h
  split at h
  · cases h
  split at h
  · cases h
  split at h
  · cases h
  split at h
  · rename_i q1 q2 q3 q4 q5 q6 q7
    exact ⟨Classical.not_not.1 q3, Classical.not_not.1 q4, Classical.not_not.1 q5, q6, q7.1, q7.2⟩
  · cases h

theorem shows_true {es : List S_notary_entry} {table key : Arr Int 8} {l : List S_punish_Thing} {a b : Nat} : showsF es table key l a b = true ↔ twiceP es table key (getI l (a : Int)) (getI l (b : Int)) = 0 := by
  unfold showsF
  simp

theorem scanA_all {g : Nat → Bool} : ∀ {n c : Nat}, scanA g c n = none → ∀ a, c ≤ a → a < c + n → g a = false
  | 0, _, _, a, h1, h2 => by omega
  | n + 1, c, h, a, h1, h2 => by
    unfold scanA at h
    split at h
    · cases h
    · rename_i hc
      by_cases he : a = c
      · subst he; simpa using hc
      · exact scanA_all h a (by omega) (by omega)
theorem scanB_all {f : Nat → Nat → Bool} : ∀ {n b : Nat}, scanB f b n = none → ∀ a c, a < c → b ≤ c → c < b + n → f a c = false
  | 0, _, _, a, c, h1, h2, h3 => by omega
  | n + 1, b, h, a, c, h1, h2, h3 => by
    unfold scanB at h
    cases hs : scanA (fun a => f a b) 0 b with
    | some x => rw [hs] at h; cases h
    | none =>
      rw [hs] at h
      by_cases he : c = b
      · subst he; exact scanA_all hs a (by omega) (by omega)
      · exact scanB_all h a c h1 (by omega) (by omega)

theorem mkT_facts {k : Int} (hk : k = 0 ∨ k = 1) (t : Arr Int 8) (n : Int) (a : Arr Int 8) (b s : List Int) :
    (mkT k t n a b s).f1 = k ∧ tab (mkT k t n a b s) = t ∧ num (mkT k t n a b s) = n ∧ plc (mkT k t n a b s) = (if k = 0 then zA 8 else a) ∧ (mkT k t n a b s).f9 = s := by
  rcases hk with rfl | rfl
  · simp [mkT, tab, num, plc]
  · simp [mkT, tab, num, plc]

theorem mkT_chk {k : Int} (hk : k = 0 ∨ k = 1) (t : Arr Int 8) {n : Int} (a : Arr Int 8) {b s : List Int} (hn : 0 ≤ n ∧ n ≤ 1099511627776) (hb : b.length ≤ 4096) (hs : s.length ≤ 4096) : chkX (mkT k t n a b s) = 0 := by
  rcases hk with rfl | rfl
  · simp [mkT, chkX]
    omega
  · simp [mkT, chkX]
    omega

theorem withSig_mkT (k : Int) (t : Arr Int 8) (n : Int) (a : Arr Int 8) (b s : List Int) : withSig (mkT k t n a b []) s = mkT k t n a b s := by
  unfold mkT withSig
  split <;> rfl

theorem getI_mem' {l : List S_punish_Thing} {a : Nat} (h : a < l.length) : getI l (a : Int) ∈ l := getI_mem (by omega) (by omega)

/-- No pair shows it. -/
theorem find_none {es : List S_notary_entry} (hes : es.length ≤ 65536) {table key : Arr Int 8} {l : List S_punish_Thing} (hl : l.length < 1000000) (hok : ∀ T ∈ l, OkT T)
    (h : ∀ a b : Nat, a < b → b < l.length → twiceP es table key (getI l (a : Int)) (getI l (b : Int)) ≠ 0) : F.punish_Find es (places es) table key l = some (0, 0, false) := by
  rw [Find_eqP hes hl hok, scanB_none (fun a c h1 _ h3 => by
    apply Bool.eq_false_iff.2
    intro q
    exact h a c h1 (by omega) (shows_true.1 q))]
end Go.Proofs.Ytlnockimfgfcgaa
