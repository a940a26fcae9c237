/-
  The plain law of PurseTells: the bytes and the digest of any purse, and the purse of any bytes, are as the document says.
-/
import Derived.Test.YticlfbpmfejdoaaPurseCodecR
namespace Go.Proofs.Yticlfbpmfejdoaa
open Go.Lab
set_option maxRecDepth 10000

theorem Back_l1 (d1 : Arr Int 8) (x1 : Int) (d2 : Arr Int 2) (l : List S_purse_Held) (hl : l.length ≤ 41) : ∀ (k i : Nat) (a : List S_baizeref47_Held), i ≤ l.length → l.length - i < k → a.length ≤ i →
    F.baizelaw47_Back.l1 d1 x1 d2 l k a (i : Int) = some (d1, x1, d2, a ++ (l.drop i).map own2)
  | k + 1, i, a, hi, hk, ha => by
    unfold F.baizelaw47_Back.l1
    by_cases h : i < l.length
    · have h1 := getI_drop (l := l) (i := (i : Int)) (by omega) (by omega)
      rw [show ((i : Int)).toNat = i by omega, show ((i : Int) + 1).toNat = i + 1 by omega] at h1
      have hw : IntKind.i64.wrap ((i : Int) + 1) = ((i + 1 : Nat) : Int) := by rw [wrap_id (by omega) (by omega)]; omega
      rw [if_pos (by simpa using h), if_pos (by omega), if_pos (by simp; omega), hw, Back_l1 d1 x1 d2 l hl k (i + 1) _ (by omega) (by omega) (by simp; omega), h1]
      simp [own2]
    · rw [if_neg (by simpa using h), List.drop_eq_nil_of_le (by omega)]; simp

theorem Back_eq (d1 : Arr Int 8) (x1 : Int) (d2 : Arr Int 2) {l : List S_purse_Held} (hl : l.length ≤ 41) : F.baizelaw47_Back d1 x1 d2 l = some (d1, x1, d2, l.map own2) := by
  have := Back_l1 d1 x1 d2 l hl fuel 0 [] (by omega) (by rw [fuel_eq]; omega) (by simp)
  simpa [F.baizelaw47_Back] using this

theorem rSame_l1 (l : List S_baizeref47_Held) (hl : l.length ≤ 41) : ∀ (k i : Nat), l.length - i < k → F.baizeref47_Same.l1 l l k (i : Int) = some true
  | k + 1, i, hk => by
    unfold F.baizeref47_Same.l1
    by_cases h : i < l.length
    · have hw : IntKind.i64.wrap ((i : Int) + 1) = ((i + 1 : Nat) : Int) := by rw [wrap_id (by omega) (by omega)]; omega
      rw [if_pos (by simpa using h), if_pos (by omega), if_pos (by omega), if_neg (by simp), hw, rSame_l1 l hl k (i + 1) (by omega)]
    · rw [if_neg (by simpa using h)]

theorem rSame_refl (d1 : Arr Int 8) (x1 : Int) (d2 : Arr Int 2) {l : List S_baizeref47_Held} (hl : l.length ≤ 41) : F.baizeref47_Same d1 x1 d2 l d1 x1 d2 l = some true := by
  unfold F.baizeref47_Same F.baizeref47_Same.c1
  rw [if_neg (by simp), if_neg (by simp), if_neg (by simp), if_neg (by simp)]
  exact rSame_l1 l hl fuel 0 (by rw [fuel_eq]; omega)

theorem finP_len (d1 : Arr Int 8) (x u v : Int) (hs : List S_purse_Held) (z : Int) : (finP d1 x u v hs z).2.2.2.1.length ≤ 16 := by
  unfold finP
  by_cases hz : z = 0
  · simp only [if_pos hz]
    by_cases hc : chk x (mkP u v) hs = 0
    · rw [if_neg (by simpa using hc)]; exact (chk_ok hc).2.2.2.1
    · rw [if_pos hc]; simp
  · simp only [if_neg hz]
    rw [if_pos hz]; simp

theorem tells_c2 {b : List Int} (hb : Byts b) (hl : b.length ≤ 1000) : F.baizelaw47_PurseTells.c2 b false = some true := by
  unfold F.baizelaw47_PurseTells.c2
  have hf : (decP b).2.2.2.1.length ≤ 16 := finP_len _ _ _ _ _ _
  have hd := pDecode_eq hb (by omega)
  have hr := rDecode_eq hb (by omega)
  generalize decP b = q at hf hd hr
  obtain ⟨q1, q2, q3, q4, q5⟩ := q
  simp only [rconvP] at hf hr
  rw [if_neg (by simp), hd, Option.bind_some, hr]
  simp only [Option.bind_some]
  rw [if_pos (by simp), Back_eq _ _ _ (by omega), Option.bind_some]
  simp only []
  rw [rSame_refl _ _ _ (by rw [List.length_map]; omega), Option.bind_some, if_pos rfl, told_true]
  rfl

theorem law_PurseTells (y0 : S_baizeref47_Purse) (l1 : (List Int)) (w0 : wf_S_baizeref47_Purse y0) (w1 : (l1.length ≤ maxLen ∧ ∀ y ∈ l1, (Lit.int .u8 y).wf = true)) : F.baizelaw47_PurseTells y0.f1 y0.f2 y0.f3 y0.f4 l1 = some true := by
  have ct : ∀ d1 x1 d2 l l2, F.baizelaw47_PurseTells.c1 d1 x1 d2 l l2 true = some true := by
    intros; unfold F.baizelaw47_PurseTells.c1; rw [if_pos rfl, told_true]; rfl
  have hb1 : Byts y0.f1.1 := byts_wf w0.1
  have hbl : Byts l1 := byts_wf w1.2
  have hbh : ∀ h ∈ y0.f4.map own1, Byts h.f1.1 := by
    intro h hh
    obtain ⟨z, hz, rfl⟩ := List.mem_map.1 hh
    exact byts_wf (w0.2.2.2.2 z hz).1
  unfold F.baizelaw47_PurseTells F.baizelaw47_great
  rw [Option.bind_some]
  by_cases hg : y0.f4.length > 40
  · rw [if_pos (by simp; omega)]; exact ct ..
  rw [if_neg (by simp; omega)]
  by_cases hn : l1.length > 1000
  · rw [decide_eq_true (by omega)]; exact ct ..
  rw [decide_eq_false (by omega)]
  have hl : y0.f4.length ≤ 40 := by omega
  have hm : (y0.f4.map own1).length ≤ 40 := by rw [List.length_map]; omega
  have hp := pDigest_eq y0.f2 y0.f3 hm hb1 hbh
  have hr := rDigest_eq y0.f2 y0.f3 hl hb1 hbh
  have hc := rCheck_eq y0.f1 y0.f2 y0.f3 hl
  have hE := pEncode_eq y0.f1 y0.f2 y0.f3 hm
  have hO := Own_eq y0.f1 y0.f2 y0.f3 hl
  have h2 := tells_c2 hbl (by omega)
  unfold F.baizelaw47_PurseTells.c1
  rw [if_neg (by simp), hO, Option.bind_some]
  simp only []
  by_cases h : chk y0.f2 y0.f3 (y0.f4.map own1) = 0
  · rw [if_neg (by simpa using h)] at hE
    rw [h] at hc
    rw [hE, Option.bind_some]
    simp only []
    rw [hc, Option.bind_some, if_neg (by decide), if_neg (by decide), if_pos (by decide), rBytes_eq _ h, Option.bind_some, if_neg (by simp), Option.bind_some]
    simp only []
    rw [hp, Option.bind_some, hr, Option.bind_some]
    simp only [BEq.rfl, Bool.not_true]
    exact h2
  · rw [if_pos h] at hE
    generalize chk y0.f2 y0.f3 (y0.f4.map own1) = c at h hc hE hp hr
    rw [hE, Option.bind_some]
    simp only []
    rw [hc, Option.bind_some, if_neg (by simp), if_pos (by simpa using h), if_neg (by simp), if_neg (by simpa using h), Option.bind_some]
    simp only []
    rw [hp, Option.bind_some, hr, Option.bind_some]
    simp only [BEq.rfl, Bool.not_true]
    exact h2
end Go.Proofs.Yticlfbpmfejdoaa
