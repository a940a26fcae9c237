/-
  Plain facts of purses' bytes: what the document tells of a purse, and what it reads, are as the program's.
-/
import Derived.Test.YticlfbpmfejdoaaPurseCodec
import Derived.Test.YticlfbpmfejdoaaPurseDeeds
import Derived.Test.YticlfbpmfejdoaaNumR
import Derived.Test.YticlfbpmfejdoaaHashR
namespace Go.Proofs.Yticlfbpmfejdoaa
open Go.Lab
set_option maxRecDepth 10000

/-! ### Bytes -/

theorem rBytesName_eq (d : Arr Int 8) : F.baizeref01_Bytes d.1 = some (encN 8 ++ d.1) := by
  have h8 : ((d.1.length : Nat) : Int) = 8 := by rw [d.2]; rfl
  have e8 := encN_len 8
  have w8 : IntKind.u64.wrap 8 = 8 := by decide
  unfold F.baizeref01_Bytes
  rw [h8, w8, ref_Num_eq (by decide) (by decide), Option.bind_some, if_pos (by rw [d.2]; omega)]

theorem rnum_eq {n : Int} (h0 : 0 ≤ n) (h1 : n < 18446744073709551616) : F.baizeref47_num n = some (encN n) := by
  have w : IntKind.u64.wrap n = n := by rw [wrap_u64]; omega
  unfold F.baizeref47_num
  rw [w, ref_Num_eq h0 h1, Option.bind_some]

theorem rbytes_l1 (l : List S_baizeref47_Held) (hok : ∀ x ∈ l.map own1, hOk x) (hl : l.length ≤ 40) : ∀ (k i : Nat) (b : List Int), i ≤ l.length → l.length - i < k → b.length + 48 * (l.length - i) ≤ 140737488320000 →
    F.baizeref47_Bytes.l1 l k b (i : Int) = some (b ++ heldsB ((l.drop i).map own1))
  | k + 1, i, b, hi, hk, hb => by
    unfold F.baizeref47_Bytes.l1
    by_cases h : i < l.length
    · have h1 := getI_drop (l := l) (i := (i : Int)) (by omega) (by omega)
      have hm := getI_mem (l := l) (i := (i : Int)) (by omega) (by omega)
      rw [show ((i : Int)).toNat = i by omega, show ((i : Int) + 1).toNat = i + 1 by omega] at h1
      have hw : IntKind.i64.wrap ((i : Int) + 1) = ((i + 1 : Nat) : Int) := by rw [wrap_id (by omega) (by omega)]; omega
      rw [if_pos (by simpa using h), if_pos (by omega), h1, hw]
      generalize getI l (i : Int) = x at hm ⊢
      have hx := hok (own1 x) (List.mem_map_of_mem hm)
      unfold hOk at hx
      have e2 : (own1 x).f2 = x.f2 := rfl
      have e3 : (own1 x).f3 = x.f3 := rfl
      have e4 : (own1 x).f4 = x.f4 := rfl
      rw [e2, e3, e4] at hx
      have h48 := heldB_len (own1 x)
      have e8 := encN_len 8
      have d8 := x.f1.2
      have n2 := encN_len x.f2
      have n3 := encN_len x.f3
      have n4 := encN_len x.f4
      rw [rBytesName_eq, Option.bind_some, if_pos (by simp only [List.length_append]; omega), rnum_eq (by omega) (by omega), Option.bind_some, if_pos (by simp only [List.length_append]; omega),
        rnum_eq (by omega) (by omega), Option.bind_some, if_pos (by simp only [List.length_append]; omega), rnum_eq (by omega) (by omega), Option.bind_some, if_pos (by simp only [List.length_append]; omega)]
      have he : b ++ (encN 8 ++ x.f1.1) ++ encN x.f2 ++ encN x.f3 ++ encN x.f4 = b ++ heldB (own1 x) := by simp [heldB, own1]
      rw [he, rbytes_l1 l hok hl k (i + 1) _ (by omega) (by omega) (by rw [List.length_append]; omega)]
      simp only [List.map_cons, heldsB, List.append_assoc]
    · rw [if_neg (by simpa using h), List.drop_eq_nil_of_le (by omega)]; simp [heldsB]

theorem rBytes_eq (d1 : Arr Int 8) {x1 : Int} {d2 : Arr Int 2} {l : List S_baizeref47_Held} (h : chk x1 d2 (l.map own1) = 0) : F.baizeref47_Bytes d1 x1 d2 l = some (allP d1 x1 d2 (l.map own1)) := by
  obtain ⟨h0, h1, h2, h16, hok, _, _, _⟩ := chk_ok h
  rw [List.length_map] at h16
  unfold Right at h1 h2
  have e8 := encN_len 8
  have d8 := d1.2
  have n2 := encN_len x1
  have n3 := encN_len (aget d2 0)
  have n4 := encN_len (aget d2 1)
  have n5 := encN_len (l.length : Int)
  unfold F.baizeref47_Bytes
  rw [rBytesName_eq, Option.bind_some, rnum_eq (by omega) (by omega), Option.bind_some, if_pos (by simp only [List.length_append]; omega), rnum_eq (by omega) (by omega), Option.bind_some, if_pos (by simp only [List.length_append]; omega),
    rnum_eq (by omega) (by omega), Option.bind_some, if_pos (by simp only [List.length_append]; omega), rnum_eq (by omega) (by omega), Option.bind_some, if_pos (by simp only [List.length_append]; omega)]
  have := rbytes_l1 l hok (by omega) fuel 0 (encN 8 ++ d1.1 ++ encN x1 ++ encN (aget d2 0) ++ encN (aget d2 1) ++ encN (l.length : Int)) (by omega) (by rw [fuel_eq]; omega) (by simp only [List.length_append]; omega)
  rw [show (((0 : Nat)) : Int) = 0 from rfl, List.drop_zero] at this
  rw [this]
  simp [allP]

theorem rDigest_eq {d1 : Arr Int 8} (x1 : Int) (d2 : Arr Int 2) {l : List S_baizeref47_Held} (hl : l.length ≤ 40) (h1 : Byts d1.1) (hb : ∀ h ∈ l.map own1, Byts h.f1.1) :
    F.baizeref47_Digest d1 x1 d2 l = some (if chk x1 d2 (l.map own1) ≠ 0 then zA 8 else hOf (wordB ++ allP d1 x1 d2 (l.map own1))) := by
  unfold F.baizeref47_Digest
  rw [rCheck_eq d1 x1 d2 hl, Option.bind_some]
  by_cases h : chk x1 d2 (l.map own1) = 0
  · have ht : F.baizeref01_Bytes [112, 117, 114, 115, 101] = some wordB := by
      have e5 := encN_len 5
      have w5 : IntKind.u64.wrap ((([112, 117, 114, 115, 101] : List Int).length : Nat) : Int) = 5 := by decide
      unfold F.baizeref01_Bytes
      rw [w5, ref_Num_eq (by decide) (by decide), Option.bind_some, if_pos (by simp only [List.length_cons, List.length_nil]; omega)]; rfl
    have hw := wordB_len
    have ha := allP_len d1 x1 d2 (l.map own1)
    rw [List.length_map] at ha
    rw [if_neg (by simpa using h), if_neg (by simpa using h), ht, Option.bind_some, rBytes_eq d1 h, Option.bind_some, if_pos (by omega),
      rOf_eq (wordB_byts.append (allP_byts x1 d2 h1 hb)) (by rw [List.length_append]; omega)]; rfl
  · rw [if_pos (by simpa using h), if_pos h]

/-! ### What is read -/

/-- The first error. -/
def refE (e r : Int) : Int := if r ≠ 0 then r else e

theorem refE_zero {e r : Int} (h : refE e r = 0) : e = 0 ∧ r = 0 := by
  unfold refE at h
  split at h
  · rename_i hr; exact absurd h hr
  · rename_i hr; exact ⟨h, by simpa using hr⟩

theorem rd_keep {l : List Int} {e : Int} (he : e ≠ 0) (most : Int) : rd l e most = (0, l, e) := by unfold rd; rw [if_pos he]
theorem rdB_keep {l : List Int} {e : Int} (he : e ≠ 0) (most : Int) : rdB l e most = ([], l, e) := by unfold rdB; rw [if_pos he]

theorem rd_stuck {l : List Int} {e r : Int} (h : refE e r ≠ 0) (most : Int) : refE (rd l e most).2.2 r = refE e r := by
  unfold refE at h ⊢
  by_cases hr : r = 0
  · subst hr
    have he : e ≠ 0 := by simpa using h
    rw [rd_keep he]
  · rw [if_pos hr, if_pos hr]

theorem rdN_stuck {l : List Int} {e r : Int} (h : refE e r ≠ 0) : refE (rdN l e r).2.2.1 (rdN l e r).2.2.2 = refE e r := by
  unfold rdN
  simp only []
  by_cases hr : r = 0
  · subst hr
    have he : e ≠ 0 := by unfold refE at h; simpa using h
    rw [rdB_keep he, if_neg (fun q => he q.2.1)]
  · rw [if_neg (fun q => hr q.1)]
    unfold refE
    rw [if_pos hr, if_pos hr]

theorem rdH_stuck {l : List Int} {e r : Int} (h : refE e r ≠ 0) : refE (rdH l e r).2.2.1 (rdH l e r).2.2.2 = refE e r := by
  have h1 := rdN_stuck (l := l) h
  generalize hp : rdN l e r = p at h1
  obtain ⟨p1, p2, p3, p4⟩ := p
  simp only [] at h1
  have h2 := rd_stuck (l := p2) (e := p3) (r := p4) (by rw [h1]; exact h) 1125899906842624
  generalize hy : rd p2 p3 1125899906842624 = y at h2
  obtain ⟨y1, y2, y3⟩ := y
  simp only [] at h2
  have h3 := rd_stuck (l := y2) (e := y3) (r := p4) (by rw [h2, h1]; exact h) 1
  generalize hz : rd y2 y3 1 = z at h3
  obtain ⟨z1, z2, z3⟩ := z
  simp only [] at h3
  have h4 := rd_stuck (l := z2) (e := z3) (r := p4) (by rw [h3, h2, h1]; exact h) 1099511627776
  generalize hw : rd z2 z3 1099511627776 = w at h4
  obtain ⟨w1, w2, w3⟩ := w
  simp only [] at h4
  have hH : rdH l e r = (⟨p1, y1, z1, w1⟩, w2, w3, p4) := by
    unfold rdH
    simp only [hp, hy, hz, hw]
  rw [hH]
  exact h4.trans (h3.trans (h2.trans h1))

theorem decH_stuck : ∀ (n : Nat) {l : List Int} {e r : Int}, refE e r ≠ 0 → refE (decH n l e r).2.2.1 (decH n l e r).2.2.2 = refE e r
  | 0, l, e, r, _ => rfl
  | n + 1, l, e, r, h => by
    have h1 := rdH_stuck (l := l) h
    simp only [decH]
    rw [decH_stuck n (by rw [h1]; exact h), h1]

theorem endE_stuck {l : List Int} {e r : Int} (h : refE e r ≠ 0) : endE l e r = refE e r := by
  unfold refE at h ⊢
  unfold endE
  by_cases hr : r = 0
  · subst hr
    have he : e ≠ 0 := by simpa using h
    simp [he]
  · rw [if_pos hr, if_pos hr]

/-- The document's reader is as far as the program's. -/
def Far (B l : List Int) (e r a : Int) : Prop := ∃ m : Nat, m ≤ B.length ∧ a = (m : Int) ∧ (refE e r = 0 → l = B.drop m)

theorem far_drop {B l : List Int} {m j : Nat} (hm : m ≤ B.length) (hl : l = B.drop m) (hj : j ≤ l.length) : (B.length : Int) - ((l.drop j).length : Int) = ((m + j : Nat) : Int) ∧ m + j ≤ B.length ∧ l.drop j = B.drop (m + j) := by
  subst hl
  rw [List.drop_drop, List.length_drop]
  rw [List.length_drop] at hj
  refine ⟨by omega, by omega, rfl⟩

theorem rread_step {B l : List Int} {e r a : Int} (hb : Byts B) (hl : B.length ≤ 140737488355328) (h : Far B l e r a) (most : Int) :
    ∃ a2 n2, F.baizeref01_Read B a (refE e r) most = some (B, a2, refE (rd l e most).2.2 r, n2) ∧ Far B (rd l e most).2.1 (rd l e most).2.2 r a2 ∧ (refE (rd l e most).2.2 r = 0 → n2 = (rd l e most).1) := by
  obtain ⟨m, hm, rfl, hd⟩ := h
  rw [ref_Read_eq hb (by omega) hm]
  by_cases hz : refE e r = 0
  · obtain ⟨he, hr⟩ := refE_zero hz
    have hl2 := hd hz
    subst he hr
    rw [hz, ← hl2]
    obtain ⟨j, hj, hq⟩ := rd_left l 0 most
    obtain ⟨f1, f2, f3⟩ := far_drop hm hl2 hj
    have hs : refE (rd l 0 most).2.2 0 = (rd l 0 most).2.2 := by simp [refE]
    rw [hs, hq]
    exact ⟨_, _, rfl, ⟨m + j, f2, f1, fun _ => f3⟩, fun _ => rfl⟩
  · have hs := rd_stuck (l := l) hz most
    rw [hs, rd_keep hz]
    refine ⟨_, _, rfl, ⟨m, hm, ?_, fun q => absurd (hs ▸ q) hz⟩, fun q => absurd q hz⟩
    simp only []
    rw [List.length_drop]; omega

theorem rname_l1 (B : List Int) (a e : Int) (k : Nat) (c0 c1 c2 c3 c4 c5 c6 c7 : Int) :
    F.baizeref47_name.l1 B a e [c0, c1, c2, c3, c4, c5, c6, c7] (k + 9) (zA 8) 0 = some (B, a, e, (⟨[c0, c1, c2, c3, c4, c5, c6, c7], rfl⟩ : Arr Int 8)) := by
  have st : ∀ (j : Nat) (kk : Nat) (d : Arr Int 8), j < 8 →
      F.baizeref47_name.l1 B a e [c0, c1, c2, c3, c4, c5, c6, c7] (kk + 1) d (j : Int) = F.baizeref47_name.l1 B a e [c0, c1, c2, c3, c4, c5, c6, c7] kk (aset d (j : Int) (getI [c0, c1, c2, c3, c4, c5, c6, c7] (j : Int))) ((j + 1 : Nat) : Int) := by
    intro j kk d hj
    have w2 : IntKind.i64.wrap ((j : Int) + 1) = ((j + 1 : Nat) : Int) := by rw [wrap_id (by omega) (by omega)]; omega
    conv => lhs; unfold F.baizeref47_name.l1
    rw [if_pos (by simp; omega), w2, if_pos (by simp; omega), if_pos (by omega)]
  have e0 := st 0 (k + 8) (zA 8) (by omega)
  have e1 := st 1 (k + 7) (aset (zA 8) 0 c0) (by omega)
  have e2 := st 2 (k + 6) (aset (aset (zA 8) 0 c0) 1 c1) (by omega)
  have e3 := st 3 (k + 5) (aset (aset (aset (zA 8) 0 c0) 1 c1) 2 c2) (by omega)
  have e4 := st 4 (k + 4) (aset (aset (aset (aset (zA 8) 0 c0) 1 c1) 2 c2) 3 c3) (by omega)
  have e5 := st 5 (k + 3) (aset (aset (aset (aset (aset (zA 8) 0 c0) 1 c1) 2 c2) 3 c3) 4 c4) (by omega)
  have e6 := st 6 (k + 2) (aset (aset (aset (aset (aset (aset (zA 8) 0 c0) 1 c1) 2 c2) 3 c3) 4 c4) 5 c5) (by omega)
  have e7 := st 7 (k + 1) (aset (aset (aset (aset (aset (aset (aset (zA 8) 0 c0) 1 c1) 2 c2) 3 c3) 4 c4) 5 c5) 6 c6) (by omega)
  have ed : aset (aset (aset (aset (aset (aset (aset (aset (zA 8) 0 c0) 1 c1) 2 c2) 3 c3) 4 c4) 5 c5) 6 c6) 7 c7 = (⟨[c0, c1, c2, c3, c4, c5, c6, c7], rfl⟩ : Arr Int 8) := Subtype.ext rfl
  refine e0.trans (e1.trans (e2.trans (e3.trans (e4.trans (e5.trans (e6.trans (e7.trans ?_)))))))
  show F.baizeref47_name.l1 B a e [c0, c1, c2, c3, c4, c5, c6, c7] (k + 1) (aset (aset (aset (aset (aset (aset (aset (aset (zA 8) 0 c0) 1 c1) 2 c2) 3 c3) 4 c4) 5 c5) 6 c6) 7 c7) 8 = _
  rw [ed]
  unfold F.baizeref47_name.l1
  rw [if_neg (by decide)]

theorem rname_step {B l : List Int} {e r a : Int} (hb : Byts B) (hl : B.length ≤ 140737488355328) (h : Far B l e r a) :
    ∃ a2 d2, F.baizeref47_name B a (refE e r) = some (B, a2, refE (rdN l e r).2.2.1 (rdN l e r).2.2.2, d2) ∧ Far B (rdN l e r).2.1 (rdN l e r).2.2.1 (rdN l e r).2.2.2 a2 ∧ (refE (rdN l e r).2.2.1 (rdN l e r).2.2.2 = 0 → d2 = (rdN l e r).1) := by
  obtain ⟨m, hm, rfl, hd⟩ := h
  unfold F.baizeref47_name
  rw [ref_Some_eq hb hl hm _ (by decide) (by decide), Option.bind_some]
  by_cases hz : refE e r = 0
  · obtain ⟨he, hr⟩ := refE_zero hz
    have hl2 := hd hz
    subst he hr
    rw [hz, ← hl2]
    obtain ⟨j, hj, hq⟩ := rdB_left l 0 8
    obtain ⟨f1, f2, f3⟩ := far_drop hm hl2 hj
    rw [hq]
    unfold rdN
    generalize rdB l 0 8 = p at hq ⊢
    obtain ⟨x, y, z⟩ := p
    simp only [] at hq ⊢
    subst hq
    by_cases h1 : z = 0
    · subst h1
      rw [if_neg (by decide)]
      by_cases h8 : x.length = 8
      · rw [if_neg (by simp [h8]), if_neg (by simp [h8])]
        match x, h8 with
        | [c0, c1, c2, c3, c4, c5, c6, c7], _ =>
          rw [show fuel = 9223372036854775799 + 9 from rfl, rname_l1]
          exact ⟨_, _, rfl, ⟨m + j, f2, f1, fun _ => f3⟩, fun _ => (copy8 ⟨[c0, c1, c2, c3, c4, c5, c6, c7], rfl⟩).symm⟩
      · rw [if_pos (by simp; omega), if_pos (by simp [h8])]
        unfold F.baizeref01_Fail
        rw [Option.bind_some]
        exact ⟨_, _, rfl, ⟨m, hm, rfl, fun q => absurd q (by simp [refE])⟩, fun q => absurd q (by simp [refE])⟩
    · rw [if_pos (by simpa using h1), if_neg (fun q => h1 q.2.1)]
      have hs : refE z 0 = z := by simp [refE]
      rw [hs]
      exact ⟨_, _, rfl, ⟨m + j, f2, f1, fun q => absurd (hs ▸ q) h1⟩, fun q => absurd q h1⟩
  · have hs := rdN_stuck (l := l) hz
    rw [hs, rdB_keep hz]
    simp only []
    rw [if_pos (by simpa using hz)]
    refine ⟨_, _, rfl, ⟨m, hm, ?_, fun q => absurd (hs ▸ q) hz⟩, fun q => absurd q hz⟩
    rw [List.length_drop]; omega

def rconvP (q : Arr Int 8 × Int × Arr Int 2 × List S_purse_Held × Int) : Arr Int 8 × Int × Arr Int 2 × List S_baizeref47_Held × Int := (q.1, q.2.1, q.2.2.1, q.2.2.2.1.map own2, q.2.2.2.2)

theorem finP_bad (d1 : Arr Int 8) (x u v : Int) (hs : List S_purse_Held) {z : Int} (h : z ≠ 0) : finP d1 x u v hs z = (zA 8, 0, zA 2, [], z) := by
  unfold finP
  rw [if_neg h, if_pos h]

theorem rend_step {B l : List Int} {e r a : Int} (h : Far B l e r a) : F.baizeref01_End B a (refE e r) = some (endE l e r) := by
  obtain ⟨m, hm, rfl, hd⟩ := h
  rw [ref_End_eq]
  by_cases hz : refE e r = 0
  · obtain ⟨he, hr⟩ := refE_zero hz
    have hl := hd hz
    subst he hr hl
    simp only [refE, endE, List.length_drop]
    by_cases hc : m < B.length
    · simp [hc]; omega
    · simp [hc]; omega
  · rw [endE_stuck hz, if_pos hz]

theorem rfinal (d1 : Arr Int 8) {x5 x8 x11 x u v : Int} (hx : IntKind.i64.wrap x5 = x) (hu : IntKind.i64.wrap x8 = u) (hv : IntKind.i64.wrap x11 = v) (nx : List Int → Int → Int → List S_baizeref47_Held → Int → Option (Arr Int 8 × Int × Arr Int 2 × List S_baizeref47_Held × Int))
    {B l : List Int} {e r a : Int} (h : Far B l e r a) (acc : List S_purse_Held) (ha : acc.length ≤ 40) (i : Int) :
    F.baizeref47_Decode.c1 nx d1 x5 x8 x11 B a (refE e r) (acc.map own2) i false = some (rconvP (finP d1 x u v acc (endE l e r))) := by
  unfold F.baizeref47_Decode.c1
  rw [if_neg (by simp), rend_step h, Option.bind_some]
  generalize endE l e r = z
  by_cases hz : z = 0
  · rw [if_neg (by simpa using hz), hx, hu, hv]
    show ((F.baizeref47_Check d1 x (mkP u v) (acc.map own2)).bind _) = _
    rw [rCheck_eq _ _ _ (by rw [List.length_map]; exact ha), map12, Option.bind_some]
    unfold finP rconvP
    simp only [if_pos hz]
    generalize chk x (mkP u v) acc = c
    by_cases hc : c = 0
    · rw [if_neg (by simpa using hc), if_neg (by simpa using hc)]; rfl
    · rw [if_pos (by simpa using hc), if_pos hc]; rfl
  · rw [if_pos (by simpa using hz), finP_bad _ _ _ _ _ hz]; rfl

theorem rstuck (d1 : Arr Int 8) (x5 x8 x11 x14 : Int) (k : Nat) {B l : List Int} {e r a : Int} (h : Far B l e r a) (hz : refE e r ≠ 0) (acc : List S_baizeref47_Held) (i : Int) :
    F.baizeref47_Decode.l1 d1 x5 x8 x11 x14 (k + 1) B a (refE e r) acc i = some (zA 8, 0, zA 2, [], refE e r) := by
  have hc : ∀ nx, F.baizeref47_Decode.c1 nx d1 x5 x8 x11 B a (refE e r) acc i false = some (zA 8, 0, zA 2, [], refE e r) := by
    intro nx
    unfold F.baizeref47_Decode.c1
    rw [if_neg (by simp), rend_step h, Option.bind_some, endE_stuck hz, if_pos (by simpa using hz)]
  unfold F.baizeref47_Decode.l1
  rw [show (refE e r == 0) = false by simpa using hz, hc, ite_self]

theorem rdecode_l1 (d1 : Arr Int 8) {x5 x8 x11 x u v : Int} (hx : IntKind.i64.wrap x5 = x) (hu : IntKind.i64.wrap x8 = u) (hv : IntKind.i64.wrap x11 = v) {x14 N : Int} (hN : IntKind.i64.wrap x14 = N) (h16 : N ≤ 16) {B : List Int} (hb : Byts B) (hl : B.length ≤ 140737488355328) :
    ∀ (n k i : Nat) (l : List Int) (e r a : Int) (acc : List S_purse_Held), Far B l e r a → Byts l → N = (i : Int) + (n : Int) → n < k → acc.length = i →
    F.baizeref47_Decode.l1 d1 x5 x8 x11 x14 k B a (refE e r) (acc.map own2) (i : Int) = some (rconvP (finP d1 x u v (acc ++ (decH n l e r).1) (endE (decH n l e r).2.1 (decH n l e r).2.2.1 (decH n l e r).2.2.2))) := by
  intro n
  induction n with
  | zero =>
    intro k i l e r a acc h _ hi hk ha
    obtain ⟨k, rfl⟩ : ∃ j, k = j + 1 := ⟨k - 1, by omega⟩
    unfold F.baizeref47_Decode.l1
    rw [hN, if_neg (by simp; omega), rfinal d1 hx hu hv _ h acc (by omega)]
    simp only [decH, List.append_nil]
  | succ n ih =>
    intro k i l e r a acc h hbl hi hk ha
    obtain ⟨k, rfl⟩ : ∃ j, k = j + 1 := ⟨k - 1, by omega⟩
    by_cases hz : refE e r = 0
    case neg =>
      rw [rstuck d1 x5 x8 x11 x14 k h hz, endE_stuck (by rw [decH_stuck _ hz]; exact hz), decH_stuck _ hz, finP_bad _ _ _ _ _ hz]
      rfl
    have hw : IntKind.i64.wrap ((i : Int) + 1) = ((i + 1 : Nat) : Int) := by rw [wrap_id (by omega) (by omega)]; omega
    unfold F.baizeref47_Decode.l1
    rw [hN, if_pos (by simp; omega), hz, show ((0 : Int) == 0) = true from rfl]
    conv => lhs; unfold F.baizeref47_Decode.c1
    rw [if_pos rfl]
    have hz0 := hz
    rw [← hz]
    obtain ⟨a1, dd, n0, h1, g1⟩ := rname_step hb hl h
    have fN := rdN_fact hbl e r
    have hst : rdH l e r = rdH l e r := rfl
    unfold rdH at hst
    simp only [] at hst
    generalize hp : rdN l e r = p at n0 h1 g1 fN hst
    obtain ⟨p1, p2, p3, p4⟩ := p
    simp only [] at n0 h1 g1 fN hst
    rw [n0, Option.bind_some]
    simp only []
    obtain ⟨a2, m2, n1, h2, g2⟩ := rread_step hb hl h1 1125899906842624
    have b1 := rd_byts fN.1 p3 1125899906842624
    have c1 := rd_num0 fN.1 p3 (show (0 : Int) ≤ 1125899906842624 by decide)
    have s1 := fun q : refE p3 p4 ≠ 0 => rd_stuck (l := p2) q 1125899906842624
    generalize hy : rd p2 p3 1125899906842624 = y at n1 h2 g2 b1 c1 hst s1
    obtain ⟨y1, y2, y3⟩ := y
    simp only [] at n1 h2 g2 b1 c1 hst s1
    rw [n1, Option.bind_some]
    simp only []
    obtain ⟨a3, m3, n2, h3, g3⟩ := rread_step hb hl h2 1
    have b2 := rd_byts b1 y3 1
    have c2 := rd_num0 b1 y3 (show (0 : Int) ≤ 1 by decide)
    have s2 := fun q : refE y3 p4 ≠ 0 => rd_stuck (l := y2) q 1
    generalize hzz : rd y2 y3 1 = z at n2 h3 g3 b2 c2 hst s2
    obtain ⟨z1, z2, z3⟩ := z
    simp only [] at n2 h3 g3 b2 c2 hst s2
    rw [n2, Option.bind_some]
    simp only []
    obtain ⟨a4, m4, n3, h4, g4⟩ := rread_step hb hl h3 1099511627776
    have b3 := rd_byts b2 z3 1099511627776
    have c3 := rd_num0 b2 z3 (show (0 : Int) ≤ 1099511627776 by decide)
    have s3 := fun q : refE z3 p4 ≠ 0 => rd_stuck (l := z2) q 1099511627776
    generalize hww : rd z2 z3 1099511627776 = w at n3 h4 g4 b3 c3 hst s3
    obtain ⟨w1, w2, w3⟩ := w
    simp only [] at n3 h4 g4 b3 c3 hst s3
    rw [n3, Option.bind_some]
    simp only []
    rw [if_pos (by rw [List.length_map, List.length_cons, List.length_nil]; omega), hw]
    have hH : rdH l e r = (⟨p1, y1, z1, w1⟩, w2, w3, p4) := by
      unfold rdH
      simp only [hp, hy, hzz, hww]
    by_cases hf : refE w3 p4 = 0
    · have e3 : refE z3 p4 = 0 := by
        apply Classical.byContradiction; intro q; exact q ((s3 q).symm.trans hf)
      have e2 : refE y3 p4 = 0 := by
        apply Classical.byContradiction; intro q; exact q ((s2 q).symm.trans e3)
      have e1 : refE p3 p4 = 0 := by
        apply Classical.byContradiction; intro q; exact q ((s1 q).symm.trans e2)
      rw [g1 e1, g2 e2, g3 e3, g4 hf, wrap_id (x := y1) (by omega) (by omega), wrap_id (x := z1) (by omega) (by omega), wrap_id (x := w1) (by omega) (by omega)]
      have hm : acc.map own2 ++ [(⟨p1, y1, z1, w1⟩ : S_baizeref47_Held)] = (acc ++ [(⟨p1, y1, z1, w1⟩ : S_purse_Held)]).map own2 := by simp [own2]
      rw [hm, ih k (i + 1) w2 w3 p4 a4 _ h4 b3 (by omega) (by omega) (by simp [ha])]
      simp only [decH, hH, List.append_assoc, List.cons_append, List.nil_append]
    · obtain ⟨k, rfl⟩ : ∃ j, k = j + 1 := ⟨k - 1, by omega⟩
      rw [rstuck d1 x5 x8 x11 x14 k h4 hf]
      simp only [decH, hH]
      rw [endE_stuck (by rw [decH_stuck _ hf]; exact hf), decH_stuck _ hf, finP_bad _ _ _ _ _ hf]
      rfl

theorem rDecode_eq {b : List Int} (hb : Byts b) (hl : b.length ≤ 140737488355328) : F.baizeref47_Decode b = some (rconvP (decP b)) := by
  have h : Far b b 0 0 0 := ⟨0, by omega, rfl, fun _ => rfl⟩
  unfold F.baizeref47_Decode decP
  obtain ⟨a1, dd, n0, h1, g1⟩ := rname_step hb hl h
  rw [show refE 0 0 = 0 from rfl] at n0
  rw [n0, Option.bind_some]
  simp only []
  have fN := rdN_fact hb 0 0
  generalize hp : rdN b 0 0 = p at h1 g1 fN ⊢
  obtain ⟨p1, p2, p3, p4⟩ := p
  simp only [] at h1 g1 fN ⊢
  obtain ⟨a2, m2, n1, h2, g2⟩ := rread_step hb hl h1 1099511627776
  rw [n1, Option.bind_some]
  simp only []
  have b1 := rd_byts fN.1 p3 1099511627776
  have c1 := rd_num0 fN.1 p3 (show (0 : Int) ≤ 1099511627776 by decide)
  have s1 := fun q : refE p3 p4 ≠ 0 => rd_stuck (l := p2) q 1099511627776
  generalize rd p2 p3 1099511627776 = y at h2 g2 b1 c1 s1 ⊢
  obtain ⟨y1, y2, y3⟩ := y
  simp only [] at h2 g2 b1 c1 s1 ⊢
  obtain ⟨a3, m3, n2, h3, g3⟩ := rread_step hb hl h2 1125899906842624
  rw [n2, Option.bind_some]
  simp only []
  have b2 := rd_byts b1 y3 1125899906842624
  have c2 := rd_num0 b1 y3 (show (0 : Int) ≤ 1125899906842624 by decide)
  have s2 := fun q : refE y3 p4 ≠ 0 => rd_stuck (l := y2) q 1125899906842624
  generalize rd y2 y3 1125899906842624 = z at h3 g3 b2 c2 s2 ⊢
  obtain ⟨z1, z2, z3⟩ := z
  simp only [] at h3 g3 b2 c2 s2 ⊢
  obtain ⟨a4, m4, n3, h4, g4⟩ := rread_step hb hl h3 1125899906842624
  rw [n3, Option.bind_some]
  simp only []
  have b3 := rd_byts b2 z3 1125899906842624
  have c3 := rd_num0 b2 z3 (show (0 : Int) ≤ 1125899906842624 by decide)
  have s3 := fun q : refE z3 p4 ≠ 0 => rd_stuck (l := z2) q 1125899906842624
  generalize rd z2 z3 1125899906842624 = w at h4 g4 b3 c3 s3 ⊢
  obtain ⟨w1, w2, w3⟩ := w
  simp only [] at h4 g4 b3 c3 s3 ⊢
  obtain ⟨a5, m5, n4, h5, g5⟩ := rread_step hb hl h4 16
  rw [n4, Option.bind_some]
  simp only []
  have b4 := rd_byts b3 w3 16
  have c4 := rd_num0 b3 w3 (show (0 : Int) ≤ 16 by decide)
  have s4 := fun q : refE w3 p4 ≠ 0 => rd_stuck (l := w2) q 16
  generalize rd w2 w3 16 = t at h5 g5 b4 c4 s4 ⊢
  obtain ⟨t1, t2, t3⟩ := t
  simp only [] at h5 g5 b4 c4 s4 ⊢
  by_cases hf : refE t3 p4 = 0
  · have e4 : refE w3 p4 = 0 := by
      apply Classical.byContradiction; intro q; exact q ((s4 q).symm.trans hf)
    have e3 : refE z3 p4 = 0 := by
      apply Classical.byContradiction; intro q; exact q ((s3 q).symm.trans e4)
    have e2 : refE y3 p4 = 0 := by
      apply Classical.byContradiction; intro q; exact q ((s2 q).symm.trans e3)
    have e1 : refE p3 p4 = 0 := by
      apply Classical.byContradiction; intro q; exact q ((s1 q).symm.trans e2)
    have q1 := g1 e1
    have q2 := g2 e2
    have q3 := g3 e3
    have q4 := g4 e4
    have q5 := g5 hf
    subst q1 q2 q3 q4 q5
    have := rdecode_l1 dd (x5 := m2) (x8 := m3) (x11 := m4) (x := m2) (u := m3) (v := m4) (wrap_id (by omega) (by omega)) (wrap_id (by omega) (by omega)) (wrap_id (by omega) (by omega)) (x14 := m5) (N := m5) (wrap_id (by omega) (by omega)) c4.2 hb hl
      m5.toNat fuel 0 t2 t3 p4 a5 [] h5 b4 (by omega) (by rw [fuel_eq]; omega) rfl
    rw [List.nil_append] at this
    exact this
  · rw [show fuel = 9223372036854775807 + 1 from rfl, rstuck _ _ _ _ _ _ h5 hf, endE_stuck (by rw [decH_stuck _ hf]; exact hf), decH_stuck _ hf, finP_bad _ _ _ _ _ hf]
    rfl
end Go.Proofs.Yticlfbpmfejdoaa
