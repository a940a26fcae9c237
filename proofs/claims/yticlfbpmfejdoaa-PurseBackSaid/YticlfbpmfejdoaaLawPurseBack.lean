/-
  The plain law of PurseBack: what is held and given back is as if nothing had been, but for the number.
-/
import Derived.Test.YticlfbpmfejdoaaPurseKeep
namespace Go.Proofs.Yticlfbpmfejdoaa
open Go.Lab
set_option maxRecDepth 10000

theorem Free_eq (d1 : Arr Int 8) (x1 : Int) (d2 : Arr Int 2) {l : List S_purse_Held} (hl : l.length ≤ 40) (d3 : Arr Int 8) (over : Int) :
    F.purse_Purse_Free d1 x1 d2 l d3 over = some (fin d1 x1 d2 l (freeE l d3.1 over) (partD d2 (getI l (plcI l d3.1)) over) (without l (plcI l d3.1))) := by
  have h := do_eq d1 x1 d2 hl 2 d3 over 0 0
  unfold F.baizelaw47_do at h
  rw [if_neg (by decide), if_neg (by decide), if_pos (by decide)] at h
  have idn : ∀ (o : Option RP), (o.bind fun (d4, x6, d5, l2, x7) => some (d4, x6, d5, l2, x7)) = o := by intro o; cases o <;> rfl
  rw [idn] at h
  rw [h]
  rfl

theorem BackP_eq (d1 : Arr Int 8) (x1 : Int) (d2 : Arr Int 2) {l : List S_purse_Held} (hl : l.length ≤ 40) (d3 : Arr Int 8) (now : Int) :
    F.purse_Purse_Back d1 x1 d2 l d3 now = some (fin d1 x1 d2 l (backE l d3.1 now) (partD d2 (getI l (plcI l d3.1)) 0) (without l (plcI l d3.1))) := by
  have h := do_eq d1 x1 d2 hl 3 d3 0 0 now
  unfold F.baizelaw47_do at h
  rw [if_neg (by decide), if_neg (by decide), if_neg (by decide)] at h
  have idn : ∀ (o : Option RP), (o.bind fun (d4, x6, d5, l2, x7) => some (d4, x6, d5, l2, x7)) = o := by intro o; cases o <;> rfl
  rw [idn] at h
  rw [h]
  rfl

theorem plc_last : ∀ {l : List S_purse_Held} {h : S_purse_Held}, (∀ z ∈ l, z.f1.1 ≠ h.f1.1) → plc (l ++ [h]) h.f1.1 = some l.length
  | [], h, _ => by simp [plc]
  | x :: r, h, hn => by
    have := plc_last (l := r) (h := h) fun z hz => hn z (by simp [hz])
    simp only [List.cons_append, plc]
    rw [if_neg (hn x (by simp)), this]
    simp

theorem plc_other : ∀ {l : List S_purse_Held} {h : S_purse_Held} {n : List Int}, h.f1.1 ≠ n → plc (l ++ [h]) n = plc l n
  | [], h, n, hn => by simp [plc, hn]
  | x :: r, h, n, hn => by
    simp only [List.cons_append, plc]
    rw [plc_other hn]

theorem plcI_last {l : List S_purse_Held} {h : S_purse_Held} (hn : ∀ z ∈ l, z.f1.1 ≠ h.f1.1) : plcI (l ++ [h]) h.f1.1 = (l.length : Int) := by
  unfold plcI; rw [plc_last hn]
theorem plcI_other {l : List S_purse_Held} {h : S_purse_Held} {n : List Int} (hn : h.f1.1 ≠ n) : plcI (l ++ [h]) n = plcI l n := by
  unfold plcI; rw [plc_other hn]

theorem getI_last (l : List S_purse_Held) (h : S_purse_Held) : getI (l ++ [h]) (l.length : Int) = h := by
  unfold getI
  rw [List.getD_eq_getElem?_getD, show ((l.length : Int)).toNat = l.length by omega, List.getElem?_append_right (Nat.le_refl _)]
  simp
theorem getI_front {l : List S_purse_Held} (h : S_purse_Held) {i : Int} (h0 : 0 ≤ i) (h1 : i < (l.length : Int)) : getI (l ++ [h]) i = getI l i := by
  unfold getI
  rw [List.getD_eq_getElem?_getD, List.getD_eq_getElem?_getD, List.getElem?_append_left (by omega)]
theorem without_last (l : List S_purse_Held) (h : S_purse_Held) : without (l ++ [h]) (l.length : Int) = l := by
  unfold without
  rw [show ((l.length : Int)).toNat = l.length by omega, List.take_left, List.drop_eq_nil_of_le (by simp)]
  simp
theorem without_front {l : List S_purse_Held} (h : S_purse_Held) {i : Int} (h0 : 0 ≤ i) (h1 : i < (l.length : Int)) : without (l ++ [h]) i = without l i ++ [h] := by
  unfold without
  rw [List.take_append_of_le_length (by omega), List.drop_append_of_le_length (by omega), List.append_assoc]

theorem mv_back (d : Arr Int 2) {s : Int} (a : Int) (hs : s = 0 ∨ s = 1) : mv (mv d s (-a) 0) s (a - 0) 0 = d := by
  conv => rhs; rw [arr2 d]
  rcases hs with rfl | rfl
  · unfold mv; rw [if_pos rfl, if_pos rfl, (aget_mk2 _ _).1, (aget_mk2 _ _).2]; congr 1 <;> omega
  · unfold mv; rw [if_neg (by decide), if_neg (by decide), (aget_mk2 _ _).1, (aget_mk2 _ _).2]; congr 1 <;> omega

theorem mv_swap (d : Arr Int 2) {s r : Int} (a u v : Int) (hs : s = 0 ∨ s = 1) (hr : r = 0 ∨ r = 1) : mv (mv (mv d s (-a) 0) r u v) s (a - 0) 0 = mv d r u v := by
  rcases hs with rfl | rfl <;> rcases hr with rfl | rfl <;> unfold mv <;> simp only [aget_mk2, if_true, show ¬ ((1 : Int) = 0) by decide, if_false] <;> congr 1 <;> omega

theorem fin_ok {d1 : Arr Int 8} {x1 : Int} {d2 : Arr Int 2} {l : List S_purse_Held} (h : Ok x1 d2 l) (hx : x1 ≠ 1099511627776) (e : Int) (d2' : Arr Int 2) (l' : List S_purse_Held) :
    fin d1 x1 d2 l e d2' l' = if e ≠ 0 then zr e else (d1, x1 + 1, d2', l', 0) := by
  unfold fin
  rw [chk_iff.2 h, if_neg (by simp), if_neg hx]

/-- What is held is freed of nothing: all is as it was, but for the number. -/
theorem free_last {d1 : Arr Int 8} {x1 : Int} {D : Arr Int 2} {l : List S_purse_Held} {h : S_purse_Held} (hok : Ok x1 D (l ++ [h])) (hx : x1 ≠ 1099511627776) (d3 : Arr Int 8) (hn : h.f1 = d3) :
    F.purse_Purse_Free d1 x1 D (l ++ [h]) d3 0 = some (d1, x1 + 1, mv D h.f3 (h.f2 - 0) 0, l, 0) ∧
      ∀ now, h.f4 < now → F.purse_Purse_Back d1 x1 D (l ++ [h]) d3 now = some (d1, x1 + 1, mv D h.f3 (h.f2 - 0) 0, l, 0) := by
  subst hn
  have hnm : ∀ z ∈ l, z.f1.1 ≠ h.f1.1 := by
    have hp := hok.2.2.2.2.2.1
    rw [List.pairwise_append] at hp
    exact fun z hz => hp.2.2 z hz h (by simp)
  have hy := hok.2.2.2.2.1 h (by simp)
  unfold hOk at hy
  have hl : (l ++ [h]).length ≤ 40 := by have := hok.2.2.2.1; omega
  have hp := plcI_last hnm
  constructor
  · rw [Free_eq _ _ _ hl, fin_ok hok hx, hp, getI_last, without_last]
    have hE : freeE (l ++ [h]) h.f1.1 0 = 0 := by
      unfold freeE
      rw [hp, getI_last, if_neg (by omega), if_neg (by omega)]
    rw [hE]
    rfl
  · intro now hnow
    rw [BackP_eq _ _ _ hl, fin_ok hok hx, hp, getI_last, without_last]
    have hE : backE (l ++ [h]) h.f1.1 now = 0 := by
      unfold backE
      rw [hp, getI_last, if_neg (by omega), if_neg (by omega)]
    rw [hE]
    rfl

/-- Something else between, or alone. -/
theorem between {d1 : Arr Int 8} {x1 : Int} {d2 : Arr Int 2} {l : List S_purse_Held} {h : S_purse_Held} (hok : Ok x1 d2 l) (hx : x1 + 4 ≤ 1099511627776) (hH : Ok (x1 + 1) (mv d2 h.f3 (-h.f2) 0) (l ++ [h])) {n : List Int} (hn : h.f1.1 ≠ n) (e over : Int)
    (he : e = 0 → ¬ plcI l n < 0 ∧ 0 ≤ over ∧ over ≤ (getI l (plcI l n)).f2) (A B : RP)
    (hA : A = fin d1 (x1 + 1) (mv d2 h.f3 (-h.f2) 0) (l ++ [h]) e (partD (mv d2 h.f3 (-h.f2) 0) (getI (l ++ [h]) (plcI (l ++ [h]) n)) over) (without (l ++ [h]) (plcI (l ++ [h]) n)))
    (hB : B = fin d1 x1 d2 l e (partD d2 (getI l (plcI l n)) over) (without l (plcI l n))) :
    (if (!((A.2.2.2.2 == 0) == (B.2.2.2.2 == 0))) = true then (some false) else (if (A.2.2.2.2 != 0) = true then ((F.baizelaw47_told).bind fun q9 => (some q9)) else ((F.purse_Purse_Free A.1 A.2.1 A.2.2.1 A.2.2.2.1 h.f1 0).bind fun (d17, x21, d18, l8, x22) =>
      (if (x22 != 0) = true then (F.baizelaw47_PurseBack.c4 B.1 B.2.1 B.2.2.1 B.2.2.2.1 d17 d18 l8 true) else (F.baizelaw47_PurseBack.c4 B.1 B.2.1 B.2.2.1 B.2.2.2.1 d17 d18 l8 (x21 != (IntKind.i64.wrap (B.2.1 + 2)))))))) = some true := by
  rw [fin_ok hH (by omega)] at hA
  rw [fin_ok hok (by omega)] at hB
  by_cases he0 : e = 0
  case neg =>
    rw [if_pos he0] at hA hB
    subst hA hB
    have hz : (zr e).2.2.2.2 = e := rfl
    rw [hz, if_neg (by simp), if_pos (by simpa using he0), told_true]
    rfl
  obtain ⟨hp, o0, o1⟩ := he he0
  subst he0
  rw [if_neg (show ¬ ((0 : Int) ≠ 0) by simp)] at hA hB
  obtain ⟨p0, p1⟩ := plcI_lt hp
  rw [plcI_other hn, getI_front h p0 p1, without_front h p0 p1] at hA
  have hy := hH.2.2.2.2.1 h (by simp)
  have hg := hok.2.2.2.2.1 _ (getI_mem p0 p1)
  have hC := part_ok (over := over) hH (by omega) (i := plcI l n) p0 (by simp; omega) (by rw [getI_front h p0 p1]; exact ⟨o0, o1⟩)
  rw [getI_front h p0 p1, without_front h p0 p1] at hC
  subst hA hB
  simp only []
  rw [if_neg (by simp), if_neg (by simp), (free_last hC.1 (by omega) h.f1 rfl).1, Option.bind_some]
  simp only []
  have hxn := hok.1
  have hlen : (without l (plcI l n)).length ≤ 100 := by have := (without_sub l (plcI l n)).length_le; have := hok.2.2.2.1; omega
  unfold hOk at hy hg
  have hsw : mv (partD (mv d2 h.f3 (-h.f2) 0) (getI l (plcI l n)) over) h.f3 (h.f2 - 0) 0 = partD d2 (getI l (plcI l n)) over := by
    unfold partD
    exact mv_swap d2 h.f2 _ _ (by omega) (by omega)
  have hw : IntKind.i64.wrap (x1 + 1 + 2) = x1 + 1 + 2 := wrap_id (by omega) (by omega)
  rw [if_neg (by simp), hw, hsw, show (x1 + 1 + 1 + 1 != x1 + 1 + 2) = false by simp; omega]
  unfold F.baizelaw47_PurseBack.c4 F.baizelaw47_PurseBack.c5
  rw [if_neg (by simp), pSame_eq _ _ _ _ _ _ _ hlen, Option.bind_some, decide_eq_true ⟨rfl, rfl, rfl, rfl⟩, if_pos rfl, told_true]
  rfl

theorem law_PurseBack (y0 : S_baizeref47_Purse) (y1 : S_baizelaw47_Deed) (y2 : S_baizelaw47_Deed) (w0 : wf_S_baizeref47_Purse y0) (w1 : wf_S_baizelaw47_Deed y1) (w2 : wf_S_baizelaw47_Deed y2) : F.baizelaw47_PurseBack y0.f1 y0.f2 y0.f3 y0.f4 y1.f1 y1.f2 y1.f3 y1.f4 y1.f5 y2.f1 y2.f2 y2.f3 y2.f4 y2.f5 = some true := by
  have ct : ∀ d1 x1 d2 l d3 x3 x4 x5 x6 d4 x7 x8 x9, F.baizelaw47_PurseBack.c1 d1 x1 d2 l d3 x3 x4 x5 x6 d4 x7 x8 x9 true = some true := by
    intros; unfold F.baizelaw47_PurseBack.c1; rw [if_pos rfl, told_true]; rfl
  have ct2 : ∀ d3 x5 x6 d4 x7 x8 x9 d5 x10 d6 l2 d7 x11 d8 l3, F.baizelaw47_PurseBack.c2 d3 x5 x6 d4 x7 x8 x9 d5 x10 d6 l2 d7 x11 d8 l3 true = some true := by
    intros; unfold F.baizelaw47_PurseBack.c2; rw [if_pos rfl, told_true]; rfl
  unfold F.baizelaw47_PurseBack F.baizelaw47_great
  rw [Option.bind_some]
  by_cases hg : y0.f4.length > 40
  · rw [if_pos (by simp; omega)]; exact ct ..
  rw [if_neg (by simp; omega)]
  by_cases hnm : y1.f2.1 = y2.f2.1
  · rw [if_pos (by simpa using hnm)]; exact ct ..
  rw [if_neg (by simpa using hnm)]
  by_cases hw0 : y2.f1.tmod 4 = 0
  · rw [if_pos (by simpa using hw0)]; exact ct ..
  rw [if_neg (by simpa using hw0)]
  by_cases hw1 : y2.f1.tmod 4 = 1
  · rw [show (y2.f1.tmod 4 == 1) = true by simpa using hw1]; exact ct ..
  rw [show (y2.f1.tmod 4 == 1) = false by simpa using hw1]
  unfold F.baizelaw47_PurseBack.c1
  have hl : (y0.f4.map own1).length ≤ 40 := by rw [List.length_map]; omega
  rw [if_neg (by simp), Own_eq _ _ _ (by omega), Option.bind_some]
  simp only []
  generalize y0.f4.map own1 = l at hl ⊢
  rw [do_eq _ _ _ hl, Option.bind_some]
  have hd : deed y0.f1 y0.f2 y0.f3 l (Int.tmod 1 4) y1.f2 y1.f3 y1.f4 y1.f5 = fin y0.f1 y0.f2 y0.f3 l (holdE y0.f3 l ⟨y1.f2, y1.f3, y1.f4, y1.f5⟩) (mv y0.f3 y1.f4 (-y1.f3) 0) (l ++ [⟨y1.f2, y1.f3, y1.f4, y1.f5⟩]) := by
    unfold deed; rw [if_neg (by decide), if_pos (by decide)]
  rw [hd]
  rcases fin_keeps (d1 := y0.f1) (x1 := y0.f2) (d2 := y0.f3) (l := l) (e := holdE y0.f3 l ⟨y1.f2, y1.f3, y1.f4, y1.f5⟩) (d2' := mv y0.f3 y1.f4 (-y1.f3) 0) (l' := l ++ [⟨y1.f2, y1.f3, y1.f4, y1.f5⟩])
      (fun h hx he => ⟨(hold_ok h hx he).1, (hold_ok h hx he).2.1⟩) with ⟨he, hz⟩ | ⟨hok, hx, he, hf, hH, _⟩
  · generalize fin y0.f1 y0.f2 y0.f3 l (holdE y0.f3 l ⟨y1.f2, y1.f3, y1.f4, y1.f5⟩) (mv y0.f3 y1.f4 (-y1.f3) 0) (l ++ [⟨y1.f2, y1.f3, y1.f4, y1.f5⟩]) = q at he hz ⊢
    obtain ⟨e1, e2, e3, e4, e5⟩ := q
    simp only [] at he ⊢
    rw [if_pos (by simpa using he)]
    exact ct2 ..
  rw [hf]
  simp only []
  rw [if_neg (by simp)]
  by_cases hbig : y0.f2 + 1 > 549755813888
  · rw [decide_eq_true hbig]; exact ct2 ..
  rw [decide_eq_false hbig]
  obtain ⟨_, _, _, hyok⟩ := hold_ok hok hx he
  unfold F.baizelaw47_PurseBack.c2
  have hfr := free_last (d1 := y0.f1) hH (by omega) y1.f2 rfl
  have h4 : 0 ≤ y1.f5 ∧ y1.f5 ≤ 1099511627776 := hyok.2.2
  have h3 : y1.f4 = 0 ∨ y1.f4 = 1 := by have : 0 ≤ y1.f4 ∧ y1.f4 < 2 := hyok.2.1; omega
  have hxn := hok.1
  have hbk : mv (mv y0.f3 y1.f4 (-y1.f3) 0) y1.f4 (y1.f3 - 0) 0 = y0.f3 := mv_back y0.f3 y1.f3 h3
  rw [if_neg (by simp), hfr.1, Option.bind_some]
  simp only []
  rw [wrap_id (x := y1.f5 + 1) (by omega) (by omega), hfr.2 (y1.f5 + 1) (by show y1.f5 < y1.f5 + 1; omega), Option.bind_some]
  simp only []
  have hl16 : l.length ≤ 16 := hok.2.2.2.1
  rw [if_neg (by simp), if_neg (by simp), pSame_eq _ _ _ _ _ _ _ (by omega), Option.bind_some, decide_eq_true ⟨rfl, rfl, rfl, rfl⟩, if_neg (by simp), wrap_id (x := y0.f2 + 2) (by omega) (by omega), show (y0.f2 + 1 + 1 != y0.f2 + 2) = false by simp; omega, hbk]
  unfold F.baizelaw47_PurseBack.c3
  rw [if_neg (by simp), pSame_eq _ _ _ _ _ _ _ (by omega), Option.bind_some, decide_eq_true ⟨rfl, rfl, rfl, rfl⟩, if_neg (by simp)]
  have hL : (l ++ [(⟨y1.f2, y1.f3, y1.f4, y1.f5⟩ : S_purse_Held)]).length ≤ 40 := by simp; omega
  rw [do_eq _ _ _ hL, do_eq _ _ _ hl]
  generalize hA : deed y0.f1 (y0.f2 + 1) (mv y0.f3 y1.f4 (-y1.f3) 0) (l ++ [⟨y1.f2, y1.f3, y1.f4, y1.f5⟩]) (y2.f1.tmod 4) y2.f2 y2.f3 y2.f4 y2.f5 = A
  generalize hB : deed y0.f1 y0.f2 y0.f3 l (y2.f1.tmod 4) y2.f2 y2.f3 y2.f4 y2.f5 = B
  simp only [Option.bind_some]
  have hbig' : y0.f2 + 4 ≤ 1099511627776 := by omega
  have hplc := plcI_other (l := l) (h := ⟨y1.f2, y1.f3, y1.f4, y1.f5⟩) (n := y2.f2.1) hnm
  by_cases hw2 : y2.f1.tmod 4 = 2
  · refine between (d1 := y0.f1) (h := ⟨y1.f2, y1.f3, y1.f4, y1.f5⟩) (n := y2.f2.1) hok hbig' hH hnm (freeE l y2.f2.1 y2.f3) y2.f3 ?_ A B ?_ ?_
    · intro h
      unfold freeE at h
      split at h
      · cases h
      split at h
      · cases h
      omega
    · rw [← hA]
      unfold deed
      rw [if_neg hw0, if_neg hw1, if_pos hw2]
      congr 1
      unfold freeE
      rw [hplc]
      by_cases hp : plcI l y2.f2.1 < 0
      · rw [if_pos hp, if_pos hp]
      · obtain ⟨p0, p1⟩ := plcI_lt hp
        rw [if_neg hp, if_neg hp, getI_front _ p0 p1]
    · rw [← hB]
      unfold deed
      rw [if_neg hw0, if_neg hw1, if_pos hw2]
  · refine between (d1 := y0.f1) (h := ⟨y1.f2, y1.f3, y1.f4, y1.f5⟩) (n := y2.f2.1) hok hbig' hH hnm (backE l y2.f2.1 y2.f5) 0 ?_ A B ?_ ?_
    · intro h
      unfold backE at h
      split at h
      · cases h
      split at h
      · cases h
      rename_i hp _
      obtain ⟨p0, p1⟩ := plcI_lt hp
      have := hok.2.2.2.2.1 _ (getI_mem p0 p1)
      unfold hOk at this
      omega
    · rw [← hA]
      unfold deed
      rw [if_neg hw0, if_neg hw1, if_neg hw2]
      congr 1
      unfold backE
      rw [hplc]
      by_cases hp : plcI l y2.f2.1 < 0
      · rw [if_pos hp, if_pos hp]
      · obtain ⟨p0, p1⟩ := plcI_lt hp
        rw [if_neg hp, if_neg hp, getI_front _ p0 p1]
    · rw [← hB]
      unfold deed
      rw [if_neg hw0, if_neg hw1, if_neg hw2]
end Go.Proofs.Yticlfbpmfejdoaa
