/-
  Proved: what any two things show, signed by whomever, or why they show nothing, is as the document says.
-/
import Derived.Test.YtlnockimfgfcgaaPunishTold
namespace Go.Proofs.Ytlnockimfgfcgaa
open Go.Lab
set_option maxRecDepth 10000

section
variable {k : Int} {t : Arr Int 8} {n : Int} {a : Arr Int 8} {b : List Int} {o : Bool} {k2 : Int} {t2 : Arr Int 8} {n2 : Int} {a2 : Arr Int 8} {b2 : List Int} {o2 : Bool}

theorem tells_c3 (table : Arr Int 8) (x : Int) {es : List S_notary_entry} (hes : es.length ≤ 65536) (ht : Byts t.1) (hn : I64 n) (ha : Byts a.1) (hb : Byts b) (hl : b.length ≤ 1000000) (ht2 : Byts t2.1) (hn2 : I64 n2) (ha2 : Byts a2.1) (hb2 : Byts b2) (hl2 : b2.length ≤ 1000000)
    {s s2 : List Int} (hs : Byts s) (hs2 : Byts s2) : F.baizelaw34_PunishTells.c3 k t n a b o k2 t2 n2 a2 b2 o2 table x (mkO k t n a b o).f1 (mkO k t n a b o).f2 (mkO k t n a b o).f3 (mkO k t n a b o).f4 (mkO k t n a b o).f5 (mkO k t n a b o).f6 (mkO k t n a b o).f7 (mkO k t n a b o).f8 (mkO k2 t2 n2 a2 b2 o2).f1 (mkO k2 t2 n2 a2 b2 o2).f2 (mkO k2 t2 n2 a2 b2 o2).f3 (mkO k2 t2 n2 a2 b2 o2).f4 (mkO k2 t2 n2 a2 b2 o2).f5 (mkO k2 t2 n2 a2 b2 o2).f6 (mkO k2 t2 n2 a2 b2 o2).f7 (mkO k2 t2 n2 a2 b2 o2).f8 s es (places es) s2 = some true := by
  have d1 := digO_eq (k := k) (o := o) ht hn ha hb hl s
  have d2 := digO_eq (k := k2) (o := o2) ht2 hn2 ha2 hb2 hl2 s2
  have e1 := rdigO_eq (k := k) (o := o) ht hn ha hb hl s
  have c1 := chkO_eq (k := k) (t := t) (n := n) (a := a) (b := b) (o := o) s
  have T1 := twiceO_eq (k := k) (o := o) (k2 := k2) (o2 := o2) hes table (keyS (IntKind.i64.wrap x)) ht hn ha hb hs ht2 hn2 ha2 hb2 hs2
  have T2 := rtwiceO_eq (k := k) (s := s) (o := o) (k2 := k2) (s2 := s2) (o2 := o2) table ht hn ha hb ht2 hn2 ha2 hb2
  obtain ⟨d, y, e, hP, hQ⟩ := placeO_eq (k := k) (t := t) (n := n) (a := a) (b := b) (o := o) s
  unfold F.baizelaw34_PunishTells.c3
  rw [key_eq, Option.bind_some, d1, Option.bind_some, Verify_ok hes _ _ hs, Option.bind_some]
  generalize keyS (IntKind.i64.wrap x) = key at T1 ⊢
  have h5 : F.baizelaw34_PunishTells.c5 k t n a b o k2 t2 n2 a2 b2 o2 table (mkO k t n a b o).f1 (mkO k t n a b o).f2 (mkO k t n a b o).f3 (mkO k t n a b o).f4 (mkO k t n a b o).f5 (mkO k t n a b o).f6 (mkO k t n a b o).f7 (mkO k t n a b o).f8 (mkO k2 t2 n2 a2 b2 o2).f1 (mkO k2 t2 n2 a2 b2 o2).f2 (mkO k2 t2 n2 a2 b2 o2).f3 (mkO k2 t2 n2 a2 b2 o2).f4 (mkO k2 t2 n2 a2 b2 o2).f5 (mkO k2 t2 n2 a2 b2 o2).f6 (mkO k2 t2 n2 a2 b2 o2).f7 (mkO k2 t2 n2 a2 b2 o2).f8 s es (places es) s2 key (okV es key (digP k t n a b) s && okV es key (digP k2 t2 n2 a2 b2) s2) false = some true := by
    unfold F.baizelaw34_PunishTells.c5 F.baizelaw34_PunishTells.c6 F.punish_Twice_2
    rw [if_neg (by decide), c1, Option.bind_some, RefCheck_eq34, Option.bind_some, if_pos (by simp), d1, Option.bind_some, e1, Option.bind_some, if_pos (by simp), T1, Option.bind_some, T2, Option.bind_some, if_pos (by simp), Option.bind_some]
    rfl
  have h4 : F.baizelaw34_PunishTells.c4 k t n a b o k2 t2 n2 a2 b2 o2 table (mkO k t n a b o).f1 (mkO k t n a b o).f2 (mkO k t n a b o).f3 (mkO k t n a b o).f4 (mkO k t n a b o).f5 (mkO k t n a b o).f6 (mkO k t n a b o).f7 (mkO k t n a b o).f8 (mkO k2 t2 n2 a2 b2 o2).f1 (mkO k2 t2 n2 a2 b2 o2).f2 (mkO k2 t2 n2 a2 b2 o2).f3 (mkO k2 t2 n2 a2 b2 o2).f4 (mkO k2 t2 n2 a2 b2 o2).f5 (mkO k2 t2 n2 a2 b2 o2).f6 (mkO k2 t2 n2 a2 b2 o2).f7 (mkO k2 t2 n2 a2 b2 o2).f8 s es (places es) s2 key (okV es key (digP k t n a b) s && okV es key (digP k2 t2 n2 a2 b2) s2) = some true := by
    unfold F.baizelaw34_PunishTells.c4
    rw [hP, Option.bind_some]
    simp only []
    rw [RefCheck_eq34, Option.bind_some]
    by_cases hc : chkT k n b s o = 0
    · obtain ⟨g1, _⟩ := chkT_ok hc
      obtain ⟨rfl, rfl, rfl⟩ := hQ g1
      rw [if_pos (by simpa using hc), if_neg (by simp), if_neg (by simp), ratO_eq, Option.bind_some, show (!((atP k a).1 == (atP k a).1)) = false by simp]
      exact h5
    · rw [if_neg (by simpa using hc)]
      exact h5
  cases hv : okV es key (digP k t n a b) s with
  | false =>
    rw [hv, Bool.false_and] at h4
    rw [if_neg (by decide)]
    exact h4
  | true =>
    rw [hv, Bool.true_and] at h4
    rw [if_pos rfl, d2, Option.bind_some, Verify_ok hes _ _ hs2, Option.bind_some]
    exact h4

theorem tells_c2 (table : Arr Int 8) (x1 x : Int) {es : List S_notary_entry} (hes : es.length ≤ 60000) (ht : Byts t.1) (hn : I64 n) (ha : Byts a.1) (hb : Byts b) (hl : b.length ≤ 1000000) (ht2 : Byts t2.1) (hn2 : I64 n2) (ha2 : Byts a2.1) (hb2 : Byts b2) (hl2 : b2.length ≤ 1000000)
    {s s2 : List Int} (hs : Byts s) (hs2 : Byts s2) : F.baizelaw34_PunishTells.c2 k t n a b o k2 t2 n2 a2 b2 o2 table x1 x (mkO k t n a b o).f1 (mkO k t n a b o).f2 (mkO k t n a b o).f3 (mkO k t n a b o).f4 (mkO k t n a b o).f5 (mkO k t n a b o).f6 (mkO k t n a b o).f7 (mkO k t n a b o).f8 (mkO k2 t2 n2 a2 b2 o2).f1 (mkO k2 t2 n2 a2 b2 o2).f2 (mkO k2 t2 n2 a2 b2 o2).f3 (mkO k2 t2 n2 a2 b2 o2).f4 (mkO k2 t2 n2 a2 b2 o2).f5 (mkO k2 t2 n2 a2 b2 o2).f6 (mkO k2 t2 n2 a2 b2 o2).f7 (mkO k2 t2 n2 a2 b2 o2).f8 s2 es (places es) s = some true := by
  unfold F.baizelaw34_PunishTells.c2 F.notary_Book_Signer
  by_cases h : x1.tmod 4 > 0
  · rw [if_pos (by simpa using h), key_eq, Option.bind_some, Option.bind_some, digO_eq ht2 hn2 ha2 hb2 hl2, Option.bind_some, Sign_eq (by omega), Option.bind_some]
    simp only []
    have gl := signL_len es ⟨keyS (IntKind.i64.wrap x1), digP k2 t2 n2 a2 b2⟩
    exact tells_c3 table x (by omega) ht hn ha hb hl ht2 hn2 ha2 hb2 hl2 hs (sigB_byts _)
  · rw [if_neg (by simpa using h)]
    exact tells_c3 table x (by omega) ht hn ha hb hl ht2 hn2 ha2 hb2 hl2 hs hs2
end

theorem law_PunishTells (y0 : S_baizeref34_Thing) (y1 : S_baizeref34_Thing) (y2 : Arr Int 8) (y3 : S_3_uint8) (w0 : wf_S_baizeref34_Thing y0) (w1 : wf_S_baizeref34_Thing y1) (w2 : ∀ x ∈ y2.1, (Lit.int .u8 x).wf = true) (w3 : wf_S_3_uint8 y3)
    (z0 : y0.f5.length ≤ reachBytes ∧ y0.f6.length ≤ reachBytes) (z1 : y1.f5.length ≤ reachBytes ∧ y1.f6.length ≤ reachBytes) :
    F.baizelaw34_PunishTells y0.f1 y0.f2 y0.f3 y0.f4 y0.f5 y0.f6 y0.f7 y1.f1 y1.f2 y1.f3 y1.f4 y1.f5 y1.f6 y1.f7 y2 y3.f1 y3.f2 y3.f3 = some true := by
  obtain ⟨k, t, n, a, b, s, o⟩ := y0
  obtain ⟨k2, t2, n2, a2, b2, s2, o2⟩ := y1
  obtain ⟨x1, x2, x3⟩ := y3
  simp only [] at z0 z1 ⊢
  simp only [wf_S_baizeref34_Thing] at w0 w1
  unfold reachBytes at z0 z1
  have hT : F.baizelaw34_PunishTells.c1 k t n a b s o k2 t2 n2 a2 b2 s2 o2 y2 x1 x2 x3 true = some true := by
    unfold F.baizelaw34_PunishTells.c1
    rw [if_pos rfl, known_true]; rfl
  have ht := byts_wf w0.2.1
  have hn := wf_i64.1 w0.2.2.1
  have ha := byts_wf w0.2.2.2.1
  have hb := byts_wf w0.2.2.2.2.1.2
  have hs := byts_wf w0.2.2.2.2.2.1.2
  have ht2 := byts_wf w1.2.1
  have hn2 := wf_i64.1 w1.2.2.1
  have ha2 := byts_wf w1.2.2.2.1
  have hb2 := byts_wf w1.2.2.2.2.1.2
  have hs2 := byts_wf w1.2.2.2.2.2.1.2
  unfold F.baizelaw34_PunishTells
  rw [known_true, Option.bind_some, if_neg (by decide), wrap_id (by omega) (by omega), wrap_id (by omega) (by omega)]
  by_cases c1 : (b.length : Int) + (s.length : Int) > 5000
  · rw [if_pos (by simpa using c1)]; exact hT
  rw [if_neg (by simpa using c1)]
  by_cases c2 : (b2.length : Int) + (s2.length : Int) > 5000
  · rw [decide_eq_true c2]; exact hT
  rw [decide_eq_false c2]
  unfold F.baizelaw34_PunishTells.c1 F.notary_NewBook F.notary_Book_Signer
  rw [if_neg (by decide), Option.bind_some, OfO_eq, Option.bind_some]
  simp only []
  rw [OfO_eq, Option.bind_some]
  simp only []
  by_cases h : x1.tmod 4 > 0
  · rw [if_pos (by simpa using h), key_eq, Option.bind_some, Option.bind_some, digO_eq ht hn ha hb (by omega), Option.bind_some]
    have hS := Sign_eq (l := []) (by decide) (keyS (IntKind.i64.wrap x1)) (digP k t n a b)
    rw [show places [] = [] from rfl] at hS
    rw [hS, Option.bind_some]
    simp only []
    have gl := signL_len [] ⟨keyS (IntKind.i64.wrap x1), digP k t n a b⟩
    exact tells_c2 y2 x2 x3 (by simp only [List.length_nil] at gl; omega) ht hn ha hb (by omega) ht2 hn2 ha2 hb2 (by omega) (sigB_byts _) hs2
  · rw [if_neg (by simpa using h)]
    exact tells_c2 (es := []) y2 x2 x3 (by decide) ht hn ha hb (by omega) ht2 hn2 ha2 hb2 (by omega) hs hs2
end Go.Proofs.Ytlnockimfgfcgaa
