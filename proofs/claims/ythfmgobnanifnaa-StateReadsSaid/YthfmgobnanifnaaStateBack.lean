/-
  Plain facts of signed states' bytes: what the document reads, and that what is read is what was told.
-/
import Derived.Test.YthfmgobnanifnaaStateCodec
namespace Go.Proofs.Ythfmgobnanifnaa
open Go.Lab
set_option maxRecDepth 10000

/-! ### Reading, by the document -/

section
variable {d : Arr Int 8} {n : Int} {b : List Int}

theorem rdec_l2 {m : Int} (hm : m ≤ 8) (hn : IntKind.i64.wrap n = n) (hw : IntKind.i64.wrap m = m) {B : List Int} (hb : Byts B) (hl : B.length ≤ 140737488355328) :
    ∀ (j k i : Nat) (l : List Int) (e a : Int) (acc : List (List Int)), m = ((i + j : Nat) : Int) → j < k → Far B l e a → acc.length ≤ i →
      F.baizeref32_Decode.l2 d n b m k acc B a e (i : Int) = some (finS d n b acc (rdS j l e)) := by
  intro j
  induction j with
  | zero =>
    intro k i l e a acc hi hk hf ha
    obtain ⟨k, rfl⟩ : ∃ j, k = j + 1 := ⟨k - 1, by omega⟩
    unfold F.baizeref32_Decode.l2
    rw [hw, hn, if_neg (by simp; omega), rend_step hf, Option.bind_some, show rdS 0 l e = ([], l, e) from rfl, fin_0]
    generalize endX l e = X
    by_cases hx : X = 0
    · rw [if_neg (by simpa using hx), if_neg (c := X ≠ 0) (by simpa using hx)]
    · rw [if_pos (by simpa using hx), if_pos (c := X ≠ 0) hx]
      rfl
  | succ j ih =>
    intro k i l e a acc hi hk hf ha
    obtain ⟨k, rfl⟩ : ∃ j, k = j + 1 := ⟨k - 1, by omega⟩
    obtain ⟨a2, x2, h1, f1, g1⟩ := rsome_step hb hl hf (most := 4096) (by decide) (by decide)
    unfold F.baizeref32_Decode.l2
    rw [hw, if_pos (by simp; omega), h1, Option.bind_some]
    simp only []
    rw [if_pos (by simp only [List.length_cons, List.length_nil]; omega), wrap_succ (by omega) (by omega), show (i : Int) + 1 = ((i + 1 : Nat) : Int) by push_cast; rfl]
    rw [ih k (i + 1) (rdB l e 4096).2.1 (rdB l e 4096).2.2 a2 (acc ++ [x2]) (by omega) (by omega) f1 (by simp; omega), fin_cons]
    by_cases hz : (rdB l e 4096).2.2 = 0
    · rw [g1 hz]
    · rw [fin_bad d n b _ j hz, fin_bad d n b _ j hz]
end

theorem dec8_l1 (B : List Int) (a : Int) (k : Nat) (c0 c1 c2 c3 c4 c5 c6 c7 : Int) :
    F.baizeref32_Decode.l1 B a 0 [c0, c1, c2, c3, c4, c5, c6, c7] (k + 9) (zA 8) 0 = F.baizeref32_Decode.l1 B a 0 [c0, c1, c2, c3, c4, c5, c6, c7] (k + 1) (⟨[c0, c1, c2, c3, c4, c5, c6, c7], rfl⟩ : Arr Int 8) 8 := by
  have st : ∀ (j : Nat) (kk : Nat) (d : Arr Int 8), j < 8 →
      F.baizeref32_Decode.l1 B a 0 [c0, c1, c2, c3, c4, c5, c6, c7] (kk + 1) d (j : Int) = F.baizeref32_Decode.l1 B a 0 [c0, c1, c2, c3, c4, c5, c6, c7] kk (aset d (j : Int) (getI [c0, c1, c2, c3, c4, c5, c6, c7] (j : Int))) ((j + 1 : Nat) : Int) := by
    intro j kk d hj
    have w2 : IntKind.i64.wrap ((j : Int) + 1) = ((j + 1 : Nat) : Int) := by rw [wrap_id (by omega) (by omega)]; omega
    conv => lhs; unfold F.baizeref32_Decode.l1
    rw [if_pos (by simp; omega), w2, if_pos (by simp; omega), if_pos (by omega)]
  have e0 := st 0 (k + 8) (zA 8) (by omega)
  have e1 := st 1 (k + 7) (aset (zA 8) 0 c0) (by omega)
  have e2 := st 2 (k + 6) (aset (aset (zA 8) 0 c0) 1 c1) (by omega)
  have e3 := st 3 (k + 5) (aset (aset (aset (zA 8) 0 c0) 1 c1) 2 c2) (by omega)
  have e4 := st 4 (k + 4) (aset (aset (aset (aset (zA 8) 0 c0) 1 c1) 2 c2) 3 c3) (by omega)
  have e5 := st 5 (k + 3) (aset (aset (aset (aset (aset (zA 8) 0 c0) 1 c1) 2 c2) 3 c3) 4 c4) (by omega)
  have e6 := st 6 (k + 2) (aset (aset (aset (aset (aset (aset (zA 8) 0 c0) 1 c1) 2 c2) 3 c3) 4 c4) 5 c5) (by omega)
  have e7 := st 7 (k + 1) (aset (aset (aset (aset (aset (aset (aset (zA 8) 0 c0) 1 c1) 2 c2) 3 c3) 4 c4) 5 c5) 6 c6) (by omega)
  have ed : aset (aset (aset (aset (aset (aset (aset (aset (zA 8) 0 c0) 1 c1) 2 c2) 3 c3) 4 c4) 5 c5) 6 c6) 7 c7 = (⟨[c0, c1, c2, c3, c4, c5, c6, c7], rfl⟩ : Arr Int 8) := Subtype.ext rfl
  refine e0.trans (e1.trans (e2.trans (e3.trans (e4.trans (e5.trans (e6.trans (e7.trans ?_)))))))
  show F.baizeref32_Decode.l1 B a 0 [c0, c1, c2, c3, c4, c5, c6, c7] (k + 1) (aset (aset (aset (aset (aset (aset (aset (aset (zA 8) 0 c0) 1 c1) 2 c2) 3 c3) 4 c4) 5 c5) 6 c6) 7 c7) 8 = _
  rw [ed]

theorem dec8_copy (B : List Int) (a : Int) {x : List Int} (h : x.length = 8) : F.baizeref32_Decode.l1 B a 0 x fuel (zA 8) 0 = F.baizeref32_Decode.l1 B a 0 x (9223372036854775799 + 1) (copyA (zA 8) x) 8 := by
  match x, h with
  | [c0, c1, c2, c3, c4, c5, c6, c7], _ =>
    rw [show fuel = 9223372036854775799 + 9 from rfl, dec8_l1]
    exact congrArg (fun d => F.baizeref32_Decode.l1 B a 0 [c0, c1, c2, c3, c4, c5, c6, c7] (9223372036854775799 + 1) d 8) (copy8 ⟨[c0, c1, c2, c3, c4, c5, c6, c7], rfl⟩).symm

theorem RefDecode_eq {B : List Int} (hb : Byts B) (hl : B.length ≤ 140737488355328) : F.baizeref32_Decode B = some (decS B) := by
  obtain ⟨a1, x, h1, f1, g1⟩ := rsome_step hb hl (l := B) (e := 0) (a := 0) ⟨0, Nat.zero_le _, rfl, fun _ => rfl⟩ (most := 8) (by decide) (by decide)
  have b1 := (rdB_byts hb 0 8).2
  unfold F.baizeref32_Decode decS
  rw [h1, Option.bind_some]
  clear h1
  generalize rdB B 0 8 = t at f1 g1 b1 ⊢
  obtain ⟨y, r1, e1⟩ := t
  simp only [] at f1 g1 b1 ⊢
  by_cases he1 : e1 = 0
  case neg =>
    rw [if_pos (by simpa using he1), if_pos (c := e1 ≠ 0) he1]
    rfl
  subst he1
  obtain rfl := g1 rfl
  rw [if_neg (c := ((0 : Int) != 0) = true) (by decide), if_neg (c := (0 : Int) ≠ 0) (by decide)]
  by_cases h8 : x.length = 8
  case neg =>
    rw [if_pos (by simp; omega), if_pos (c := x.length ≠ 8) h8]
    rfl
  rw [if_neg (by simp [h8]), if_neg (c := x.length ≠ 8) (by simpa using h8), dec8_copy B a1 h8]
  generalize copyA (zA 8) x = d
  unfold F.baizeref32_Decode.l1
  rw [if_neg (by decide)]
  obtain ⟨a2, n2, h2, f2, g2⟩ := rread_step hb hl f1 1099511627776
  have w2 := rd_num0 b1 0 (most := 1099511627776) (by decide)
  have b2 := rd_byts b1 0 1099511627776
  rw [h2, Option.bind_some]
  clear h2
  generalize rd r1 0 1099511627776 = u at f2 g2 w2 b2 ⊢
  obtain ⟨n, r2, e2⟩ := u
  simp only [] at f2 g2 w2 b2 ⊢
  obtain ⟨a3, y3, h3, f3, g3⟩ := rsome_step hb hl f2 (most := 4096) (by decide) (by decide)
  have b3 := (rdB_byts b2 e2 4096).2
  rw [h3, Option.bind_some]
  clear h3
  simp only []
  obtain ⟨a4, m4, h4, f4, g4⟩ := rread_step hb hl f3 8
  have w4 := rd_num0 b3 (rdB r2 e2 4096).2.2 (most := 8) (by decide)
  rw [h4, Option.bind_some]
  clear h4
  simp only []
  by_cases he2 : e2 = 0
  case neg =>
    rw [rdB_keep he2]
    simp only []
    rw [rd_keep he2]
    simp only []
    rw [if_pos (by simpa using he2), if_pos (c := e2 ≠ 0) he2]
    rfl
  subst he2
  obtain rfl := g2 rfl
  rw [if_neg (c := (0 : Int) ≠ 0) (by decide)]
  generalize rdB r2 0 4096 = v at f3 g3 b3 f4 g4 w4 ⊢
  obtain ⟨b, r3, e3⟩ := v
  simp only [] at f3 g3 b3 f4 g4 w4 ⊢
  by_cases he3 : e3 = 0
  case neg =>
    rw [rd_keep he3]
    simp only []
    rw [if_pos (by simpa using he3), if_pos (c := e3 ≠ 0) he3]
    rfl
  subst he3
  obtain rfl := g3 rfl
  rw [if_neg (c := (0 : Int) ≠ 0) (by decide)]
  generalize rd r3 0 8 = w at f4 g4 w4 ⊢
  obtain ⟨m, r4, e4⟩ := w
  simp only [] at f4 g4 w4 ⊢
  by_cases he4 : e4 = 0
  case neg =>
    rw [if_pos (by simpa using he4), if_pos (c := e4 ≠ 0) he4]
    rfl
  subst he4
  obtain rfl := g4 rfl
  rw [if_neg (c := ((0 : Int) != 0) = true) (by decide), if_neg (c := (0 : Int) ≠ 0) (by decide)]
  by_cases hm : m4 < 2
  · rw [if_pos (by simpa using hm), if_pos (c := m4 < 2) hm]
    rfl
  · rw [if_neg (by simpa using hm), if_neg (c := m4 < 2) hm]
    exact rdec_l2 w4.2 (wrap_id (by omega) (by omega)) (wrap_id (by omega) (by omega)) hb hl m4.toNat fuel 0 r4 0 a4 [] (by omega) (by rw [fuel_eq]; omega) f4 (Nat.le_refl _)

/-! ### What is read was told -/

theorem rdS_inv : ∀ (k : Nat) {l : List Int} {e : Int}, Byts l → (rdS k l e).2.2 = 0 → e = 0 ∧ (rdS k l e).1.length = k ∧ (∀ z ∈ (rdS k l e).1, z.length ≤ 4096 ∧ Byts z) ∧ l = sigsB (rdS k l e).1 ++ (rdS k l e).2.1 ∧ Byts (rdS k l e).2.1
  | 0, l, e, hb, h => ⟨h, rfl, fun z hz => by simp [rdS] at hz, by simp [rdS, sigsB], hb⟩
  | k + 1, l, e, hb, h => by
    have hr : rdS (k + 1) l e = ((rdB l e 4096).1 :: (rdS k (rdB l e 4096).2.1 (rdB l e 4096).2.2).1, (rdS k (rdB l e 4096).2.1 (rdB l e 4096).2.2).2.1, (rdS k (rdB l e 4096).2.1 (rdB l e 4096).2.2).2.2) := rfl
    rw [hr] at h ⊢
    simp only [] at h ⊢
    have hbb := rdB_byts hb e 4096
    obtain ⟨h1, h2, h3, h4, h5⟩ := rdS_inv k hbb.2 h
    have he := rdB_bad h1
    subst he
    have hx := rdB_most (l := l) 0 (most := 4096) (by decide)
    generalize hp : rdB l 0 4096 = p at hbb h h1 h2 h3 h4 h5 hx ⊢
    obtain ⟨x, y, z⟩ := p
    simp only [] at hbb h h1 h2 h3 h4 h5 hx ⊢
    subst h1
    have hi := rdB_inv hb hp
    refine ⟨trivial, by simp [h2], ?_, ?_, h5⟩
    · intro z hz
      rcases List.mem_cons.1 hz with rfl | hz
      · exact ⟨by omega, hbb.1⟩
      · exact h3 z hz
    · rw [hi, sigsB, List.map_cons, List.flatten_cons]
      conv => lhs; rw [h4]
      simp [bytB, sigsB, List.append_assoc]

structure GoodS (B : List Int) (q : Sg) : Prop where
  may : mayP q.2.1 q.2.2.1 q.2.2.2.1 = true
  all : B = allS q.1 q.2.1 q.2.2.1 q.2.2.2.1
  byd : Byts q.1.1
  byb : Byts q.2.2.1
  bys : ∀ z ∈ q.2.2.2.1, Byts z

theorem endX_0 {l : List Int} {e : Int} (h : endX l e = 0) : e = 0 ∧ l = [] := by
  unfold endX at h
  by_cases he : e = 0
  · rw [if_neg (by simpa using he)] at h
    refine ⟨he, ?_⟩
    cases l with
    | nil => rfl
    | cons x l => rw [if_pos (by simp)] at h; cases h
  · rw [if_pos he] at h
    exact absurd h he

theorem decS_good {B : List Int} (hb : Byts B) (h : (decS B).2.2.2.2 = 0) : GoodS B (decS B) := by
  have hbb := rdB_byts hb 0 8
  unfold decS at h ⊢
  generalize hp1 : rdB B 0 8 = t at hbb h ⊢
  obtain ⟨x, r1, e1⟩ := t
  simp only [] at hbb h ⊢
  by_cases he1 : e1 = 0
  case neg => rw [if_pos (c := e1 ≠ 0) he1] at h; exact absurd h he1
  subst he1
  rw [if_neg (c := (0 : Int) ≠ 0) (by decide)] at h ⊢
  by_cases h8 : x.length = 8
  case neg => rw [if_pos (c := x.length ≠ 8) h8] at h; cases h
  rw [if_neg (c := x.length ≠ 8) (by simpa using h8)] at h ⊢
  have w2 := rd_num0 hbb.2 0 (most := 1099511627776) (by decide)
  have b2 := rd_byts hbb.2 0 1099511627776
  generalize hp2 : rd r1 0 1099511627776 = u at w2 b2 h ⊢
  obtain ⟨n, r2, e2⟩ := u
  simp only [] at w2 b2 h ⊢
  by_cases he2 : e2 = 0
  case neg => rw [if_pos (c := e2 ≠ 0) he2] at h; exact absurd h he2
  subst he2
  rw [if_neg (c := (0 : Int) ≠ 0) (by decide)] at h ⊢
  have b3 := rdB_byts b2 0 4096
  have x3 := rdB_most (l := r2) 0 (most := 4096) (by decide)
  generalize hp3 : rdB r2 0 4096 = v at b3 x3 h ⊢
  obtain ⟨b, r3, e3⟩ := v
  simp only [] at b3 x3 h ⊢
  by_cases he3 : e3 = 0
  case neg => rw [if_pos (c := e3 ≠ 0) he3] at h; exact absurd h he3
  subst he3
  rw [if_neg (c := (0 : Int) ≠ 0) (by decide)] at h ⊢
  have w4 := rd_num0 b3.2 0 (most := 8) (by decide)
  have b4 := rd_byts b3.2 0 8
  generalize hp4 : rd r3 0 8 = w at w4 b4 h ⊢
  obtain ⟨m, r4, e4⟩ := w
  simp only [] at w4 b4 h ⊢
  by_cases he4 : e4 = 0
  case neg => rw [if_pos (c := e4 ≠ 0) he4] at h; exact absurd h he4
  subst he4
  rw [if_neg (c := (0 : Int) ≠ 0) (by decide)] at h ⊢
  by_cases hm : m < 2
  case pos => rw [if_pos (c := m < 2) hm] at h; cases h
  rw [if_neg (c := m < 2) hm] at h ⊢
  generalize hq : rdS m.toNat r4 0 = q at h ⊢
  have hX : endX q.2.1 q.2.2 = 0 := by
    apply Classical.byContradiction
    intro hx
    unfold finS at h
    rw [if_pos (c := endX q.2.1 q.2.2 ≠ 0) hx] at h
    exact hx h
  obtain ⟨q0, q1⟩ := endX_0 hX
  obtain ⟨_, s1, s2, s3, _⟩ := rdS_inv m.toNat (l := r4) (e := 0) b4 (by rw [hq]; exact q0)
  rw [hq] at s1 s2 s3
  unfold finS
  rw [if_neg (c := endX q.2.1 q.2.2 ≠ 0) (by simpa using hX)]
  have i1 := rdB_inv hb hp1
  have i2 := rd_inv hbb.2 hp2
  have i3 := rdB_inv b2 hp3
  have i4 := rd_inv b3.2 hp4
  have hd : (copyA (zA 8) x).1 = x := congrArg Subtype.val (copy8 ⟨x, h8⟩)
  refine ⟨?_, ?_, ?_, b3.1, fun z hz => (s2 z (by simpa using hz)).2⟩
  · show mayP n b ([] ++ q.1) = true
    unfold mayP
    rw [List.nil_append, Bool.and_eq_true, decide_eq_true_eq]
    exact ⟨List.all_eq_true.2 (fun z hz => decide_eq_true (s2 z hz).1), by omega⟩
  · show B = allS (copyA (zA 8) x) n b ([] ++ q.1)
    unfold allS bytB
    rw [hd, List.nil_append, s1, show ((m.toNat : Nat) : Int) = m by omega]
    rw [q1, List.append_nil] at s3
    rw [i1, i2, i3, i4, s3]
    simp [List.append_assoc]
  · show Byts (copyA (zA 8) x).1
    rw [hd]
    exact hbb.1

theorem rdB_bytB {x : List Int} (r : List Int) {most : Int} (hm : (x.length : Int) ≤ most) (hl : x.length < 1000000000) : rdB (bytB x ++ r) 0 most = (x, r, 0) := by
  unfold bytB
  rw [List.append_assoc]
  exact rdB_enc r hm (by omega)

theorem rdS_all : ∀ (s : List (List Int)), (∀ z ∈ s, z.length ≤ 4096) → rdS s.length (sigsB s) 0 = (s, [], 0)
  | [], _ => rfl
  | z :: s, h => by
    have h1 := rdB_bytB (x := z) (sigsB s) (most := 4096) (by have := h z (by simp); omega) (by have := h z (by simp); omega)
    have ih := rdS_all s (fun y hy => h y (by simp [hy]))
    have hr : rdS (s.length + 1) (sigsB (z :: s)) 0 = ((rdB (sigsB (z :: s)) 0 4096).1 :: (rdS s.length (rdB (sigsB (z :: s)) 0 4096).2.1 (rdB (sigsB (z :: s)) 0 4096).2.2).1, (rdS s.length (rdB (sigsB (z :: s)) 0 4096).2.1 (rdB (sigsB (z :: s)) 0 4096).2.2).2.1, (rdS s.length (rdB (sigsB (z :: s)) 0 4096).2.1 (rdB (sigsB (z :: s)) 0 4096).2.2).2.2) := rfl
    rw [List.length_cons, hr, show sigsB (z :: s) = bytB z ++ sigsB s by simp [sigsB], h1]
    simp only []
    rw [ih]

theorem decS_all (d : Arr Int 8) {n : Int} {b : List Int} {s : List (List Int)} (h : mayP n b s = true) : decS (allS d n b s) = (d, n, b, s, 0) := by
  obtain ⟨hn, hb, h2, h8, hz⟩ := may_ok h
  have h1 := rdB_bytB (x := d.1) (encN n ++ (bytB b ++ (encN (s.length : Int) ++ sigsB s))) (most := 8) (by rw [d.2]; decide) (by rw [d.2]; decide)
  have h3 := rd_ok (n := n) (most := 1099511627776) (by omega) (by omega) (by omega) (bytB b ++ (encN (s.length : Int) ++ sigsB s))
  have h4 := rdB_bytB (x := b) (encN (s.length : Int) ++ sigsB s) (most := 4096) (by omega) (by omega)
  have h5 := rd_ok (n := (s.length : Int)) (most := 8) (by omega) (by omega) (by omega) (sigsB s)
  have h6 := rdS_all s hz
  unfold decS allS
  rw [h1]
  simp only []
  rw [h3]
  simp only []
  rw [h4]
  simp only []
  rw [h5]
  simp only []
  rw [if_neg (c := (0 : Int) ≠ 0) (by decide), if_neg (c := d.1.length ≠ 8) (by rw [d.2]; decide), if_neg (c := (0 : Int) ≠ 0) (by decide), if_neg (c := (0 : Int) ≠ 0) (by decide), if_neg (c := (0 : Int) ≠ 0) (by decide),
    if_neg (c := (s.length : Int) < 2) (by omega), show (s.length : Int).toNat = s.length by omega, h6, copy8]
  rfl
end Go.Proofs.Ythfmgobnanifnaa
