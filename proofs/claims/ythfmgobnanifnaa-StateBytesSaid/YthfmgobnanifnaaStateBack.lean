/-
  Plain facts of signed states' bytes: what the document reads, and that what is read is what was told.
-/
import Derived.Test.YthfmgobnanifnaaStateCodec
namespace Go.Proofs.Ythfmgobnanifnaa
open Go.Lab
set_option maxRecDepth 10000

/-! ### Reading, by the document -/

section
variable {d : Arr Int 8} {n : Int} {b : List Int}

end

/-! ### What is read was told -/

theorem rdS_inv : ∀ (k : Nat) {l : List Int} {e : Int}, Byts l → (rdS k l e).2.2 = 0 → e = 0 ∧ (rdS k l e).1.length = k ∧ (∀ z ∈ (rdS k l e).1, z.length ≤ 4096 ∧ Byts z) ∧ l = sigsB (rdS k l e).1 ++ (rdS k l e).2.1 ∧ Byts (rdS k l e).2.1
  | 0, l, e, hb, h => ⟨h, rfl, fun z hz => by simp [rdS] at hz, by simp [rdS, sigsB], hb⟩
  | k + 1, l, e, hb, h => by
    have hr : rdS (k + 1) l e = ((rdB l e 4096).1 :: (rdS k (rdB l e 4096).2.1 (rdB l e 4096).2.2).1, (rdS k (rdB l e 4096).2.1 (rdB l e 4096).2.2).2.1, (rdS k (rdB l e 4096).2.1 (rdB l e 4096).2.2).2.2) := rfl
    rw [hr] at h ⊢
    simp only [] at h ⊢
    have hbb := rdB_byts hb e 4096
    obtain ⟨h1, h2, h3, h4, h5⟩ := rdS_inv k hbb.2 h
    have he := rdB_bad h1
    subst he
    have hx := rdB_most (l := l) 0 (most := 4096) (by decide)
    generalize hp : rdB l 0 4096 = p at hbb h h1 h2 h3 h4 h5 hx ⊢
    obtain ⟨x, y, z⟩ := p
    simp only [] at hbb h h1 h2 h3 h4 h5 hx ⊢
    subst h1
    have hi := rdB_inv hb hp
    refine ⟨trivial, by simp [h2], ?_, ?_, h5⟩
    · intro z hz
      rcases List.mem_cons.1 hz with rfl | hz
      · exact ⟨by omega, hbb.1⟩
      · exact h3 z hz
    · rw [hi, sigsB, List.map_cons, List.flatten_cons]
      conv => lhs; rw [h4]
      simp [bytB, sigsB, List.append_assoc]

structure GoodS (B : List Int) (q : Sg) : Prop where
  may : mayP q.2.1 q.2.2.1 q.2.2.2.1 = true
  all : B = allS q.1 q.2.1 q.2.2.1 q.2.2.2.1
  byd : Byts q.1.1
  byb : Byts q.2.2.1
  bys : ∀ z ∈ q.2.2.2.1, Byts z

theorem endX_0 {l : List Int} {e : Int} (h : endX l e = 0) : e = 0 ∧ l = [] := by
  unfold endX at h
  by_cases he : e = 0
  · rw [if_neg (by simpa using he)] at h
    refine ⟨he, ?_⟩
    cases l with
    | nil => rfl
    | cons x l => rw [if_pos (by simp)] at h; cases h
  · rw [if_pos he] at h
    exact absurd h he

theorem decS_good {B : List Int} (hb : Byts B) (h : (decS B).2.2.2.2 = 0) : GoodS B (decS B) := by
  have hbb := rdB_byts hb 0 8
  unfold decS at h ⊢
  generalize hp1 : rdB B 0 8 = t at hbb h ⊢
  obtain ⟨x, r1, e1⟩ := t
  simp only [] at hbb h ⊢
  by_cases he1 : e1 = 0
  case neg => rw [if_pos (c := e1 ≠ 0) he1] at h; exact absurd h he1
  subst he1
  rw [if_neg (c := (0 : Int) ≠ 0) (by decide)] at h ⊢
  by_cases h8 : x.length = 8
  case neg => rw [if_pos (c := x.length ≠ 8) h8] at h; cases h
  rw [if_neg (c := x.length ≠ 8) (by simpa using h8)] at h ⊢
  have w2 := rd_num0 hbb.2 0 (most := 1099511627776) (by decide)
  have b2 := rd_byts hbb.2 0 1099511627776
  generalize hp2 : rd r1 0 1099511627776 = u at w2 b2 h ⊢
  obtain ⟨n, r2, e2⟩ := u
  simp only [] at w2 b2 h ⊢
  by_cases he2 : e2 = 0
  case neg => rw [if_pos (c := e2 ≠ 0) he2] at h; exact absurd h he2
  subst he2
  rw [if_neg (c := (0 : Int) ≠ 0) (by decide)] at h ⊢
  have b3 := rdB_byts b2 0 4096
  have x3 := rdB_most (l := r2) 0 (most := 4096) (by decide)
  generalize hp3 : rdB r2 0 4096 = v at b3 x3 h ⊢
  obtain ⟨b, r3, e3⟩ := v
  simp only [] at b3 x3 h ⊢
  by_cases he3 : e3 = 0
  case neg => rw [if_pos (c := e3 ≠ 0) he3] at h; exact absurd h he3
  subst he3
  rw [if_neg (c := (0 : Int) ≠ 0) (by decide)] at h ⊢
  have w4 := rd_num0 b3.2 0 (most := 8) (by decide)
  have b4 := rd_byts b3.2 0 8
  generalize hp4 : rd r3 0 8 = w at w4 b4 h ⊢
  obtain ⟨m, r4, e4⟩ := w
  simp only [] at w4 b4 h ⊢
  by_cases he4 : e4 = 0
  case neg => rw [if_pos (c := e4 ≠ 0) he4] at h; exact absurd h he4
  subst he4
  rw [if_neg (c := (0 : Int) ≠ 0) (by decide)] at h ⊢
  by_cases hm : m < 2
  case pos => rw [if_pos (c := m < 2) hm] at h; cases h
  rw [if_neg (c := m < 2) hm] at h ⊢
  generalize hq : rdS m.toNat r4 0 = q at h ⊢
  have hX : endX q.2.1 q.2.2 = 0 := by
    apply Classical.byContradiction
    intro hx
    unfold finS at h
    rw [if_pos (c := endX q.2.1 q.2.2 ≠ 0) hx] at h
    exact hx h
  obtain ⟨q0, q1⟩ := endX_0 hX
  obtain ⟨_, s1, s2, s3, _⟩ := rdS_inv m.toNat (l := r4) (e := 0) b4 (by rw [hq]; exact q0)
  rw [hq] at s1 s2 s3
  unfold finS
  rw [if_neg (c := endX q.2.1 q.2.2 ≠ 0) (by simpa using hX)]
  have i1 := rdB_inv hb hp1
  have i2 := rd_inv hbb.2 hp2
  have i3 := rdB_inv b2 hp3
  have i4 := rd_inv b3.2 hp4
  have hd : (copyA (zA 8) x).1 = x := congrArg Subtype.val (copy8 ⟨x, h8⟩)
  refine ⟨?_, ?_, ?_, b3.1, fun z hz => (s2 z (by simpa using hz)).2⟩
  · show mayP n b ([] ++ q.1) = true
    unfold mayP
    rw [List.nil_append, Bool.and_eq_true, decide_eq_true_eq]
    exact ⟨List.all_eq_true.2 (fun z hz => decide_eq_true (s2 z hz).1), by omega⟩
  · show B = allS (copyA (zA 8) x) n b ([] ++ q.1)
    unfold allS bytB
    rw [hd, List.nil_append, s1, show ((m.toNat : Nat) : Int) = m by omega]
    rw [q1, List.append_nil] at s3
    rw [i1, i2, i3, i4, s3]
    simp [List.append_assoc]
  · show Byts (copyA (zA 8) x).1
    rw [hd]
    exact hbb.1

theorem rdB_bytB {x : List Int} (r : List Int) {most : Int} (hm : (x.length : Int) ≤ most) (hl : x.length < 1000000000) : rdB (bytB x ++ r) 0 most = (x, r, 0) := by
  unfold bytB
  rw [List.append_assoc]
  exact rdB_enc r hm (by omega)

theorem rdS_all : ∀ (s : List (List Int)), (∀ z ∈ s, z.length ≤ 4096) → rdS s.length (sigsB s) 0 = (s, [], 0)
  | [], _ => rfl
  | z :: s, h => by
    have h1 := rdB_bytB (x := z) (sigsB s) (most := 4096) (by have := h z (by simp); omega) (by have := h z (by simp); omega)
    have ih := rdS_all s (fun y hy => h y (by simp [hy]))
    have hr : rdS (s.length + 1) (sigsB (z :: s)) 0 = ((rdB (sigsB (z :: s)) 0 4096).1 :: (rdS s.length (rdB (sigsB (z :: s)) 0 4096).2.1 (rdB (sigsB (z :: s)) 0 4096).2.2).1, (rdS s.length (rdB (sigsB (z :: s)) 0 4096).2.1 (rdB (sigsB (z :: s)) 0 4096).2.2).2.1, (rdS s.length (rdB (sigsB (z :: s)) 0 4096).2.1 (rdB (sigsB (z :: s)) 0 4096).2.2).2.2) := rfl
    rw [List.length_cons, hr, show sigsB (z :: s) = bytB z ++ sigsB s by simp [sigsB], h1]
    simp only []
    rw [ih]

theorem decS_all (d : Arr Int 8) {n : Int} {b : List Int} {s : List (List Int)} (h : mayP n b s = true) : decS (allS d n b s) = (d, n, b, s, 0) := by
  obtain ⟨hn, hb, h2, h8, hz⟩ := may_ok h
  have h1 := rdB_bytB (x := d.1) (encN n ++ (bytB b ++ (encN (s.length : Int) ++ sigsB s))) (most := 8) (by rw [d.2]; decide) (by rw [d.2]; decide)
  have h3 := rd_ok (n := n) (most := 1099511627776) (by omega) (by omega) (by omega) (bytB b ++ (encN (s.length : Int) ++ sigsB s))
  have h4 := rdB_bytB (x := b) (encN (s.length : Int) ++ sigsB s) (most := 4096) (by omega) (by omega)
  have h5 := rd_ok (n := (s.length : Int)) (most := 8) (by omega) (by omega) (by omega) (sigsB s)
  have h6 := rdS_all s hz
  unfold decS allS
  rw [h1]
  simp only []
  rw [h3]
  simp only []
  rw [h4]
  simp only []
  rw [h5]
  simp only []
  rw [if_neg (c := (0 : Int) ≠ 0) (by decide), if_neg (c := d.1.length ≠ 8) (by rw [d.2]; decide), if_neg (c := (0 : Int) ≠ 0) (by decide), if_neg (c := (0 : Int) ≠ 0) (by decide), if_neg (c := (0 : Int) ≠ 0) (by decide),
    if_neg (c := (s.length : Int) < 2) (by omega), show (s.length : Int).toNat = s.length by omega, h6, copy8]
  rfl
end Go.Proofs.Ythfmgobnanifnaa
