/-
  Proved: the bytes of any thing, and the thing that any bytes are, or why they are none, are as the document says; there and back each is as it was (5,000 bytes each).
-/
import Derived.Test.YtlnockimfgfcgaaPunishRead
namespace Go.Proofs.Ytlnockimfgfcgaa
open Go.Lab
set_option maxRecDepth 10000

theorem same_l1 (l : List Int) (hl : l.length < 1000000000) : ∀ (j k b : Nat), b + j = l.length → j < k → F.slices_Equal_byte_byte.l1 l l k (b : Int) = some true := by
  intro j
  induction j with
  | zero =>
    intro k b hb hk
    obtain ⟨k, rfl⟩ : ∃ j, k = j + 1 := ⟨k - 1, by omega⟩
    unfold F.slices_Equal_byte_byte.l1
    rw [if_neg (by simp; omega)]
  | succ j ih =>
    intro k b hb hk
    obtain ⟨k, rfl⟩ : ∃ j, k = j + 1 := ⟨k - 1, by omega⟩
    unfold F.slices_Equal_byte_byte.l1
    rw [if_pos (by simp; omega), if_pos (by omega), if_pos (by omega), if_neg (by simp), wrap_succ (by omega) (by omega)]
    have := ih k (b + 1) (by omega) (by omega)
    rw [show (b : Int) + 1 = ((b + 1 : Nat) : Int) by push_cast; rfl]
    exact this

theorem Equal_refl (l : List Int) (hl : l.length < 1000000000) : F.slices_Equal_byte_byte l l = some true := by
  unfold F.slices_Equal_byte_byte
  rw [if_neg (by simp)]
  exact same_l1 l hl l.length fuel 0 (by omega) (by rw [fuel_eq]; omega)

theorem rsame_l1 (l : List Int) (hl : l.length < 1000000000) : ∀ (j k b : Nat), b + j = l.length → j < k → F.baizeref01_Same.l1 l l k (b : Int) = some true := by
  intro j
  induction j with
  | zero =>
    intro k b hb hk
    obtain ⟨k, rfl⟩ : ∃ j, k = j + 1 := ⟨k - 1, by omega⟩
    unfold F.baizeref01_Same.l1
    rw [if_neg (by simp; omega)]
  | succ j ih =>
    intro k b hb hk
    obtain ⟨k, rfl⟩ : ∃ j, k = j + 1 := ⟨k - 1, by omega⟩
    unfold F.baizeref01_Same.l1
    rw [if_pos (by simp; omega), if_pos (by omega), if_pos (by omega), if_neg (by simp), wrap_succ (by omega) (by omega)]
    have := ih k (b + 1) (by omega) (by omega)
    rw [show (b : Int) + 1 = ((b + 1 : Nat) : Int) by push_cast; rfl]
    exact this

theorem RSame_refl (l : List Int) (hl : l.length < 1000000000) : F.baizeref01_Same l l = some true := by
  unfold F.baizeref01_Same
  rw [if_neg (by simp)]
  exact rsame_l1 l hl l.length fuel 0 (by omega) (by rw [fuel_eq]; omega)

theorem body_refl (d1 : Arr Int 8) (x : Int) (d2 : Arr Int 8) (l : List Int) (hl : l.length < 1000000000) : F.punish_body_same d1 x d2 l d1 x d2 l = some true := by
  unfold F.punish_body_same F.punish_body_same.c1
  rw [if_pos (by simp), if_pos (by simp), if_pos (by simp), Equal_refl l hl]
  rfl

theorem Same_refl (x1 : Int) (d1 : Arr Int 8) (x2 : Int) (l1 : List Int) (d2 : Arr Int 8) (x3 : Int) (d3 : Arr Int 8) (l2 l3 : List Int) (h1 : l1.length < 1000000000) (h2 : l2.length < 1000000000) (h3 : l3.length < 1000000000) :
    F.punish_Thing_Same x1 d1 x2 l1 d2 x3 d3 l2 l3 x1 d1 x2 l1 d2 x3 d3 l2 l3 = some true := by
  unfold F.punish_Thing_Same F.punish_Thing_bodies F.punish_Thing_Same.c1
  simp only [Option.bind_some]
  rw [if_pos (by simp), body_refl _ _ _ _ h1, Option.bind_some, if_pos rfl, body_refl _ _ _ _ h2, Option.bind_some, if_pos rfl, Equal_refl _ h3]
  rfl

theorem RefSame_refl (x1 : Int) (d1 : Arr Int 8) (x2 : Int) (d2 : Arr Int 8) (l1 l2 : List Int) (q : Bool) (h1 : l1.length < 1000000000) (h2 : l2.length < 1000000000) :
    F.baizeref34_Same x1 d1 x2 d2 l1 l2 q x1 d1 x2 d2 l1 l2 q = some true := by
  have hA : ∃ d, F.baizeref34_At x1 d1 x2 d2 l1 l2 q = some d := by
    unfold F.baizeref34_At
    split
    · exact ⟨_, rfl⟩
    · exact ⟨_, rfl⟩
  obtain ⟨d, hA⟩ := hA
  unfold F.baizeref34_Same F.baizeref34_Same.c1
  rw [hA, if_pos (by simp), if_pos (by simp), if_pos (by simp), Option.bind_some, Option.bind_some, if_pos (by simp), RSame_refl _ h1, RSame_refl _ h2, Option.bind_some, if_pos rfl, Option.bind_some, if_pos rfl]
  simp

/-! ### What is read -/

theorem endX_zero {l : List Int} {e : Int} (h : endX l e = 0) : e = 0 ∧ l = [] := by
  unfold endX at h
  split at h
  · rename_i he; exact absurd h he
  · rename_i he
    split at h
    · cases h
    · rename_i hl
      exact ⟨by simpa using he, List.eq_nil_of_length_eq_zero (by omega)⟩

theorem digD_inv {l : List Int} (hb : Byts l) {e : Int} (he : (rdB l e 8).2.2 = 0) (hw : wrongD l e = false) : e = 0 ∧ l = bytB (digD l e).1 ++ (rdB l e 8).2.1 ∧ Byts (digD l e).1 := by
  have e0 : e = 0 := rdB_bad he
  subst e0
  have h8 : (rdB l 0 8).1.length = 8 := by
    unfold wrongD at hw
    simp only [decide_eq_false_iff_not] at hw
    apply Classical.byContradiction
    intro hn
    exact hw ⟨he, hn⟩
  have hbb := (rdB_byts hb 0 8).1
  unfold digD
  generalize hp : rdB l 0 8 = p at he h8 hbb ⊢
  obtain ⟨x, y, z⟩ := p
  simp only [] at he h8 hbb ⊢
  subst he
  have hi := rdB_inv hb hp
  have hc : copyA (zA 8) x = ⟨x, h8⟩ := copy8 ⟨x, h8⟩
  rw [hc]
  refine ⟨trivial, ?_, hbb⟩
  unfold bytB
  simp only []
  rw [List.append_assoc]
  exact hi

/-- What a thing that was read is. -/
structure Good (B : List Int) (q : Th) : Prop where
  chk : chkT q.1 q.2.2.1 q.2.2.2.2.1 q.2.2.2.2.2.1 false = 0
  all : B = allT q.1 q.2.1 q.2.2.1 q.2.2.2.1 q.2.2.2.2.1 q.2.2.2.2.2.1

theorem tail_good {k : Int} (hk : k = 0 ∨ k = 1) (t : Arr Int 8) {n : Int} (hn : 0 ≤ n ∧ n ≤ 1099511627776) (a : Arr Int 8) {l : List Int} (hb : Byts l) {e : Int} (h : (tailT k t n a l e).2.2.2.2.2.2 = 0) :
    e = 0 ∧ ∃ b s, tailT k t n a l e = (k, t, n, a, b, s, 0) ∧ chkT k n b s false = 0 ∧ l = bytB b ++ bytB s := by
  have b1 := rdB_byts hb e 4096
  have m1 := rdB_most (l := l) e (most := 4096) (by decide)
  unfold tailT at h ⊢
  generalize hp : rdB l e 4096 = p at h b1 m1 ⊢
  obtain ⟨x, y, z⟩ := p
  simp only [] at h b1 m1 ⊢
  have m2 := rdB_most (l := y) z (most := 4096) (by decide)
  generalize hq : rdB y z 4096 = q at h m2 ⊢
  obtain ⟨u, v, w⟩ := q
  simp only [] at h m2 ⊢
  by_cases hx : endX v w = 0
  · rw [if_neg (c := endX v w ≠ 0) (by simpa using hx)]
    obtain ⟨hw, hv⟩ := endX_zero hx
    subst hw hv
    have hz : z = 0 := rdB_bad (l := y) (e := z) (most := 4096) (by rw [hq])
    subst hz
    have he : e = 0 := rdB_bad (l := l) (e := e) (most := 4096) (by rw [hp])
    subst he
    have i1 := rdB_inv hb hp
    have i2 := rdB_inv b1.2 hq
    refine ⟨rfl, x, u, rfl, ?_, ?_⟩
    · unfold chkT
      rw [if_neg (by omega), if_neg (by decide), if_neg (by omega)]
    · rw [i1, i2]
      simp [bytB]
  · rw [if_pos (c := endX v w ≠ 0) hx] at h
    exact absurd h hx

theorem mid_good {k : Int} (hk : k = 0 ∨ k = 1) (t : Arr Int 8) {n : Int} (hn : 0 ≤ n ∧ n ≤ 1099511627776) {l : List Int} (hb : Byts l) {e : Int} (h : (midT k t n l e).2.2.2.2.2.2 = 0) :
    e = 0 ∧ ∃ a b s, midT k t n l e = (k, t, n, a, b, s, 0) ∧ chkT k n b s false = 0 ∧ l = (if k = 1 then bytB a.1 else []) ++ (bytB b ++ bytB s) := by
  unfold midT at h ⊢
  rcases hk with rfl | rfl
  · rw [if_neg (c := (0 : Int) = 1) (by decide)] at h ⊢
    obtain ⟨he, b, s, h1, h2, h3⟩ := tail_good (.inl rfl) t hn (zA 8) hb h
    exact ⟨he, zA 8, b, s, h1, h2, by rw [if_neg (by decide)]; exact h3⟩
  · rw [if_pos (c := (1 : Int) = 1) rfl] at h ⊢
    cases hw : wrongD l e with
    | true => rw [hw, if_pos rfl] at h; cases h
    | false =>
      rw [hw, if_neg (c := false = true) (by decide)] at h
      rw [if_neg (c := false = true) (by decide)]
      obtain ⟨he, b, s, h1, h2, h3⟩ := tail_good (.inr rfl) t hn (digD l e) (rdB_byts hb e 8).2 h
      obtain ⟨e0, h4, _⟩ := digD_inv hb he hw
      refine ⟨e0, digD l e, b, s, h1, h2, ?_⟩
      rw [if_pos rfl, ← h3]
      exact h4

theorem dec_good {B : List Int} (hb : Byts B) (h : (decT B).2.2.2.2.2.2 = 0) : Good B (decT B) := by
  have g1 := rd_num0 hb 0 (most := 1) (by decide)
  have b1 := rd_byts hb 0 1
  unfold decT at h ⊢
  generalize hp : rd B 0 1 = p at g1 b1 h ⊢
  obtain ⟨k, r1, e1⟩ := p
  simp only [] at g1 b1 h ⊢
  cases hw : wrongD r1 e1 with
  | true => rw [hw, if_pos rfl] at h; cases h
  | false =>
    rw [hw, if_neg (c := false = true) (by decide)] at h
    rw [if_neg (c := false = true) (by decide)]
    have b2 := (rdB_byts b1 e1 8).2
    have g3 := rd_num0 b2 (rdB r1 e1 8).2.2 (most := 1099511627776) (by decide)
    have b3 := rd_byts b2 (rdB r1 e1 8).2.2 1099511627776
    generalize hp3 : rd (rdB r1 e1 8).2.1 (rdB r1 e1 8).2.2 1099511627776 = p3 at g3 b3 h ⊢
    obtain ⟨n, r3, e3⟩ := p3
    simp only [] at g3 b3 h ⊢
    obtain ⟨he3, a, b, s, h1, h2, h3⟩ := mid_good (kind_of g1) (digD r1 e1) g3 b3 h
    subst he3
    have he2 : (rdB r1 e1 8).2.2 = 0 := rd_bad (l := (rdB r1 e1 8).2.1) (most := 1099511627776) (by rw [hp3])
    obtain ⟨he1, h4, _⟩ := digD_inv b1 he2 hw
    subst he1
    rw [he2] at hp3
    have i3 := rd_inv b2 hp3
    have i1 := rd_inv hb hp
    rw [h1]
    refine ⟨h2, ?_⟩
    show B = allT k (digD r1 0) n a b s
    unfold allT
    rw [i1, ← h3, ← i3, ← h4]

/-! ### There and back -/

theorem rdB_bytB {x : List Int} (r : List Int) {most : Int} (hm : (x.length : Int) ≤ most) (hl : x.length < 1000000000) : rdB (bytB x ++ r) 0 most = (x, r, 0) := by
  unfold bytB
  rw [List.append_assoc]
  exact rdB_enc r hm (by omega)

theorem dig_bytB (d : Arr Int 8) (r : List Int) : rdB (bytB d.1 ++ r) 0 8 = (d.1, r, 0) ∧ wrongD (bytB d.1 ++ r) 0 = false ∧ digD (bytB d.1 ++ r) 0 = d := by
  have h := rdB_bytB (x := d.1) r (most := 8) (by rw [d.2]; decide) (by rw [d.2]; decide)
  refine ⟨h, ?_, ?_⟩
  · unfold wrongD
    rw [h]
    simp [d.2]
  · unfold digD
    rw [h]
    exact copy8 d

theorem tail_all (k : Int) (t : Arr Int 8) (n : Int) (a : Arr Int 8) {b s : List Int} (hb : b.length ≤ 4096) (hs : s.length ≤ 4096) : tailT k t n a (bytB b ++ bytB s) 0 = (k, t, n, a, b, s, 0) := by
  have h1 := rdB_bytB (x := b) (bytB s) (most := 4096) (by omega) (by omega)
  have h2 := rdB_bytB (x := s) [] (most := 4096) (by omega) (by omega)
  rw [List.append_nil] at h2
  unfold tailT
  rw [h1]
  simp only []
  rw [h2]
  rfl

theorem dec_all {k n : Int} (t : Arr Int 8) (a : Arr Int 8) {b s : List Int} (hc : chkT k n b s false = 0) :
    decT (allT k t n a b s) = (k, t, n, if k = 1 then a else zA 8, b, s, 0) := by
  obtain ⟨hk, _, hn, hb, hs⟩ := chkT_ok hc
  have h1 := rd_ok (n := k) (most := 1) (by omega) (by omega) (by omega) (bytB t.1 ++ (encN n ++ ((if k = 1 then bytB a.1 else []) ++ (bytB b ++ bytB s))))
  obtain ⟨h2, h3, h4⟩ := dig_bytB t (encN n ++ ((if k = 1 then bytB a.1 else []) ++ (bytB b ++ bytB s)))
  have h5 := rd_ok (n := n) (most := 1099511627776) (by omega) (by omega) (by omega) ((if k = 1 then bytB a.1 else []) ++ (bytB b ++ bytB s))
  unfold decT allT
  rw [h1]
  simp only []
  rw [h3, h4, h2]
  simp only []
  rw [h5]
  simp only []
  rw [if_neg (c := false = true) (by decide)]
  unfold midT
  rcases hk with rfl | rfl
  · rw [if_neg (c := (0 : Int) = 1) (by decide), if_neg (c := (0 : Int) = 1) (by decide), if_neg (c := (0 : Int) = 1) (by decide), List.nil_append, tail_all _ _ _ _ hb hs]
  · obtain ⟨g2, g3, g4⟩ := dig_bytB a (bytB b ++ bytB s)
    rw [if_pos (c := (1 : Int) = 1) rfl, if_pos (c := (1 : Int) = 1) rfl, if_pos (c := (1 : Int) = 1) rfl, g3, g4, g2, if_neg (c := false = true) (by decide)]
    exact tail_all _ _ _ _ hb hs

theorem of_at {k n : Int} (hk : k = 0 ∨ k = 1) (t a : Arr Int 8) (b s : List Int) : ofT k t n (if k = 1 then a else zA 8) b s false = ofT k t n a b s false := by
  rcases hk with rfl | rfl
  · simp [ofT]
  · simp [ofT]

theorem of_lens {k n : Int} (t a : Arr Int 8) {b s : List Int} (other : Bool) (hb : b.length < 100000) (hs : s.length < 100000) : (ofT k t n a b s other).2.2.2.1.length < 1000000000 ∧ (ofT k t n a b s other).2.2.2.2.2.2.2.1.length < 1000000000 ∧ (ofT k t n a b s other).2.2.2.2.2.2.2.2.length < 1000000000 := by
  unfold ofT
  split
  · simp; omega
  · cases other <;> simp <;> omega

theorem To_eq34 {k : Int} (hk : k = 0 ∨ k = 1) (t : Arr Int 8) (n : Int) (a : Arr Int 8) (b s : List Int) :
    F.baizelaw34_To (ofT k t n a b s false).1 (ofT k t n a b s false).2.1 (ofT k t n a b s false).2.2.1 (ofT k t n a b s false).2.2.2.1 (ofT k t n a b s false).2.2.2.2.1 (ofT k t n a b s false).2.2.2.2.2.1 (ofT k t n a b s false).2.2.2.2.2.2.1 (ofT k t n a b s false).2.2.2.2.2.2.2.1 (ofT k t n a b s false).2.2.2.2.2.2.2.2 = some (k, t, n, if k = 1 then a else zA 8, b, s, false) := by
  unfold F.baizelaw34_To F.baizelaw34_To.c1
  rcases hk with rfl | rfl <;> simp [ofT]

/-- Of what is read its place's digest is none where its kind has none. -/
theorem dec_at {B : List Int} (hb : Byts B) : (decT B).1 = 0 ∨ (decT B).1 = 1 := by
  have g1 := rd_num0 hb 0 (most := 1) (by decide)
  unfold decT
  split
  · exact .inl rfl
  · unfold midT
    have ht : ∀ k t n a l e, (tailT k t n a l e).1 = 0 ∨ (tailT k t n a l e).1 = k := by
      intro k t n a l e
      unfold tailT
      split
      · exact .inl rfl
      · exact .inr rfl
    split
    · split
      · exact .inl rfl
      · rcases ht (rd B 0 1).1 (digD (rd B 0 1).2.1 (rd B 0 1).2.2) _ _ _ _ with h | h
        · exact .inl h
        · rw [h]; omega
    · rcases ht (rd B 0 1).1 (digD (rd B 0 1).2.1 (rd B 0 1).2.2) _ _ _ _ with h | h
      · exact .inl h
      · rw [h]; omega

theorem dec_at0 (B : List Int) : (decT B).1 = 0 → (decT B).2.2.2.1 = zA 8 := by
  unfold decT
  split
  · exact fun _ => rfl
  · unfold midT
    have ht : ∀ k t n a l e, (tailT k t n a l e).1 = k ∧ (tailT k t n a l e).2.2.2.1 = a ∨ tailT k t n a l e = badT (tailT k t n a l e).2.2.2.2.2.2 := by
      intro k t n a l e
      unfold tailT
      split
      · exact .inr rfl
      · exact .inl ⟨rfl, rfl⟩
    split
    · rename_i hk
      split
      · exact fun _ => rfl
      · intro h
        rcases ht (rd B 0 1).1 (digD (rd B 0 1).2.1 (rd B 0 1).2.2) _ _ _ _ with q | q
        · rw [q.1, hk] at h; cases h
        · rw [q]; rfl
    · intro h
      rcases ht (rd B 0 1).1 (digD (rd B 0 1).2.1 (rd B 0 1).2.2) _ _ _ _ with q | q
      · exact q.2
      · rw [q]; rfl

theorem dec_lens {B : List Int} (hl : B.length ≤ 100000) : (decT B).2.2.2.2.1.length ≤ 100000 ∧ (decT B).2.2.2.2.2.1.length ≤ 100000 := by
  have hrd : ∀ (l : List Int) (e m : Int), (rd l e m).2.1.length ≤ l.length := rd_len
  have hr : ∀ (l : List Int) (e m : Int), (rdB l e m).2.1.length ≤ l.length := by
    intro l e m
    obtain ⟨j, _, h⟩ := rdB_left l e m
    rw [h, List.length_drop]; omega
  have hx : ∀ (l : List Int) (e m : Int), (rdB l e m).1.length ≤ l.length := by
    intro l e m
    unfold rdB
    split
    · simp
    split
    · simp
    split
    · simp
    split
    · simp
    · simp only [List.length_take, List.length_drop]; omega
  have ht : ∀ k t n a (l : List Int) e, l.length ≤ 100000 → (tailT k t n a l e).2.2.2.2.1.length ≤ 100000 ∧ (tailT k t n a l e).2.2.2.2.2.1.length ≤ 100000 := by
    intro k t n a l e h
    unfold tailT
    split
    · simp [badT]
    · have := hx l e 4096
      have := hr l e 4096
      have := hx (rdB l e 4096).2.1 (rdB l e 4096).2.2 4096
      exact ⟨by simp only []; omega, by simp only []; omega⟩
  unfold decT
  split
  · simp [badT]
  · unfold midT
    have h1 := hrd B 0 1
    have h2 := hr (rd B 0 1).2.1 (rd B 0 1).2.2 8
    have h3 := hrd (rdB (rd B 0 1).2.1 (rd B 0 1).2.2 8).2.1 (rdB (rd B 0 1).2.1 (rd B 0 1).2.2 8).2.2 1099511627776
    split
    · split
      · simp [badT]
      · refine ht _ _ _ _ _ _ ?_
        have := hr (rd (rdB (rd B 0 1).2.1 (rd B 0 1).2.2 8).2.1 (rdB (rd B 0 1).2.1 (rd B 0 1).2.2 8).2.2 1099511627776).2.1 (rd (rdB (rd B 0 1).2.1 (rd B 0 1).2.2 8).2.1 (rdB (rd B 0 1).2.1 (rd B 0 1).2.2 8).2.2 1099511627776).2.2 8
        omega
    · exact ht _ _ _ _ _ _ (by omega)

theorem dec_bad {B : List Int} (h : (decT B).2.2.2.2.2.2 ≠ 0) : decT B = badT (decT B).2.2.2.2.2.2 := by
  unfold decT at h ⊢
  split
  · rfl
  · rename_i hw
    rw [if_neg hw] at h
    unfold midT at h ⊢
    have ht : ∀ k t n a l e, (tailT k t n a l e).2.2.2.2.2.2 ≠ 0 → tailT k t n a l e = badT (tailT k t n a l e).2.2.2.2.2.2 := by
      intro k t n a l e hh
      unfold tailT at hh ⊢
      split
      · rfl
      · rename_i hx
        rw [if_neg hx] at hh
        exact absurd rfl hh
    split
    · rename_i hk
      rw [if_pos hk] at h
      split
      · rfl
      · rename_i hw2
        rw [if_neg hw2] at h
        exact ht _ _ _ _ _ _ h
    · rename_i hk
      rw [if_neg hk] at h
      exact ht _ _ _ _ _ _ h

/-- The end: what was read is told again. -/
theorem last_eq {B : List Int} (hb : Byts B) (hl : B.length ≤ 5000) : F.baizelaw34_PunishBytes.c3 B (progT (decT B)).1 (progT (decT B)).2.1 (progT (decT B)).2.2.1 (progT (decT B)).2.2.2.1 (progT (decT B)).2.2.2.2.1 (progT (decT B)).2.2.2.2.2.1 (progT (decT B)).2.2.2.2.2.2.1 (progT (decT B)).2.2.2.2.2.2.2.1 (progT (decT B)).2.2.2.2.2.2.2.2.1 (progT (decT B)).2.2.2.2.2.2.2.2.2 = some true := by
  unfold F.baizelaw34_PunishBytes.c3 F.baizelaw34_PunishBytes.c4
  by_cases h : (decT B).2.2.2.2.2.2 = 0
  · have hg := dec_good hb h
    have he := Encode_eq34 (decT B).1 (decT B).2.1 (decT B).2.2.1 (decT B).2.2.2.1 (decT B).2.2.2.2.1 (decT B).2.2.2.2.2.1 false
    rw [if_neg (c := chkT (decT B).1 (decT B).2.2.1 (decT B).2.2.2.2.1 (decT B).2.2.2.2.2.1 false ≠ 0) (by rw [hg.chk]; simp), ← hg.all] at he
    have h0 : (progT (decT B)).2.2.2.2.2.2.2.2.2 = 0 := h
    rw [h0, if_neg (c := ((0 : Int) != 0) = true) (by decide)]
    show (F.punish_Thing_Encode _ _ _ _ _ _ _ _ _).bind _ = _
    rw [show F.punish_Thing_Encode (progT (decT B)).1 (progT (decT B)).2.1 (progT (decT B)).2.2.1 (progT (decT B)).2.2.2.1 (progT (decT B)).2.2.2.2.1 (progT (decT B)).2.2.2.2.2.1 (progT (decT B)).2.2.2.2.2.2.1 (progT (decT B)).2.2.2.2.2.2.2.1 (progT (decT B)).2.2.2.2.2.2.2.2.1 = some (B, 0) from he, Option.bind_some]
    simp
  · have hd := dec_bad h
    rw [hd, prog_bad]
    simp only []
    rw [if_pos (by simpa [badT] using h), Same_refl _ _ _ _ _ _ _ _ _ (by simp) (by simp) (by simp)]
    rfl

theorem law_PunishBytes (y0 : S_baizeref34_Thing) (l1 : (List Int)) (w0 : wf_S_baizeref34_Thing y0) (w1 : (l1.length ≤ maxLen ∧ ∀ y ∈ l1, (Lit.int .u8 y).wf = true)) : F.baizelaw34_PunishBytes y0.f1 y0.f2 y0.f3 y0.f4 y0.f5 y0.f6 y0.f7 l1 = some true := by
  obtain ⟨k, t, n, a, b, s, other⟩ := y0
  simp only []
  simp only [wf_S_baizeref34_Thing] at w0
  have hB := byts_wf w1.2
  have hc : ∀ q : Bool, (q = false → l1.length ≤ 5000) → F.baizelaw34_PunishBytes.c1 k t n a b s other l1 q = some true := by
    intro q hq
    unfold F.baizelaw34_PunishBytes.c1
    cases q with
    | true => rw [if_pos rfl, known_true]; rfl
    | false =>
      have q2 := hq rfl
      rw [if_neg (by decide), Of_eq34, Option.bind_some]
      have hE := Encode_eq34 k t n a b s other
      have hD := Decode_eq34 hB (by omega)
      have hR := RefDecode_eq34 hB (by omega)
      have hlast := last_eq hB q2
      have hlens := dec_lens (B := l1) (by omega)
      have hk := dec_at hB
      have ha := dec_at0 l1
      have hTo := To_eq34 hk (decT l1).2.1 (decT l1).2.2.1 (decT l1).2.2.2.1 (decT l1).2.2.2.2.1 (decT l1).2.2.2.2.2.1
      have hat : (if (decT l1).1 = 1 then (decT l1).2.2.2.1 else zA 8) = (decT l1).2.2.2.1 := by
        rcases hk with h | h
        · rw [if_neg (by rw [h]; decide), ha h]
        · rw [if_pos h]
      rw [hat] at hTo
      have hS := RefSame_refl (decT l1).1 (decT l1).2.1 (decT l1).2.2.1 (decT l1).2.2.2.1 (decT l1).2.2.2.2.1 (decT l1).2.2.2.2.2.1 false (by omega) (by omega)
      simp only []
      rw [hE, Option.bind_some, RefEncode_eq34, Option.bind_some, hD, Option.bind_some, hR, Option.bind_some]
      rw [if_neg (by simp), if_neg (by simp)]
      rw [if_neg (c := ((progT (decT l1)).2.2.2.2.2.2.2.2.2 != (refT (decT l1)).2.2.2.2.2.2.2) = true) (by simp [progT, refT])]
      rw [show F.baizelaw34_To (progT (decT l1)).1 (progT (decT l1)).2.1 (progT (decT l1)).2.2.1 (progT (decT l1)).2.2.2.1 (progT (decT l1)).2.2.2.2.1 (progT (decT l1)).2.2.2.2.2.1 (progT (decT l1)).2.2.2.2.2.2.1 (progT (decT l1)).2.2.2.2.2.2.2.1 (progT (decT l1)).2.2.2.2.2.2.2.2.1 = _ from hTo, Option.bind_some]
      rw [show F.baizeref34_Same ((decT l1).1, (decT l1).2.1, (decT l1).2.2.1, (decT l1).2.2.2.1, (decT l1).2.2.2.2.1, (decT l1).2.2.2.2.2.1, false).1 _ _ _ _ _ _ (refT (decT l1)).1 (refT (decT l1)).2.1 (refT (decT l1)).2.2.1 (refT (decT l1)).2.2.2.1 (refT (decT l1)).2.2.2.2.1 (refT (decT l1)).2.2.2.2.2.1 (refT (decT l1)).2.2.2.2.2.2.1 = some true from hS, Option.bind_some]
      unfold F.baizelaw34_PunishBytes.c2
      rw [if_neg (by decide)]
      by_cases hc : chkT k n b s other = 0
      · obtain ⟨ok, oo, on, ob, os⟩ := chkT_ok hc
        subst oo
        rw [if_neg (c := chkT k n b s false ≠ 0) (by simpa using hc)]
        simp only []
        have hb2 : Byts (allT k t n a b s) := allT_byts (byts_wf w0.2.1) (byts_wf w0.2.2.2.1) (byts_wf w0.2.2.2.2.1.2) (byts_wf w0.2.2.2.2.2.1.2)
        have hD2 := Decode_eq34 hb2 (by have := allT_len (k := k) (n := n) (t := t) (a := a) ob os; omega)
        rw [dec_all t a hc] at hD2
        rw [if_pos (by decide), hD2, Option.bind_some, Of_eq34]
        rw [if_neg (c := ((progT (k, t, n, if k = 1 then a else zA 8, b, s, 0)).2.2.2.2.2.2.2.2.2 != 0) = true) (by simp [progT]), Option.bind_some]
        have hl2 := of_lens (k := k) (n := n) t a (b := b) (s := s) false (by omega) (by omega)
        have hS2 := Same_refl (ofT k t n a b s false).1 (ofT k t n a b s false).2.1 (ofT k t n a b s false).2.2.1 (ofT k t n a b s false).2.2.2.1 (ofT k t n a b s false).2.2.2.2.1 (ofT k t n a b s false).2.2.2.2.2.1 (ofT k t n a b s false).2.2.2.2.2.2.1 (ofT k t n a b s false).2.2.2.2.2.2.2.1 (ofT k t n a b s false).2.2.2.2.2.2.2.2 hl2.1 hl2.2.1 hl2.2.2
        unfold progT
        simp only []
        rw [of_at ok, hS2, Option.bind_some]
        unfold F.baizelaw34_PunishBytes.c5
        rw [if_neg (by decide)]
        exact hlast
      · rw [if_pos (c := chkT k n b s other ≠ 0) hc]
        simp only []
        rw [if_neg (by simpa using hc)]
        exact hlast
  unfold F.baizelaw34_PunishBytes
  rw [known_true, Option.bind_some, if_neg (by decide)]
  by_cases h1 : IntKind.i64.wrap ((b.length : Int) + (s.length : Int)) > 5000
  · rw [if_pos (by simpa using h1)]
    exact hc true (by simp)
  rw [if_neg (by simpa using h1)]
  refine hc _ (fun q => ?_)
  simp only [gt_iff_lt, decide_eq_false_iff_not, Int.not_lt] at q
  omega
end Go.Proofs.Ytlnockimfgfcgaa
