/-
  Plain facts of things' bytes: what is read, by the program and by the document.
-/
import Derived.Test.YtlnockimfgfcgaaPunishCodec
namespace Go.Proofs.Ytlnockimfgfcgaa
open Go.Lab
set_option maxRecDepth 10000

/-! ### Reading, by the program -/

/-- What is wrong in the end. -/
def endX (l : List Int) (e : Int) : Int := if e ≠ 0 then e else if l.length > 0 then 5 else 0
/-- A digest hasn't its bytes. -/
def wrongD (l : List Int) (e : Int) : Bool := decide ((rdB l e 8).2.2 = 0 ∧ (rdB l e 8).1.length ≠ 8)
def digD (l : List Int) (e : Int) : Arr Int 8 := copyA (zA 8) (rdB l e 8).1

/-- A thing, as the document has it, and what is wrong. -/
abbrev Th := Int × (Arr Int 8) × Int × (Arr Int 8) × (List Int) × (List Int) × Int
def badT (e : Int) : Th := (0, zA 8, 0, zA 8, [], [], e)
def tailT (k : Int) (t : Arr Int 8) (n : Int) (a : Arr Int 8) (l : List Int) (e : Int) : Th :=
  if endX (rdB (rdB l e 4096).2.1 (rdB l e 4096).2.2 4096).2.1 (rdB (rdB l e 4096).2.1 (rdB l e 4096).2.2 4096).2.2 ≠ 0 then
    badT (endX (rdB (rdB l e 4096).2.1 (rdB l e 4096).2.2 4096).2.1 (rdB (rdB l e 4096).2.1 (rdB l e 4096).2.2 4096).2.2)
  else (k, t, n, a, (rdB l e 4096).1, (rdB (rdB l e 4096).2.1 (rdB l e 4096).2.2 4096).1, 0)
def midT (k : Int) (t : Arr Int 8) (n : Int) (l : List Int) (e : Int) : Th :=
  if k = 1 then (if wrongD l e = true then badT 3 else tailT k t n (digD l e) (rdB l e 8).2.1 (rdB l e 8).2.2) else tailT k t n (zA 8) l e
def decT (B : List Int) : Th :=
  if wrongD (rd B 0 1).2.1 (rd B 0 1).2.2 = true then badT 3
  else midT (rd B 0 1).1 (digD (rd B 0 1).2.1 (rd B 0 1).2.2) (rd (rdB (rd B 0 1).2.1 (rd B 0 1).2.2 8).2.1 (rdB (rd B 0 1).2.1 (rd B 0 1).2.2 8).2.2 1099511627776).1
    (rd (rdB (rd B 0 1).2.1 (rd B 0 1).2.2 8).2.1 (rdB (rd B 0 1).2.1 (rd B 0 1).2.2 8).2.2 1099511627776).2.1 (rd (rdB (rd B 0 1).2.1 (rd B 0 1).2.2 8).2.1 (rdB (rd B 0 1).2.1 (rd B 0 1).2.2 8).2.2 1099511627776).2.2

/-- It, as the program has it. -/
def progT (q : Th) : Int × (Arr Int 8) × Int × (List Int) × (Arr Int 8) × Int × (Arr Int 8) × (List Int) × (List Int) × Int :=
  ((ofT q.1 q.2.1 q.2.2.1 q.2.2.2.1 q.2.2.2.2.1 q.2.2.2.2.2.1 false).1, (ofT q.1 q.2.1 q.2.2.1 q.2.2.2.1 q.2.2.2.2.1 q.2.2.2.2.2.1 false).2.1, (ofT q.1 q.2.1 q.2.2.1 q.2.2.2.1 q.2.2.2.2.1 q.2.2.2.2.2.1 false).2.2.1, (ofT q.1 q.2.1 q.2.2.1 q.2.2.2.1 q.2.2.2.2.1 q.2.2.2.2.2.1 false).2.2.2.1,
    (ofT q.1 q.2.1 q.2.2.1 q.2.2.2.1 q.2.2.2.2.1 q.2.2.2.2.2.1 false).2.2.2.2.1, (ofT q.1 q.2.1 q.2.2.1 q.2.2.2.1 q.2.2.2.2.1 q.2.2.2.2.2.1 false).2.2.2.2.2.1, (ofT q.1 q.2.1 q.2.2.1 q.2.2.2.1 q.2.2.2.2.1 q.2.2.2.2.2.1 false).2.2.2.2.2.2.1, (ofT q.1 q.2.1 q.2.2.1 q.2.2.2.1 q.2.2.2.2.1 q.2.2.2.2.2.1 false).2.2.2.2.2.2.2.1, (ofT q.1 q.2.1 q.2.2.1 q.2.2.2.1 q.2.2.2.2.1 q.2.2.2.2.2.1 false).2.2.2.2.2.2.2.2, q.2.2.2.2.2.2)

theorem prog_bad (e : Int) : progT (badT e) = (0, zA 8, 0, [], zA 8, 0, zA 8, [], [], e) := by simp [progT, badT, ofT]
theorem prog_0 (t : Arr Int 8) (n : Int) (a : Arr Int 8) (b s : List Int) (e : Int) : progT (0, t, n, a, b, s, e) = (0, t, n, b, zA 8, 0, zA 8, [], s, e) := by simp [progT, ofT]
theorem prog_1 (t : Arr Int 8) (n : Int) (a : Arr Int 8) (b s : List Int) (e : Int) : progT (1, t, n, a, b, s, e) = (1, zA 8, 0, [], t, n, a, b, s, e) := by simp [progT, ofT]

theorem digest_eq34 {l : List Int} (hb : Byts l) (hl : l.length ≤ 140737488355328) (e : Int) : F.punish_reader_digest l e false = some (digD l e, (rdB l e 8).2.1, (rdB l e 8).2.2, wrongD l e) := by
  unfold F.punish_reader_digest F.punish_reader_digest.c1 digD wrongD F.octet_Reader_Err
  rw [if_neg (by decide), Reader_Bytes_eq hb hl e (by decide) (by decide), Option.bind_some]
  generalize rdB l e 8 = q
  obtain ⟨x, y, z⟩ := q
  simp only [Option.bind_some]
  by_cases hz : z = 0
  · rw [if_pos (by simpa using hz)]
    by_cases h8 : x.length = 8
    · have : ((x.length : Int) != 8) = false := by simp [h8]
      simp [hz, h8]
    · have : ((x.length : Int) != 8) = true := by simp; omega
      rw [this]
      simp [hz, h8]
  · rw [if_neg (by simpa using hz)]
    simp [hz]

theorem tail_eq34 {k : Int} (hk : k = 0 ∨ k = 1) (t : Arr Int 8) {n : Int} (hn : 0 ≤ n ∧ n ≤ 1099511627776) {l : List Int} (hb : Byts l) (hl : l.length ≤ 140737488355328) (e : Int) (a : Arr Int 8) :
    F.punish_Decode.c1 k t n l e false a = some (progT (tailT k t n (if k = 1 then a else zA 8) l e)) := by
  obtain ⟨m1, _, h1⟩ := rdB_left l e 4096
  have b1 := (rdB_byts hb e 4096).2
  have l1 : (rdB l e 4096).2.1.length ≤ l.length := by rw [h1, List.length_drop]; omega
  unfold F.punish_Decode.c1 tailT
  rw [if_neg (by decide), Reader_Bytes_eq hb hl e (by decide) (by decide), Option.bind_some]
  generalize rdB l e 4096 = p at b1 l1 ⊢
  obtain ⟨x, y, z⟩ := p
  simp only [] at b1 l1 ⊢
  rw [Reader_Bytes_eq b1 (by omega) z (by decide) (by decide), Option.bind_some]
  generalize rdB y z 4096 = q
  obtain ⟨u, v, w⟩ := q
  simp only []
  have hE : F.octet_Reader_End v w = some (endX v w) := Reader_End_eq v w
  rw [hE, Option.bind_some]
  generalize endX v w = X
  have wn : IntKind.i64.wrap n = n := wrap_id (by omega) (by omega)
  by_cases hx : X = 0
  · rw [if_neg (c := (X != 0) = true) (by simpa using hx), if_neg (c := X ≠ 0) (by simpa using hx)]
    unfold F.punish_Decode.c2
    rcases hk with rfl | rfl
    · rw [wn, if_neg (c := (0 : Int) = 1) (by decide), prog_0]
      rfl
    · rw [wn, if_pos (c := (1 : Int) = 1) rfl, prog_1]
      rfl
  · rw [if_pos (c := (X != 0) = true) (by simpa using hx), if_pos (c := X ≠ 0) (by simpa using hx), prog_bad]

theorem kind_of {k : Int} (h : 0 ≤ k ∧ k ≤ 1) : k = 0 ∨ k = 1 := by omega

theorem mid_eq34 {k : Int} (hk : k = 0 ∨ k = 1) (t : Arr Int 8) {n : Int} (hn : 0 ≤ n ∧ n ≤ 1099511627776) {l : List Int} (hb : Byts l) (hl : l.length ≤ 140737488355328) (e : Int) :
    (if ((IntKind.i64.wrap k) == 1) = true then ((F.punish_reader_digest l e false).bind fun x => F.punish_Decode.c1 k t n x.2.1 x.2.2.1 x.2.2.2 x.1) else F.punish_Decode.c1 k t n l e false (zA 8)) = some (progT (midT k t n l e)) := by
  obtain ⟨m1, _, h1⟩ := rdB_left l e 8
  have b1 := (rdB_byts hb e 8).2
  have l1 : (rdB l e 8).2.1.length ≤ l.length := by rw [h1, List.length_drop]; omega
  unfold midT
  rcases hk with rfl | rfl
  · rw [if_neg (by decide), if_neg (by decide), tail_eq34 (.inl rfl) t hn hb hl]
    rw [if_neg (by decide)]
  · rw [if_pos (by decide), if_pos rfl, digest_eq34 hb hl, Option.bind_some]
    simp only []
    cases wrongD l e with
    | true =>
      rw [if_pos rfl, prog_bad]
      unfold F.punish_Decode.c1
      rw [if_pos rfl]
    | false =>
      rw [if_neg (by decide), tail_eq34 (.inr rfl) t hn b1 (by omega), if_pos rfl]

theorem Clone_eq34 {l : List Int} (h : l.length ≤ 140737488355328) : F.slices_Clone_byte_byte l = some l := by
  unfold F.slices_Clone_byte_byte F.slices_Clone_byte_byte_some
  rw [if_pos (by rw [List.length_nil, Nat.zero_add]; exact h)]
  rfl

theorem Decode_eq34 {B : List Int} (hb : Byts B) (hl : B.length ≤ 140737488355328) : F.punish_Decode B = some (progT (decT B)) := by
  have g1 := rd_num0 hb 0 (most := 1) (by decide)
  have b1 := rd_byts hb 0 1
  have l1 := rd_len B 0 1
  unfold F.punish_Decode F.octet_NewReader decT
  rw [Clone_eq34 hl, Option.bind_some, Option.bind_some]
  simp only []
  rw [Reader_Num_eq hb (by omega), Option.bind_some]
  generalize rd B 0 1 = p at g1 b1 l1 ⊢
  obtain ⟨k, r1, e1⟩ := p
  simp only [] at g1 b1 l1 ⊢
  obtain ⟨m2, _, h2⟩ := rdB_left r1 e1 8
  have b2 := (rdB_byts b1 e1 8).2
  have l2 : (rdB r1 e1 8).2.1.length ≤ r1.length := by rw [h2, List.length_drop]; omega
  rw [digest_eq34 b1 (by omega), Option.bind_some]
  generalize wrongD r1 e1 = q
  generalize digD r1 e1 = t
  generalize rdB r1 e1 8 = p2 at b2 l2 ⊢
  obtain ⟨x2, r2, e2⟩ := p2
  simp only [] at b2 l2 ⊢
  cases q with
  | true => rw [if_pos rfl, if_pos rfl, prog_bad]
  | false =>
    rw [if_neg (by decide), if_neg (by decide)]
    have g3 := rd_num0 b2 e2 (most := 1099511627776) (by decide)
    have b3 := rd_byts b2 e2 1099511627776
    have l3 := rd_len r2 e2 1099511627776
    rw [Reader_Num_eq b2 (by omega), Option.bind_some]
    generalize rd r2 e2 1099511627776 = p3 at g3 b3 l3 ⊢
    obtain ⟨n, r3, e3⟩ := p3
    simp only [] at g3 b3 l3 ⊢
    exact mid_eq34 (kind_of g1) t g3 b3 (by omega) e3

/-! ### Reading, by the document -/

def Far (B l : List Int) (e a : Int) : Prop := ∃ m : Nat, m ≤ B.length ∧ a = (m : Int) ∧ (e = 0 → l = B.drop m)

theorem rd_keep {l : List Int} {e : Int} (he : e ≠ 0) (most : Int) : rd l e most = (0, l, e) := by unfold rd; rw [if_pos he]
theorem rdB_keep {l : List Int} {e : Int} (he : e ≠ 0) (most : Int) : rdB l e most = ([], l, e) := by unfold rdB; rw [if_pos he]

theorem far_drop {B l : List Int} {m j : Nat} (hm : m ≤ B.length) (hl : l = B.drop m) (hj : j ≤ l.length) : (B.length : Int) - ((l.drop j).length : Int) = ((m + j : Nat) : Int) ∧ m + j ≤ B.length ∧ l.drop j = B.drop (m + j) := by
  subst hl
  rw [List.drop_drop, List.length_drop]
  rw [List.length_drop] at hj
  refine ⟨by omega, by omega, rfl⟩

theorem rread_step {B l : List Int} {e a : Int} (hb : Byts B) (hl : B.length ≤ 140737488355328) (h : Far B l e a) (most : Int) :
    ∃ a2 n2, F.baizeref01_Read B a e most = some (B, a2, (rd l e most).2.2, n2) ∧ Far B (rd l e most).2.1 (rd l e most).2.2 a2 ∧ ((rd l e most).2.2 = 0 → n2 = (rd l e most).1) := by
  obtain ⟨m, hm, rfl, hd⟩ := h
  rw [ref_Read_eq hb (by omega) hm]
  by_cases hz : e = 0
  · subst hz
    have hl2 := hd rfl
    rw [← hl2]
    obtain ⟨j, hj, hq⟩ := rd_left l 0 most
    obtain ⟨f1, f2, f3⟩ := far_drop hm hl2 hj
    rw [hq]
    exact ⟨_, _, rfl, ⟨m + j, f2, f1, fun _ => f3⟩, fun _ => rfl⟩
  · rw [rd_keep hz, rd_keep hz]
    refine ⟨_, _, rfl, ⟨m, hm, ?_, fun q => absurd q hz⟩, fun q => absurd q hz⟩
    simp only []
    rw [List.length_drop]; omega

theorem rsome_step {B l : List Int} {e a : Int} (hb : Byts B) (hl : B.length ≤ 140737488355328) (h : Far B l e a) {most : Int} (h0 : 0 ≤ most) (h1 : most ≤ 9223372036854775000) :
    ∃ a2 x2, F.baizeref01_Some B a e most = some (B, a2, (rdB l e most).2.2, x2) ∧ Far B (rdB l e most).2.1 (rdB l e most).2.2 a2 ∧ ((rdB l e most).2.2 = 0 → x2 = (rdB l e most).1) := by
  obtain ⟨m, hm, rfl, hd⟩ := h
  rw [ref_Some_eq hb hl hm _ h0 h1]
  by_cases hz : e = 0
  · subst hz
    have hl2 := hd rfl
    rw [← hl2]
    obtain ⟨j, hj, hq⟩ := rdB_left l 0 most
    obtain ⟨f1, f2, f3⟩ := far_drop hm hl2 hj
    rw [hq]
    exact ⟨_, _, rfl, ⟨m + j, f2, f1, fun _ => f3⟩, fun _ => rfl⟩
  · rw [rdB_keep hz, rdB_keep hz]
    refine ⟨_, _, rfl, ⟨m, hm, ?_, fun q => absurd q hz⟩, fun q => absurd q hz⟩
    simp only []
    rw [List.length_drop]; omega

theorem rend_step {B l : List Int} {e a : Int} (h : Far B l e a) : F.baizeref01_End B a e = some (endX l e) := by
  obtain ⟨m, hm, rfl, hd⟩ := h
  rw [ref_End_eq]
  unfold endX
  by_cases hz : e = 0
  · subst hz
    rw [hd rfl]
    simp only [List.length_drop]
    by_cases hc : m < B.length
    · simp [hc]; omega
    · simp [hc]; omega
  · rw [if_pos hz, if_pos hz]

theorem eight_bad (x : List Int) (B : List Int) (a e : Int) (he : e ≠ 0) : F.baizeref34_eight.c1 x B a e = some (B, a, e, zA 8) := by
  unfold F.baizeref34_eight.c1
  rw [show fuel = 9223372036854775807 + 1 from rfl]
  unfold F.baizeref34_eight.l1 F.baizeref34_eight.c2
  have : (e == 0) = false := by simpa using he
  rw [if_pos (by decide), this]
  rfl

theorem eight_l1 (B : List Int) (a : Int) (k : Nat) (c0 c1 c2 c3 c4 c5 c6 c7 : Int) :
    F.baizeref34_eight.l1 [c0, c1, c2, c3, c4, c5, c6, c7] B a 0 (k + 9) (zA 8) 0 = some (B, a, 0, (⟨[c0, c1, c2, c3, c4, c5, c6, c7], rfl⟩ : Arr Int 8)) := by
  have st : ∀ (j : Nat) (kk : Nat) (d : Arr Int 8), j < 8 →
      F.baizeref34_eight.l1 [c0, c1, c2, c3, c4, c5, c6, c7] B a 0 (kk + 1) d (j : Int) = F.baizeref34_eight.l1 [c0, c1, c2, c3, c4, c5, c6, c7] B a 0 kk (aset d (j : Int) (getI [c0, c1, c2, c3, c4, c5, c6, c7] (j : Int))) ((j + 1 : Nat) : Int) := by
    intro j kk d hj
    have w2 : IntKind.i64.wrap ((j : Int) + 1) = ((j + 1 : Nat) : Int) := by rw [wrap_id (by omega) (by omega)]; omega
    conv => lhs; unfold F.baizeref34_eight.l1 F.baizeref34_eight.c2
    rw [if_pos (by simp; omega), if_pos (by decide), w2, if_pos (by simp; omega), if_pos (by omega)]
  have e0 := st 0 (k + 8) (zA 8) (by omega)
  have e1 := st 1 (k + 7) (aset (zA 8) 0 c0) (by omega)
  have e2 := st 2 (k + 6) (aset (aset (zA 8) 0 c0) 1 c1) (by omega)
  have e3 := st 3 (k + 5) (aset (aset (aset (zA 8) 0 c0) 1 c1) 2 c2) (by omega)
  have e4 := st 4 (k + 4) (aset (aset (aset (aset (zA 8) 0 c0) 1 c1) 2 c2) 3 c3) (by omega)
  have e5 := st 5 (k + 3) (aset (aset (aset (aset (aset (zA 8) 0 c0) 1 c1) 2 c2) 3 c3) 4 c4) (by omega)
  have e6 := st 6 (k + 2) (aset (aset (aset (aset (aset (aset (zA 8) 0 c0) 1 c1) 2 c2) 3 c3) 4 c4) 5 c5) (by omega)
  have e7 := st 7 (k + 1) (aset (aset (aset (aset (aset (aset (aset (zA 8) 0 c0) 1 c1) 2 c2) 3 c3) 4 c4) 5 c5) 6 c6) (by omega)
  have ed : aset (aset (aset (aset (aset (aset (aset (aset (zA 8) 0 c0) 1 c1) 2 c2) 3 c3) 4 c4) 5 c5) 6 c6) 7 c7 = (⟨[c0, c1, c2, c3, c4, c5, c6, c7], rfl⟩ : Arr Int 8) := Subtype.ext rfl
  refine e0.trans (e1.trans (e2.trans (e3.trans (e4.trans (e5.trans (e6.trans (e7.trans ?_)))))))
  show F.baizeref34_eight.l1 [c0, c1, c2, c3, c4, c5, c6, c7] B a 0 (k + 1) (aset (aset (aset (aset (aset (aset (aset (aset (zA 8) 0 c0) 1 c1) 2 c2) 3 c3) 4 c4) 5 c5) 6 c6) 7 c7) 8 = _
  rw [ed]
  unfold F.baizeref34_eight.l1 F.baizeref34_eight.c2
  rw [if_neg (by decide), if_neg (by decide)]

theorem copy8 (d : Arr Int 8) : copyA (zA 8) d.1 = d := by
  apply Subtype.ext
  have h := d.2
  simp only [copyA]
  rw [List.take_of_length_le (by omega), List.drop_eq_nil_of_le (by simp [zA, h]), List.append_nil]

/-- The error behind a digest. -/
def errD (l : List Int) (e : Int) : Int := if wrongD l e = true then 3 else (rdB l e 8).2.2

theorem reight_step {B l : List Int} {e a : Int} (hb : Byts B) (hl : B.length ≤ 140737488355328) (h : Far B l e a) :
    ∃ a2 d2, F.baizeref34_eight B a e = some (B, a2, errD l e, d2) ∧ Far B (rdB l e 8).2.1 (errD l e) a2 ∧ (errD l e = 0 → d2 = digD l e) := by
  obtain ⟨a2, x2, h1, h2, h3⟩ := rsome_step hb hl h (most := 8) (by decide) (by decide)
  unfold F.baizeref34_eight F.baizeref34_eight.c3 errD digD wrongD
  rw [h1, Option.bind_some]
  generalize rdB l e 8 = p at h2 h3 ⊢
  obtain ⟨x, y, z⟩ := p
  simp only [] at h2 h3 ⊢
  by_cases hz : z = 0
  · subst hz
    have hx := h3 rfl
    subst hx
    rw [if_pos (by decide)]
    by_cases h8 : x2.length = 8
    · rw [if_neg (by simp [h8]), if_neg (by simp [h8])]
      unfold F.baizeref34_eight.c1
      match x2, h8 with
      | [c0, c1, c2, c3, c4, c5, c6, c7], _ =>
        rw [show fuel = 9223372036854775799 + 9 from rfl, eight_l1]
        exact ⟨_, _, rfl, h2, fun _ => (copy8 ⟨[c0, c1, c2, c3, c4, c5, c6, c7], rfl⟩).symm⟩
    · rw [if_pos (by simp; omega), if_pos (by simp [h8])]
      unfold F.baizeref01_Fail
      rw [Option.bind_some]
      simp only []
      rw [eight_bad x2 B a2 3 (by decide)]
      obtain ⟨m, hm, ha, _⟩ := h2
      exact ⟨_, _, rfl, ⟨m, hm, ha, fun q => absurd q (by decide)⟩, fun q => absurd q (by decide)⟩
  · rw [if_neg (by simpa using hz), if_neg (by decide), eight_bad _ _ _ _ hz, if_neg (by simp [hz])]
    exact ⟨_, _, rfl, h2, fun q => absurd q hz⟩

def refT (q : Th) : Int × (Arr Int 8) × Int × (Arr Int 8) × (List Int) × (List Int) × Bool × Int := (q.1, q.2.1, q.2.2.1, q.2.2.2.1, q.2.2.2.2.1, q.2.2.2.2.2.1, false, q.2.2.2.2.2.2)

theorem tail_bad (k : Int) (t : Arr Int 8) (n : Int) (a : Arr Int 8) (l : List Int) {e : Int} (he : e ≠ 0) : tailT k t n a l e = badT e := by
  unfold tailT
  rw [rdB_keep he]
  simp only []
  rw [rdB_keep he]
  unfold endX
  simp only []
  rw [if_pos he, if_pos he]

theorem rtail {k2 k n2 n : Int} {t2 t a2 a : Arr Int 8} {B l : List Int} {e at0 : Int} (hb : Byts B) (hl : B.length ≤ 140737488355328) (h : Far B l e at0) (hok : e = 0 → IntKind.i64.wrap k2 = k ∧ t2 = t ∧ IntKind.i64.wrap n2 = n ∧ a2 = a) :
    F.baizeref34_Decode.c1 k2 t2 n2 B at0 e a2 = some (refT (tailT k t n a l e)) := by
  obtain ⟨p1, x1, h1, f1, v1⟩ := rsome_step hb hl h (most := 4096) (by decide) (by decide)
  obtain ⟨p2, x2, h2, f2, v2⟩ := rsome_step hb hl f1 (most := 4096) (by decide) (by decide)
  have h3 := rend_step f2
  unfold F.baizeref34_Decode.c1
  rw [h1, Option.bind_some]
  simp only []
  rw [h2, Option.bind_some]
  simp only []
  rw [h3, Option.bind_some]
  by_cases he : e = 0
  · obtain ⟨o1, o2, o3, o4⟩ := hok he
    unfold tailT
    generalize hp : rdB l e 4096 = p at v1 f2 v2 ⊢
    obtain ⟨x, y, z⟩ := p
    simp only [] at v1 f2 v2 ⊢
    generalize hq : rdB y z 4096 = q at v2 ⊢
    obtain ⟨u, v, w⟩ := q
    simp only [] at v2 ⊢
    by_cases hx : endX v w = 0
    · rw [if_neg (by simpa using hx), if_neg (by simpa using hx)]
      have hw : w = 0 := by
        unfold endX at hx
        apply Classical.byContradiction
        intro hn
        rw [if_pos hn] at hx
        exact hn hx
      have hz : z = 0 := rdB_bad (l := y) (e := z) (most := 4096) (by rw [hq]; exact hw)
      rw [v1 hz, v2 hw, o1, o2, o3, o4]
      rfl
    · rw [if_pos (by simpa using hx), if_pos (by simpa using hx)]
      rfl
  · have hk1 : rdB l e 4096 = ([], l, e) := rdB_keep he 4096
    rw [tail_bad _ _ _ _ _ he, hk1]
    simp only []
    rw [rdB_keep he]
    have hx : endX l e = e := by unfold endX; rw [if_pos he]
    simp only []
    rw [hx, if_pos (by simpa using he)]
    rfl

theorem errD_keep {l : List Int} {e : Int} (he : e ≠ 0) : errD l e = e := by
  unfold errD wrongD
  rw [rdB_keep he]
  simp [he]

theorem rmid {k2 n2 n : Int} {k : Int} {t2 t : Arr Int 8} {B l : List Int} {e at0 : Int} (hb : Byts B) (hl : B.length ≤ 140737488355328) (h : Far B l e at0) (hok : e = 0 → k2 = k ∧ IntKind.i64.wrap k2 = k ∧ t2 = t ∧ IntKind.i64.wrap n2 = n) :
    (if (k2 == 1) = true then ((F.baizeref34_eight B at0 e).bind fun x => F.baizeref34_Decode.c1 k2 t2 n2 x.1 x.2.1 x.2.2.1 x.2.2.2) else F.baizeref34_Decode.c1 k2 t2 n2 B at0 e (zA 8)) = some (refT (if e ≠ 0 then badT e else midT k t n l e)) := by
  by_cases he : e = 0
  · subst he
    obtain ⟨o1, o2, o3, o4⟩ := hok rfl
    subst o1
    rw [if_neg (c := (0 : Int) ≠ 0) (by decide)]
    unfold midT
    by_cases h1 : k2 = 1
    · subst h1
      rw [if_pos (c := ((1 : Int) == 1) = true) (by decide), if_pos (c := (1 : Int) = 1) rfl]
      obtain ⟨a2, d2, g1, g2, g3⟩ := reight_step hb hl h
      rw [g1, Option.bind_some]
      simp only []
      rw [rtail (a := digD l 0) hb hl g2 (fun q => ⟨o2, o3, o4, g3 q⟩)]
      by_cases hw : wrongD l 0 = true
      · have hE : errD l 0 = 3 := by unfold errD; rw [if_pos hw]
        rw [if_pos hw, hE, tail_bad _ _ _ _ _ (by decide)]
      · have hE : errD l 0 = (rdB l 0 8).2.2 := by unfold errD; rw [if_neg hw]
        rw [if_neg hw, hE]
    · rw [if_neg (c := (k2 == 1) = true) (by simpa using h1), if_neg (c := k2 = 1) h1, rtail (a := zA 8) hb hl h (fun _ => ⟨o2, o3, o4, rfl⟩)]
  · rw [if_pos (c := e ≠ 0) he]
    by_cases h1 : k2 = 1
    · rw [if_pos (c := (k2 == 1) = true) (by simpa using h1)]
      obtain ⟨a2, d2, g1, g2, g3⟩ := reight_step hb hl h
      rw [g1, Option.bind_some]
      simp only []
      have hE := errD_keep (l := l) he
      rw [hE] at g2 ⊢
      rw [rtail (k := 0) (n := 0) (t := zA 8) (a := zA 8) hb hl g2 (fun q => absurd q he), tail_bad _ _ _ _ _ he]
    · rw [if_neg (c := (k2 == 1) = true) (by simpa using h1), rtail (k := 0) (n := 0) (t := zA 8) (a := zA 8) hb hl h (fun q => absurd q he), tail_bad _ _ _ _ _ he]

theorem mid_bad {k : Int} (t : Arr Int 8) (n : Int) (l : List Int) {e : Int} (he : e ≠ 0) : midT k t n l e = badT e := by
  have hw : wrongD l e = false := by
    unfold wrongD
    rw [rdB_keep he]
    simp [he]
  unfold midT
  rw [hw, rdB_keep he, tail_bad _ _ _ _ _ he, tail_bad _ _ _ _ _ he]
  simp

theorem RefDecode_eq34 {B : List Int} (hb : Byts B) (hl : B.length ≤ 140737488355328) : F.baizeref34_Decode B = some (refT (decT B)) := by
  have g1 := rd_num0 hb 0 (most := 1) (by decide)
  obtain ⟨a1, k2, h1, f1, v1⟩ := rread_step hb hl (l := B) (e := 0) (a := 0) ⟨0, Nat.zero_le _, rfl, fun _ => rfl⟩ 1
  unfold F.baizeref34_Decode decT
  rw [h1, Option.bind_some]
  have b1 := rd_byts hb 0 1
  generalize rd B 0 1 = p at g1 v1 f1 b1 ⊢
  obtain ⟨k, r1, e1⟩ := p
  simp only [] at g1 v1 f1 b1 ⊢
  obtain ⟨a2, t2, h2, f2, v2⟩ := reight_step hb hl f1
  rw [h2, Option.bind_some]
  simp only []
  obtain ⟨a3, n2, h3, f3, v3⟩ := rread_step hb hl f2 1099511627776
  rw [h3, Option.bind_some]
  simp only []
  have b2 := (rdB_byts b1 e1 8).2
  have hE : errD r1 e1 = if wrongD r1 e1 = true then 3 else (rdB r1 e1 8).2.2 := rfl
  by_cases hw : wrongD r1 e1 = true
  · rw [if_pos hw] at hE
    rw [hE] at f3 v3 ⊢
    rw [rd_keep (by decide)] at f3 v3 ⊢
    simp only [] at f3 v3 ⊢
    have := rmid (k2 := k2) (t2 := t2) (n2 := n2) (k := 0) (t := zA 8) (n := 0) hb hl f3 (fun q => absurd q (by decide))
    rw [if_pos (c := (3 : Int) ≠ 0) (by decide)] at this
    rw [if_pos hw]
    exact this
  · rw [if_neg hw] at hE
    rw [if_neg hw]
    rw [hE] at f3 v3 v2 ⊢
    have g3 := rd_num0 b2 (rdB r1 e1 8).2.2 (most := 1099511627776) (by decide)
    generalize hp2 : rdB r1 e1 8 = p2 at f3 v3 v2 g3 b2 ⊢
    obtain ⟨x2, r2, e2⟩ := p2
    simp only [] at f3 v3 v2 g3 b2 ⊢
    generalize hp3 : rd r2 e2 1099511627776 = p3 at f3 v3 g3 ⊢
    obtain ⟨n, r3, e3⟩ := p3
    simp only [] at f3 v3 g3 ⊢
    have key := rmid (k2 := k2) (t2 := t2) (n2 := n2) (k := k) (t := digD r1 e1) (n := n) hb hl f3 (fun q => by
      have e20 : e2 = 0 := rd_bad (l := r2) (e := e2) (most := 1099511627776) (by rw [hp3]; exact q)
      have e10 : e1 = 0 := rdB_bad (l := r1) (e := e1) (most := 8) (by rw [hp2]; exact e20)
      have hk := v1 e10
      subst hk
      rw [v3 q]
      exact ⟨rfl, wrap_id (by omega) (by omega), v2 e20, wrap_id (by omega) (by omega)⟩)
    by_cases he3 : e3 = 0
    · rw [if_neg (c := e3 ≠ 0) (by simpa using he3)] at key
      exact key
    · rw [if_pos (c := e3 ≠ 0) he3] at key
      rw [mid_bad _ _ _ he3]
      exact key
end Go.Proofs.Ytlnockimfgfcgaa
