/-
  Plain facts of purses' bytes: what the program tells of a purse, and what it reads.
-/
import Derived.Test.YticlfbpmfejdoaaPursePure
import Derived.Test.YticlfbpmfejdoaaHashP
namespace Go.Proofs.Yticlfbpmfejdoaa
open Go.Lab
set_option maxRecDepth 10000

/-! ### Bytes -/

def putL : List Int → List Int
  | [] => []
  | x :: r => encN x ++ putL r
theorem putL_len : ∀ l : List Int, (putL l).length ≤ 10 * l.length
  | [] => by simp [putL]
  | x :: r => by
    have := putL_len r
    have := encN_len x
    simp only [putL, List.length_append, List.length_cons]; omega

theorem pput_l1 (l : List Int) (hu : ∀ x ∈ l, 0 ≤ x ∧ x < 18446744073709551616) (hn : l.length ≤ 100) : ∀ (k i : Nat) (b : List Int), i ≤ l.length → l.length - i < k → b.length + 10 * (l.length - i) ≤ 140737488340000 →
    F.purse_put.l1 l k b (i : Int) = some (b ++ putL (l.drop i))
  | k + 1, i, b, hi, hk, hb => by
    unfold F.purse_put.l1
    by_cases h : i < l.length
    · have h1 := getI_drop (l := l) (i := (i : Int)) (by omega) (by omega)
      have hm := getI_mem (l := l) (i := (i : Int)) (by omega) (by omega)
      rw [show ((i : Int)).toNat = i by omega, show ((i : Int) + 1).toNat = i + 1 by omega] at h1
      have hw : IntKind.i64.wrap ((i : Int) + 1) = ((i + 1 : Nat) : Int) := by rw [wrap_id (by omega) (by omega)]; omega
      rw [if_pos (by simpa using h), if_pos (by omega), h1, hw]
      generalize getI l (i : Int) = x at hm ⊢
      have hx := hu x hm
      have w : IntKind.u64.wrap x = x := by rw [wrap_u64]; omega
      have := encN_len x
      rw [w, PutNum_eq (by omega) hx.1 hx.2, Option.bind_some, pput_l1 l hu hn k (i + 1) _ (by omega) (by omega) (by rw [List.length_append]; omega)]
      simp only [putL, List.append_assoc]
    · rw [if_neg (by simpa using h), List.drop_eq_nil_of_le (by omega)]; simp [putL]

theorem pput_eq {l b : List Int} (hu : ∀ x ∈ l, 0 ≤ x ∧ x < 18446744073709551616) (hn : l.length ≤ 100) (hb : b.length ≤ 140737488330000) : F.purse_put b l = some (b ++ putL l) := by
  have := pput_l1 l hu hn fuel 0 b (by omega) (by rw [fuel_eq]; omega) (by omega)
  unfold F.purse_put
  simpa using this

def heldB (h : S_purse_Held) : List Int := encN 8 ++ (h.f1.1 ++ (encN h.f2 ++ (encN h.f3 ++ encN h.f4)))
def heldsB : List S_purse_Held → List Int
  | [] => []
  | h :: r => heldB h ++ heldsB r
/-- All bytes of a purse. -/
def allP (d1 : Arr Int 8) (x1 : Int) (d2 : Arr Int 2) (l : List S_purse_Held) : List Int :=
  encN 8 ++ (d1.1 ++ (encN x1 ++ (encN (aget d2 0) ++ (encN (aget d2 1) ++ (encN (l.length : Int) ++ heldsB l)))))

theorem heldB_len (h : S_purse_Held) : (heldB h).length ≤ 48 := by
  have h1 := encN_len 8
  have h2 := encN_len h.f2
  have h3 := encN_len h.f3
  have h4 := encN_len h.f4
  have h5 := h.f1.2
  simp only [heldB, List.length_append]; omega
theorem heldsB_len : ∀ l : List S_purse_Held, (heldsB l).length ≤ 48 * l.length
  | [] => by simp [heldsB]
  | h :: r => by
    have := heldsB_len r
    have := heldB_len h
    simp only [heldsB, List.length_append, List.length_cons]; omega
theorem allP_len (d1 : Arr Int 8) (x1 : Int) (d2 : Arr Int 2) (l : List S_purse_Held) : (allP d1 x1 d2 l).length ≤ 100 + 48 * l.length := by
  have h1 := encN_len 8
  have h2 := encN_len x1
  have h3 := encN_len (aget d2 0)
  have h4 := encN_len (aget d2 1)
  have h6 := encN_len (l.length : Int)
  have h5 := d1.2
  have := heldsB_len l
  simp only [allP, List.length_append]; omega

theorem heldB_byts {h : S_purse_Held} (hb : Byts h.f1.1) : Byts (heldB h) :=
  (encN_byts _).append (hb.append ((encN_byts _).append ((encN_byts _).append (encN_byts _))))
theorem heldsB_byts : ∀ {l : List S_purse_Held}, (∀ h ∈ l, Byts h.f1.1) → Byts (heldsB l)
  | [], _ => fun y hy => absurd hy (by simp [heldsB])
  | h :: r, hb => (heldB_byts (hb h (by simp))).append (heldsB_byts fun x hx => hb x (by simp [hx]))
theorem allP_byts {d1 : Arr Int 8} (x1 : Int) (d2 : Arr Int 2) {l : List S_purse_Held} (h1 : Byts d1.1) (hb : ∀ h ∈ l, Byts h.f1.1) : Byts (allP d1 x1 d2 l) :=
  (encN_byts _).append (h1.append ((encN_byts _).append ((encN_byts _).append ((encN_byts _).append ((encN_byts _).append (heldsB_byts hb))))))

theorem PutName_eq {l : List Int} (d : Arr Int 8) (hl : l.length ≤ 140737488340000) : F.octet_PutBytes l d.1 = some (l ++ (encN 8 ++ d.1)) := by
  have h8 : ((d.1.length : Nat) : Int) = 8 := by rw [d.2]; rfl
  rw [PutBytes_eq (by rw [d.2]; omega), h8]

theorem pbytes_l1 (l : List S_purse_Held) (hok : ∀ x ∈ l, hOk x) (hl : l.length ≤ 40) : ∀ (k i : Nat) (b : List Int), i ≤ l.length → l.length - i < k → b.length + 48 * (l.length - i) ≤ 140737488320000 →
    F.purse_Purse_bytes.l1 l k b (i : Int) = some (b ++ heldsB (l.drop i))
  | k + 1, i, b, hi, hk, hb => by
    unfold F.purse_Purse_bytes.l1
    by_cases h : i < l.length
    · have h1 := getI_drop (l := l) (i := (i : Int)) (by omega) (by omega)
      have hm := getI_mem (l := l) (i := (i : Int)) (by omega) (by omega)
      rw [show ((i : Int)).toNat = i by omega, show ((i : Int) + 1).toNat = i + 1 by omega] at h1
      have hw : IntKind.i64.wrap ((i : Int) + 1) = ((i + 1 : Nat) : Int) := by rw [wrap_id (by omega) (by omega)]; omega
      rw [if_pos (by simpa using h), if_pos (by omega), h1, hw]
      generalize getI l (i : Int) = x at hm ⊢
      have hx := hok x hm
      unfold hOk at hx
      have h48 := heldB_len x
      have hu : ∀ y ∈ [x.f2, x.f3, x.f4], 0 ≤ y ∧ y < 18446744073709551616 := by
        intro y hy; simp at hy; omega
      have e8 := encN_len 8
      have d8 := x.f1.2
      rw [PutName_eq _ (by omega), Option.bind_some, pput_eq hu (by simp) (by simp only [List.length_append]; omega), Option.bind_some]
      have he : (b ++ (encN 8 ++ x.f1.1)) ++ putL [x.f2, x.f3, x.f4] = b ++ heldB x := by simp [heldB, putL]
      rw [he, pbytes_l1 l hok hl k (i + 1) _ (by omega) (by omega) (by rw [List.length_append]; omega)]
      simp only [heldsB, List.append_assoc]
    · rw [if_neg (by simpa using h), List.drop_eq_nil_of_le (by omega)]; simp [heldsB]

theorem pbytes_eq (d1 : Arr Int 8) {x1 : Int} {d2 : Arr Int 2} {l : List S_purse_Held} (h : chk x1 d2 l = 0) : F.purse_Purse_bytes d1 x1 d2 l = some (allP d1 x1 d2 l) := by
  obtain ⟨h0, h1, h2, h16, hok, _, _, _⟩ := chk_ok h
  unfold Right at h1 h2
  have hu : ∀ y ∈ [x1, aget d2 0, aget d2 1, (l.length : Int)], 0 ≤ y ∧ y < 18446744073709551616 := by
    intro y hy; simp at hy; omega
  have e8 := encN_len 8
  have d8 := d1.2
  unfold F.purse_Purse_bytes
  rw [PutName_eq _ (by simp), Option.bind_some, pput_eq hu (by simp) (by simp only [List.length_append, List.length_nil]; omega), Option.bind_some]
  have hp := putL_len [x1, aget d2 0, aget d2 1, (l.length : Int)]
  have := pbytes_l1 l hok (by omega) fuel 0 ([] ++ (encN 8 ++ d1.1) ++ putL [x1, aget d2 0, aget d2 1, (l.length : Int)]) (by omega) (by rw [fuel_eq]; omega) (by
    simp only [List.length_append, List.length_nil, List.length_cons] at hp ⊢; omega)
  rw [show (((0 : Nat)) : Int) = 0 from rfl] at this
  rw [this]
  simp [allP, putL]

theorem pEncode_eq (d1 : Arr Int 8) (x1 : Int) (d2 : Arr Int 2) {l : List S_purse_Held} (hl : l.length ≤ 40) :
    F.purse_Purse_Encode d1 x1 d2 l = some (if chk x1 d2 l ≠ 0 then ([], chk x1 d2 l) else (allP d1 x1 d2 l, 0)) := by
  unfold F.purse_Purse_Encode
  rw [Check_eq d1 x1 d2 hl, Option.bind_some]
  by_cases h : chk x1 d2 l = 0
  · rw [if_neg (by simpa using h), pbytes_eq d1 h, if_neg (by simpa using h)]; rfl
  · rw [if_pos (by simpa using h), if_pos h]

/-- The bytes of the word, with their number. -/
def wordB : List Int := encN 5 ++ [112, 117, 114, 115, 101]
theorem wordB_byts : Byts wordB := (encN_byts _).append (by unfold Byts; simp)
theorem wordB_len : wordB.length ≤ 15 := by
  have := encN_len 5
  simp only [wordB, List.length_append, List.length_cons, List.length_nil]; omega

theorem pDigest_eq {d1 : Arr Int 8} (x1 : Int) (d2 : Arr Int 2) {l : List S_purse_Held} (hl : l.length ≤ 40) (h1 : Byts d1.1) (hb : ∀ h ∈ l, Byts h.f1.1) :
    F.purse_Purse_Digest d1 x1 d2 l = some (if chk x1 d2 l ≠ 0 then zA 8 else hOf (wordB ++ allP d1 x1 d2 l)) := by
  unfold F.purse_Purse_Digest
  rw [Check_eq d1 x1 d2 hl, Option.bind_some]
  by_cases h : chk x1 d2 l = 0
  · have ht : ∀ s, strBytes s = [112, 117, 114, 115, 101] → F.octet_PutText [] s = some wordB := by
      intro s hs
      unfold F.octet_PutText
      rw [hs, PutBytes_eq (by simp)]; rfl
    have hw := wordB_len
    have ha := allP_len d1 x1 d2 l
    rw [if_neg (by simpa using h), if_neg (by simpa using h), ht, Option.bind_some, pbytes_eq d1 h, Option.bind_some, if_pos (by omega),
      Of_eq (wordB_byts.append (allP_byts x1 d2 h1 hb)) (by rw [List.length_append]; omega)]
    · rfl
    · kernel_rfl
  · rw [if_pos (by simpa using h), if_pos h]

/-! ### What is read -/

def mkP (a b : Int) : Arr Int 2 := ⟨[a, b], rfl⟩
theorem mkP_arr (d : Arr Int 2) : mkP (aget d 0) (aget d 1) = d := by
  obtain ⟨d, hd⟩ := d
  match d, hd with
  | [a, b], _ => rfl

/-- A name is read. -/
def rdN (l : List Int) (e r : Int) : Arr Int 8 × List Int × Int × Int :=
  (copyA (zA 8) (rdB l e 8).1, (rdB l e 8).2.1, (rdB l e 8).2.2, if r = 0 ∧ (rdB l e 8).2.2 = 0 ∧ (rdB l e 8).1.length ≠ 8 then 3 else r)

theorem rdN_fact {l : List Int} (hb : Byts l) (e r : Int) : Byts (rdN l e r).2.1 ∧ (rdN l e r).2.1.length ≤ l.length := by
  obtain ⟨m, _, h⟩ := rdB_left l e 8
  unfold rdN
  simp only [h]
  exact ⟨hb.drop m, by rw [List.length_drop]; omega⟩

theorem name_eq {l : List Int} (hb : Byts l) (hl : l.length ≤ 140737488355328) (e r : Int) : F.purse_reader_name l e r = some (rdN l e r) := by
  unfold F.purse_reader_name rdN
  rw [Reader_Bytes_eq hb hl e (by decide) (by decide), Option.bind_some]
  generalize rdB l e 8 = q
  obtain ⟨x, y, z⟩ := q
  unfold F.octet_Reader_Err F.purse_reader_name.c2 F.purse_reader_name.c1
  simp only [Option.bind_some]
  by_cases hr : r = 0
  · by_cases hz : z = 0
    · by_cases h8 : x.length = 8
      · have : ¬ (((x.length : Int) != 8) = true) := by simp [h8]
        simp [hr, hz, h8]
      · have : ((x.length : Int) != 8) = true := by simp; omega
        rw [if_pos (by simpa using hr), if_pos (by simpa using hz), if_pos this, if_pos ⟨hr, hz, h8⟩]
    · simp [hr, hz]
  · simp [hr]

theorem pnumber_eq {l : List Int} (hb : Byts l) (hl : l.length ≤ 140737488355328) (e r : Int) {most : Int} (h0 : 0 ≤ most) (h1 : most ≤ 9223372036854775000) : F.purse_reader_number l e r most = some (rd l e most) := by
  have g := rd_num0 hb e h0
  have w : IntKind.u64.wrap most = most := by rw [wrap_u64]; omega
  unfold F.purse_reader_number
  rw [w, Reader_Num_eq hb (by omega), Option.bind_some]
  generalize rd l e most = q at g ⊢
  obtain ⟨x, y, z⟩ := q
  simp only [] at g ⊢
  rw [wrap_id (by omega) (by omega)]

/-- One held amount is read. -/
def rdH (l : List Int) (e r : Int) : S_purse_Held × List Int × Int × Int :=
  let q := rdN l e r
  let a := rd q.2.1 q.2.2.1 1125899906842624
  let b := rd a.2.1 a.2.2 1
  let c := rd b.2.1 b.2.2 1099511627776
  (⟨q.1, a.1, b.1, c.1⟩, c.2.1, c.2.2, q.2.2.2)

theorem rdH_fact {l : List Int} (hb : Byts l) (e r : Int) : Byts (rdH l e r).2.1 ∧ (rdH l e r).2.1.length ≤ l.length := by
  unfold rdH
  simp only []
  have q := rdN_fact hb e r
  have a := rd_byts q.1 (rdN l e r).2.2.1 1125899906842624
  have a' := rd_len (rdN l e r).2.1 (rdN l e r).2.2.1 1125899906842624
  generalize rd (rdN l e r).2.1 (rdN l e r).2.2.1 1125899906842624 = x at a a' ⊢
  have b := rd_byts a x.2.2 1
  have b' := rd_len x.2.1 x.2.2 1
  generalize rd x.2.1 x.2.2 1 = y at b b' ⊢
  have c := rd_byts b y.2.2 1099511627776
  have c' := rd_len y.2.1 y.2.2 1099511627776
  exact ⟨c, by omega⟩

/-- So many are read. -/
def decH : Nat → List Int → Int → Int → List S_purse_Held × List Int × Int × Int
  | 0, l, e, r => ([], l, e, r)
  | n + 1, l, e, r =>
    ((rdH l e r).1 :: (decH n (rdH l e r).2.1 (rdH l e r).2.2.1 (rdH l e r).2.2.2).1, (decH n (rdH l e r).2.1 (rdH l e r).2.2.1 (rdH l e r).2.2.2).2)

/-- What is wrong in the end. -/
def endE (l : List Int) (e r : Int) : Int := if r ≠ 0 then r else if e ≠ 0 then e else if l.length > 0 then 5 else 0

/-- What comes of what was read. -/
def finP (d1 : Arr Int 8) (x u v : Int) (hs : List S_purse_Held) (z : Int) : Arr Int 8 × Int × Arr Int 2 × List S_purse_Held × Int :=
  if (if z = 0 then chk x (mkP u v) hs else z) ≠ 0 then (zA 8, 0, zA 2, [], if z = 0 then chk x (mkP u v) hs else z) else (d1, x, mkP u v, hs, 0)

theorem pend_eq (l : List Int) (e r : Int) : F.purse_reader_end l e r = some (endE l e r) := by
  unfold F.purse_reader_end endE
  rw [Reader_End_eq, Option.bind_some]
  by_cases h : r = 0 <;> simp [h]

theorem pdecode_0 (d1 : Arr Int 8) (x u v N : Int) (k : Nat) (i : Int) (l : List Int) (e r : Int) (acc : List S_purse_Held) (hi : ¬ i < N) (ha : acc.length ≤ 40) :
    F.purse_Decode.l1 d1 x u v N (k + 1) l e r acc i = some (finP d1 x u v acc (endE l e r)) := by
  unfold F.purse_Decode.l1
  rw [if_neg (by simpa using hi), pend_eq, Option.bind_some]
  unfold F.purse_Decode.c1 finP
  generalize endE l e r = z
  by_cases hz : z = 0
  · rw [if_pos (by simpa using hz), if_pos hz]
    show ((F.purse_Purse_Check d1 x (mkP u v) acc).bind _) = _
    rw [Check_eq _ _ _ ha, Option.bind_some]
    generalize chk x (mkP u v) acc = c
    by_cases hc : c = 0
    · rw [if_neg (by simpa using hc), if_neg (by simpa using hc)]; rfl
    · rw [if_pos (by simpa using hc), if_pos hc]
  · rw [if_neg (by simpa using hz), if_pos (by simpa using hz), if_neg hz, if_pos hz]

theorem pdecode_s (d1 : Arr Int 8) (x u v N : Int) (k : Nat) (i : Int) (l : List Int) (e r : Int) (acc : List S_purse_Held) (hi : i < N) (ha : acc.length ≤ 40) (hb : Byts l) (hl : l.length ≤ 140737488355328) :
    F.purse_Decode.l1 d1 x u v N (k + 1) l e r acc i = F.purse_Decode.l1 d1 x u v N k (rdH l e r).2.1 (rdH l e r).2.2.1 (rdH l e r).2.2.2 (acc ++ [(rdH l e r).1]) (IntKind.i64.wrap (i + 1)) := by
  have q := rdN_fact hb e r
  generalize hp : rdN l e r = p at q
  obtain ⟨p1, p2, p3, p4⟩ := p
  simp only [] at q
  have a := rd_byts q.1 p3 1125899906842624
  have a' := rd_len p2 p3 1125899906842624
  generalize hy : rd p2 p3 1125899906842624 = y at a a'
  obtain ⟨y1, y2, y3⟩ := y
  simp only [] at a a'
  have b := rd_byts a y3 1
  have b' := rd_len y2 y3 1
  generalize hz : rd y2 y3 1 = z at b b'
  obtain ⟨z1, z2, z3⟩ := z
  simp only [] at b b'
  generalize hw : rd z2 z3 1099511627776 = w
  obtain ⟨w1, w2, w3⟩ := w
  have hH : rdH l e r = (⟨p1, y1, z1, w1⟩, w2, w3, p4) := by
    unfold rdH
    simp only [hp, hy, hz, hw]
  rw [hH]
  have n0 : F.purse_reader_name l e r = some (p1, p2, p3, p4) := (name_eq hb hl e r).trans (congrArg some hp)
  have n1 : F.purse_reader_number p2 p3 p4 1125899906842624 = some (y1, y2, y3) := (pnumber_eq q.1 (by omega) p3 p4 (by decide) (by decide)).trans (congrArg some hy)
  have n2 : F.purse_reader_number y2 y3 p4 1 = some (z1, z2, z3) := (pnumber_eq a (by omega) y3 p4 (by decide) (by decide)).trans (congrArg some hz)
  have n3 : F.purse_reader_number z2 z3 p4 1099511627776 = some (w1, w2, w3) := (pnumber_eq b (by omega) z3 p4 (by decide) (by decide)).trans (congrArg some hw)
  conv => lhs; unfold F.purse_Decode.l1
  rw [if_pos (by simpa using hi), n0]
  simp only [Option.bind_some, n1, n2, n3]
  rw [if_pos (by rw [List.length_cons, List.length_nil]; omega)]

theorem pdecode_l1 (d1 : Arr Int 8) (x u v N : Int) (hN : N ≤ 16) : ∀ (n k i : Nat) (l : List Int) (e r : Int) (acc : List S_purse_Held), N = (i : Int) + (n : Int) → n < k → acc.length = i → Byts l → l.length ≤ 140737488355328 →
    F.purse_Decode.l1 d1 x u v N k l e r acc (i : Int) = some (finP d1 x u v (acc ++ (decH n l e r).1) (endE (decH n l e r).2.1 (decH n l e r).2.2.1 (decH n l e r).2.2.2)) := by
  intro n
  induction n with
  | zero =>
    intro k i l e r acc hi hk ha hb hl
    obtain ⟨k, rfl⟩ : ∃ j, k = j + 1 := ⟨k - 1, by omega⟩
    rw [pdecode_0 d1 x u v N k i l e r acc (by omega) (by omega)]
    simp only [decH, List.append_nil]
  | succ n ih =>
    intro k i l e r acc hi hk ha hb hl
    obtain ⟨k, rfl⟩ : ∃ j, k = j + 1 := ⟨k - 1, by omega⟩
    have f := rdH_fact hb e r
    have hw : IntKind.i64.wrap ((i : Int) + 1) = ((i + 1 : Nat) : Int) := by rw [wrap_id (by omega) (by omega)]; omega
    rw [pdecode_s d1 x u v N k i l e r acc (by omega) (by omega) hb hl, hw]
    generalize hp : rdH l e r = p at f
    obtain ⟨p1, p2, p3, p4⟩ := p
    simp only [] at f ⊢
    rw [ih k (i + 1) p2 p3 p4 (acc ++ [p1]) (by omega) (by omega) (by simp [ha]) f.1 (by omega)]
    simp only [decH, hp, List.append_assoc, List.cons_append, List.nil_append]

/-- The purse of bytes, or what is wrong. -/
def decP (b : List Int) : Arr Int 8 × Int × Arr Int 2 × List S_purse_Held × Int :=
  let q := rdN b 0 0
  let n := rd q.2.1 q.2.2.1 1099511627776
  let u := rd n.2.1 n.2.2 1125899906842624
  let v := rd u.2.1 u.2.2 1125899906842624
  let c := rd v.2.1 v.2.2 16
  let t := decH c.1.toNat c.2.1 c.2.2 q.2.2.2
  finP q.1 n.1 u.1 v.1 t.1 (endE t.2.1 t.2.2.1 t.2.2.2)

theorem pDecode_eq {b : List Int} (hb : Byts b) (hl : b.length ≤ 140737488355328) : F.purse_Decode b = some (decP b) := by
  have hc : ([] : List Int).length + b.length ≤ 140737488355328 := by rw [List.length_nil, Nat.zero_add]; exact hl
  have hn : F.octet_NewReader b = some (b, 0) := by
    unfold F.octet_NewReader F.slices_Clone_byte_byte F.slices_Clone_byte_byte_some
    rw [if_pos hc]; rfl
  unfold F.purse_Decode decP
  rw [hn, Option.bind_some]
  simp only []
  rw [name_eq hb hl, Option.bind_some]
  have q := rdN_fact hb 0 0
  generalize rdN b 0 0 = p at q ⊢
  obtain ⟨p1, p2, p3, p4⟩ := p
  simp only [] at q ⊢
  rw [pnumber_eq q.1 (by omega) _ _ (by decide) (by decide), Option.bind_some]
  have k1 := rd_byts q.1 p3 1099511627776
  have q1 := rd_len p2 p3 1099511627776
  generalize rd p2 p3 1099511627776 = a1 at k1 q1 ⊢
  obtain ⟨n1, r1, e1⟩ := a1
  simp only [] at k1 q1 ⊢
  rw [pnumber_eq k1 (by omega) _ _ (by decide) (by decide), Option.bind_some]
  have k2 := rd_byts k1 e1 1125899906842624
  have q2 := rd_len r1 e1 1125899906842624
  generalize rd r1 e1 1125899906842624 = a2 at k2 q2 ⊢
  obtain ⟨n2, r2, e2⟩ := a2
  simp only [] at k2 q2 ⊢
  rw [pnumber_eq k2 (by omega) _ _ (by decide) (by decide), Option.bind_some]
  have k3 := rd_byts k2 e2 1125899906842624
  have q3 := rd_len r2 e2 1125899906842624
  generalize rd r2 e2 1125899906842624 = a3 at k3 q3 ⊢
  obtain ⟨n3, r3, e3⟩ := a3
  simp only [] at k3 q3 ⊢
  rw [pnumber_eq k3 (by omega) _ _ (by decide) (by decide), Option.bind_some]
  have k4 := rd_byts k3 e3 16
  have q4 := rd_len r3 e3 16
  have g4 := rd_num0 k3 e3 (show (0 : Int) ≤ 16 by decide)
  generalize rd r3 e3 16 = a4 at k4 q4 g4 ⊢
  obtain ⟨n4, r4, e4⟩ := a4
  simp only [] at k4 q4 g4 ⊢
  have := pdecode_l1 p1 n1 n2 n3 n4 g4.2 n4.toNat fuel 0 r4 e4 p4 [] (by omega) (by rw [fuel_eq]; omega) rfl k4 (by omega)
  rw [List.nil_append] at this
  exact this

/-! ### There and back -/

theorem copy8 (d : Arr Int 8) : copyA (zA 8) d.1 = d := by
  apply Subtype.ext
  have h := d.2
  simp only [copyA]
  rw [List.take_of_length_le (by omega), List.drop_eq_nil_of_le (by simp [zA, h]), List.append_nil]

theorem copy8_val {x : List Int} (h : x.length = 8) : (copyA (zA 8) x).1 = x := by
  have := copy8 ⟨x, h⟩
  exact congrArg (·.1) this

theorem rdN_enc (d : Arr Int 8) (r : List Int) : rdN (encN 8 ++ (d.1 ++ r)) 0 0 = (d, r, 0, 0) := by
  have h8 : ((d.1.length : Nat) : Int) = 8 := by rw [d.2]; rfl
  have h := rdB_enc (x := d.1) r (most := 8) (by rw [d.2]; decide) (by rw [d.2]; decide)
  rw [h8] at h
  unfold rdN
  rw [h]
  simp only []
  rw [copy8, if_neg (by rw [d.2]; simp)]

theorem rdN_inv {l : List Int} (hb : Byts l) {e r : Int} {d : Arr Int 8} {q : List Int} (h : rdN l e r = (d, q, 0, 0)) : e = 0 ∧ r = 0 ∧ l = encN 8 ++ (d.1 ++ q) := by
  unfold rdN at h
  generalize hp : rdB l e 8 = p at h
  obtain ⟨x, y, z⟩ := p
  simp only [Prod.mk.injEq] at h
  obtain ⟨h1, h2, h3, h4⟩ := h
  subst h1 h2 h3
  split at h4
  · cases h4
  · rename_i hn
    subst h4
    have he : e = 0 := rdB_bad (l := l) (e := e) (most := 8) (by rw [hp])
    subst he
    have h8 : x.length = 8 := by
      apply Classical.byContradiction
      intro hx; exact hn ⟨rfl, rfl, hx⟩
    have := rdB_inv hb hp
    rw [h8] at this
    refine ⟨rfl, rfl, ?_⟩
    rw [copy8_val h8]; exact this

theorem rdH_all {h : S_purse_Held} (ho : hOk h) (r : List Int) : rdH (heldB h ++ r) 0 0 = (h, r, 0, 0) := by
  unfold hOk at ho
  unfold rdH heldB
  simp only [List.append_assoc]
  rw [rdN_enc]
  simp only []
  rw [rd_ok (by omega) (by omega) (by omega)]
  simp only []
  rw [rd_ok (by omega) (by omega) (by omega)]
  simp only []
  rw [rd_ok (by omega) (by omega) (by omega)]

theorem decH_all : ∀ {hs : List S_purse_Held} (r : List Int), (∀ x ∈ hs, hOk x) → decH hs.length (heldsB hs ++ r) 0 0 = (hs, r, 0, 0)
  | [], r, _ => rfl
  | h :: hs, r, ho => by
    have ih := decH_all (hs := hs) r (fun x hx => ho x (by simp [hx]))
    simp only [List.length_cons, decH, heldsB, List.append_assoc]
    rw [rdH_all (ho h (by simp))]
    simp only []
    rw [ih]

theorem rdH_inv {l : List Int} (hb : Byts l) {e r : Int} {h : S_purse_Held} {q : List Int} (hh : rdH l e r = (h, q, 0, 0)) : e = 0 ∧ r = 0 ∧ l = heldB h ++ q := by
  unfold rdH at hh
  simp only [Prod.mk.injEq] at hh
  obtain ⟨h1, h2, h3, h4⟩ := hh
  have f := rdN_fact hb e r
  generalize hq : rdN l e r = p at h1 h2 h3 h4 f
  obtain ⟨p1, p2, p3, p4⟩ := p
  simp only [] at h1 h2 h3 h4 f
  have a := rd_byts f.1 p3 1125899906842624
  have za := @rd_bad p2 p3 1125899906842624
  have ia := @rd_inv p2 f.1 1125899906842624
  generalize ha : rd p2 p3 1125899906842624 = x at h1 h2 h3 a za
  obtain ⟨x1, x2, x3⟩ := x
  simp only [] at h1 h2 h3 a za
  have b := rd_byts a x3 1
  have zb := @rd_bad x2 x3 1
  have ib := @rd_inv x2 a 1
  generalize hbb : rd x2 x3 1 = y at h1 h2 h3 b zb
  obtain ⟨y1, y2, y3⟩ := y
  simp only [] at h1 h2 h3 b zb
  have zc := @rd_bad y2 y3 1099511627776
  have ic := @rd_inv y2 b 1099511627776
  generalize hc : rd y2 y3 1099511627776 = z at h1 h2 h3 zc
  obtain ⟨z1, z2, z3⟩ := z
  simp only [] at h1 h2 h3 zc
  subst h3
  have e3 := zc rfl
  subst e3
  have e2 := zb rfl
  subst e2
  have e1 := za rfl
  subst e1
  subst h4
  obtain ⟨he, hr, hl⟩ := rdN_inv hb hq
  refine ⟨he, hr, ?_⟩
  rw [hl, ia ha, ib hbb, ic hc, h2, ← h1]
  simp [heldB]

theorem decH_inv : ∀ {n : Nat} {l : List Int} (_ : Byts l) {e r : Int} {hs : List S_purse_Held} {q : List Int}, decH n l e r = (hs, q, 0, 0) → e = 0 ∧ r = 0 ∧ l = heldsB hs ++ q ∧ hs.length = n
  | 0, l, _, e, r, hs, q, h => by
    simp only [decH, Prod.mk.injEq] at h
    obtain ⟨rfl, rfl, rfl, rfl⟩ := h
    exact ⟨rfl, rfl, rfl, rfl⟩
  | n + 1, l, hb, e, r, hs, q, h => by
    simp only [decH, Prod.mk.injEq] at h
    obtain ⟨h1, h2⟩ := h
    have f := rdH_fact hb e r
    generalize hp : rdH l e r = p at h1 h2 f
    obtain ⟨p1, p2, p3, p4⟩ := p
    simp only [] at h1 h2 f
    generalize ht : decH n p2 p3 p4 = t at h1 h2
    obtain ⟨t1, t2⟩ := t
    simp only [] at h1 h2
    subst h2
    obtain ⟨e3, e4, hl, hn⟩ := decH_inv f.1 ht
    subst e3 e4
    obtain ⟨e1, e2, hl2⟩ := rdH_inv hb hp
    refine ⟨e1, e2, ?_, ?_⟩
    · rw [← h1, hl2, hl]; simp [heldsB]
    · rw [← h1]; simp [hn]

/-- What was told is read as it was. -/
theorem decP_all (d1 : Arr Int 8) {x1 : Int} {d2 : Arr Int 2} {l : List S_purse_Held} (h : chk x1 d2 l = 0) : decP (allP d1 x1 d2 l) = (d1, x1, d2, l, 0) := by
  obtain ⟨h0, h1, h2, h16, hok, _, _, _⟩ := chk_ok h
  unfold Right at h1 h2
  have hh := decH_all (hs := l) [] hok
  rw [List.append_nil] at hh
  unfold decP allP
  simp only []
  rw [rdN_enc]
  simp only []
  rw [rd_ok h0.1 h0.2 (by omega)]
  simp only []
  rw [rd_ok h1.1 h1.2 (by omega)]
  simp only []
  rw [rd_ok h2.1 h2.2 (by omega)]
  simp only []
  rw [rd_ok (by omega) (by omega) (by omega)]
  simp only []
  rw [show ((l.length : Int)).toNat = l.length by omega, hh]
  simp only [endE, finP, mkP_arr, h]
  rfl

/-- What is read, told again, are these bytes. -/
theorem allP_dec {b : List Int} (hb : Byts b) (h : (decP b).2.2.2.2 = 0) :
    allP (decP b).1 (decP b).2.1 (decP b).2.2.1 (decP b).2.2.2.1 = b ∧ chk (decP b).2.1 (decP b).2.2.1 (decP b).2.2.2.1 = 0 := by
  unfold decP at h ⊢
  simp only [] at h ⊢
  have f := rdN_fact hb 0 0
  generalize hq : rdN b 0 0 = p at h f ⊢
  obtain ⟨p1, p2, p3, p4⟩ := p
  simp only [] at h f ⊢
  have k1 := rd_byts f.1 p3 1099511627776
  have i1 := @rd_inv p2 f.1 1099511627776
  have z1 := @rd_bad p2 p3 1099511627776
  generalize ha1 : rd p2 p3 1099511627776 = a1 at h k1 z1 ⊢
  obtain ⟨n1, r1, e1⟩ := a1
  simp only [] at h k1 z1 ⊢
  have k2 := rd_byts k1 e1 1125899906842624
  have i2 := @rd_inv r1 k1 1125899906842624
  have z2 := @rd_bad r1 e1 1125899906842624
  generalize ha2 : rd r1 e1 1125899906842624 = a2 at h k2 z2 ⊢
  obtain ⟨n2, r2, e2⟩ := a2
  simp only [] at h k2 z2 ⊢
  have k3 := rd_byts k2 e2 1125899906842624
  have i3 := @rd_inv r2 k2 1125899906842624
  have z3 := @rd_bad r2 e2 1125899906842624
  generalize ha3 : rd r2 e2 1125899906842624 = a3 at h k3 z3 ⊢
  obtain ⟨n3, r3, e3⟩ := a3
  simp only [] at h k3 z3 ⊢
  have k4 := rd_byts k3 e3 16
  have g4 := rd_num0 k3 e3 (show (0 : Int) ≤ 16 by decide)
  have i4 := @rd_inv r3 k3 16
  have z4 := @rd_bad r3 e3 16
  generalize ha4 : rd r3 e3 16 = a4 at h k4 z4 g4 ⊢
  obtain ⟨n4, r4, e4⟩ := a4
  simp only [] at h k4 z4 g4 ⊢
  generalize ht : decH n4.toNat r4 e4 p4 = t at h ⊢
  obtain ⟨t1, t2, t3, t4⟩ := t
  simp only [] at h ⊢
  unfold finP at h ⊢
  by_cases hz : endE t2 t3 t4 = 0
  case neg =>
    simp only [if_neg hz] at h
    rw [if_pos hz] at h
    exact absurd h hz
  simp only [if_pos hz] at h ⊢
  by_cases hc : chk n1 (mkP n2 n3) t1 = 0
  case neg =>
    rw [if_pos hc] at h
    exact absurd h hc
  rw [if_neg (by simpa using hc)]
  unfold endE at hz
  split at hz
  · rename_i hx; exact absurd hz hx
  rename_i hr4
  split at hz
  · rename_i hx; exact absurd hz hx
  rename_i he3
  split at hz
  · cases hz
  rename_i hl0
  have hr4 : t4 = 0 := by simpa using hr4
  have he3 : t3 = 0 := by simpa using he3
  have ht2 : t2 = [] := List.eq_nil_of_length_eq_zero (by omega)
  subst hr4 he3 ht2
  obtain ⟨ee, er, hl, hn⟩ := decH_inv k4 ht
  subst ee er
  have w3 := z4 rfl
  subst w3
  have w2 := z3 rfl
  subst w2
  have w1 := z2 rfl
  subst w1
  have w0 := z1 rfl
  subst w0
  obtain ⟨_, _, hb0⟩ := rdN_inv hb hq
  refine ⟨?_, hc⟩
  have hn4 : (t1.length : Int) = n4 := by omega
  show encN 8 ++ (p1.1 ++ (encN n1 ++ (encN n2 ++ (encN n3 ++ (encN (t1.length : Int) ++ heldsB t1))))) = b
  rw [hb0, i1 ha1, i2 ha2, i3 ha3, i4 ha4, hl, hn4, List.append_nil]
end Go.Proofs.Yticlfbpmfejdoaa
