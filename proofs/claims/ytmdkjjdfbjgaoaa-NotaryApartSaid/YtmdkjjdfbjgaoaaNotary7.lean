/-
  Plain facts of the statements' own book, and of the document's.
-/
import Derived.Test.YtmdkjjdfbjgaoaaNotaryPure
namespace Go.Proofs.Ytmdkjjdfbjgaoaa
open Go.Lab
set_option maxRecDepth 10000

def U64 (x : Int) : Prop := 0 ≤ x ∧ x < 18446744073709551616

theorem val_fnum {n : Int} (h : U64 n) : val256 (fnum n).1 = n := by
  obtain ⟨h0, h1⟩ := h
  simp only [val256, fnum]
  omega

theorem fnum_inj {a b : Int} (ha : U64 a) (hb : U64 b) (h : fnum a = fnum b) : a = b := by
  rw [← val_fnum ha, ← val_fnum hb, h]

theorem LawDigest_l1 (n : Int) (k : Nat) : F.baizelaw07_Digest.l1 n (k + 9) (zA 8) 0 = some (fnum n) := by
  have w : ∀ z : Int, 0 ≤ z → z ≤ 64 → IntKind.i64.wrap z = z := fun z h1 h2 => wrap_id (by omega) (by omega)
  have sh : ∀ (z : Int) (i : Nat), z = (i : Int) → i ≤ 56 → IntKind.u8.wrap (shV false .u64 n z) = n / 2 ^ i % 256 := by
    intro z i hz hi
    subst hz
    unfold shV
    rw [if_neg (by simp), show ((i : Int)).toNat = i by omega, show IntKind.u64.bits = 64 from rfl, Nat.min_eq_left (by omega), wrap_byte, Int.fdiv_eq_ediv_of_nonneg _ (Int.pow_nonneg (by decide))]
  have s0 := sh 0 0 rfl (by omega)
  have s1 := sh 8 8 rfl (by omega)
  have s2 := sh 16 16 rfl (by omega)
  have s3 := sh 24 24 rfl (by omega)
  have s4 := sh 32 32 rfl (by omega)
  have s5 := sh 40 40 rfl (by omega)
  have s6 := sh 48 48 rfl (by omega)
  have s7 := sh 56 56 rfl (by omega)
  simp only [F.baizelaw07_Digest.l1]
  simp (config := { decide := true }) only [w, if_true, Int.reduceLT, Int.reduceLE, Int.reduceAdd, Int.reduceMul, and_self, decide_true, decide_false, Bool.false_eq_true, if_false]
  simp only [s0, s1, s2, s3, s4, s5, s6, s7]
  congr 1
  apply Subtype.ext
  simp [aset, zA, fnum]

theorem LawDigest_eq (n : Int) : F.baizelaw07_Digest n = some (fnum n) := by
  unfold F.baizelaw07_Digest
  rw [show fuel = 9223372036854775799 + 9 from rfl]
  exact LawDigest_l1 n _

def toE (e : S_baizeref07_Entry) : S_notary_entry := ⟨fnum e.f1, fnum e.f2⟩
def toK (e : S_baizelaw07_Entry) : S_notary_entry := ⟨fnum e.f1, fnum e.f2⟩
def OkR (w : List S_baizeref07_Entry) : Prop := ∀ e ∈ w, U64 e.f1 ∧ U64 e.f2

theorem getI_at {α : Type} [Inhabited α] {p r : List α} {x : α} : getI (p ++ x :: r) (p.length : Int) = x := by
  unfold getI
  simp

theorem toE_eq {e : S_baizeref07_Entry} {a b : Int} (h1 : U64 e.f1) (h2 : U64 e.f2) (ha : U64 a) (hb : U64 b) : ((e.f1 == a) && (e.f2 == b)) = decide ((⟨fnum a, fnum b⟩ : S_notary_entry) = toE e) := by
  by_cases h : e.f1 = a ∧ e.f2 = b
  · obtain ⟨rfl, rfl⟩ := h
    simp [toE]
  · have : ¬ ((⟨fnum a, fnum b⟩ : S_notary_entry) = toE e) := by
      intro q
      simp only [toE, S_notary_entry.mk.injEq] at q
      exact h ⟨(fnum_inj ha h1 q.1).symm, (fnum_inj hb h2 q.2).symm⟩
    rw [decide_eq_false this]
    simp only [Bool.and_eq_false_iff, beq_eq_false_iff_ne, ne_eq]
    by_cases q : e.f1 = a
    · exact .inr fun z => h ⟨q, z⟩
    · exact .inl q

theorem Find_l1 {w : List S_baizeref07_Entry} (hw : w.length < 9223372036854775800) {a b : Int} (ha : U64 a) (hb : U64 b) : ∀ (r p : List S_baizeref07_Entry) (k : Nat), w = p ++ r → OkR r → r.length < k →
    F.baizeref07_Find.l1 w a b k (p.length : Int) = some (match idxE (r.map toE) ⟨fnum a, fnum b⟩ with | some i => ((p.length + i : Nat) : Int) | none => -1) := by
  intro r
  induction r with
  | nil =>
    intro p k hp ho hk
    obtain ⟨k, rfl⟩ : ∃ j, k = j + 1 := ⟨k - 1, by omega⟩
    have : w.length = p.length := by rw [hp]; simp
    unfold F.baizeref07_Find.l1
    rw [if_neg (by simp; omega)]
    rfl
  | cons x r ih =>
    intro p k hp ho hk
    obtain ⟨k, rfl⟩ : ∃ j, k = j + 1 := ⟨k - 1, by simp at hk; omega⟩
    have hl : w.length = p.length + r.length + 1 := by rw [hp]; simp; omega
    have hg : getI w (p.length : Int) = x := by rw [hp]; exact getI_at
    obtain ⟨o1, o2⟩ := ho x (by simp)
    unfold F.baizeref07_Find.l1
    rw [if_pos (by simp; omega), if_pos (by omega), hg, toE_eq o1 o2 ha hb, wrap_succ (by omega) (by omega)]
    simp only [List.map_cons, idxE]
    by_cases hx : (⟨fnum a, fnum b⟩ : S_notary_entry) = toE x
    · simp [hx]
    · simp only [hx, decide_false, Bool.false_eq_true, if_false]
      have := ih (p ++ [x]) k (by rw [hp]; simp) (fun e he => ho e (by simp [he])) (by simp at hk; omega)
      rw [List.length_append] at this
      simp only [List.length_cons, List.length_nil, Nat.zero_add] at this
      rw [show (p.length : Int) + 1 = ((p.length + 1 : Nat) : Int) by push_cast; rfl, this]
      cases idxE (r.map toE) ⟨fnum a, fnum b⟩ with
      | none => rfl
      | some i => simp only [Option.map_some]; congr 2; omega

theorem Find_eq {w : List S_baizeref07_Entry} (hw : w.length < 9223372036854775800) (ho : OkR w) {a b : Int} (ha : U64 a) (hb : U64 b) :
    F.baizeref07_Find w a b = some (match idxE (w.map toE) ⟨fnum a, fnum b⟩ with | some i => (i : Int) | none => -1) := by
  unfold F.baizeref07_Find
  have := Find_l1 hw ha hb w [] fuel (by simp) ho (by rw [fuel_eq]; omega)
  simpa using this

/-- The document's signing. -/
def signR (w : List S_baizeref07_Entry) (a b : Int) : List S_baizeref07_Entry × Nat :=
  match idxE (w.map toE) ⟨fnum a, fnum b⟩ with
  | some i => (w, i)
  | none => (w ++ [⟨a, b⟩], w.length)

theorem signR_L (w : List S_baizeref07_Entry) (a b : Int) : (signR w a b).1.map toE = (signL (w.map toE) ⟨fnum a, fnum b⟩).1 ∧ (signR w a b).2 = (signL (w.map toE) ⟨fnum a, fnum b⟩).2 := by
  unfold signR signL
  cases idxE (w.map toE) ⟨fnum a, fnum b⟩ with
  | some i => exact ⟨rfl, rfl⟩
  | none => simp [toE]

theorem signR_ok {w : List S_baizeref07_Entry} (ho : OkR w) {a b : Int} (ha : U64 a) (hb : U64 b) : OkR (signR w a b).1 := by
  unfold signR
  cases idxE (w.map toE) ⟨fnum a, fnum b⟩ with
  | some i => exact ho
  | none =>
    intro e he
    simp only [List.mem_append, List.mem_singleton] at he
    rcases he with he | rfl
    · exact ho e he
    · exact ⟨ha, hb⟩

theorem SignR_eq {w : List S_baizeref07_Entry} (hw : w.length < 1000000) (ho : OkR w) {a b : Int} (ha : U64 a) (hb : U64 b) : F.baizeref07_Sign w a b = some ((signR w a b).1, ((signR w a b).2 : Int)) := by
  unfold F.baizeref07_Sign signR
  rw [Find_eq (by omega) ho ha hb, Option.bind_some]
  cases idxE (w.map toE) ⟨fnum a, fnum b⟩ with
  | some i => simp
  | none =>
    simp only []
    rw [if_neg (by simp), if_pos (by simp; omega), if_pos (by simp; omega)]
    simp

theorem BytesR_eq {n : Nat} (h : n < 1000000) : F.baizeref07_Bytes (n : Int) = some (bytesStr (sigB n)) := by
  unfold F.baizeref07_Bytes sigB
  rw [wrap_byte, wrap_byte, Int.tmod_eq_emod_of_nonneg (by omega), Int.tdiv_eq_ediv_of_nonneg (by omega), wrap_id (by omega) (by omega), show (n : Int) % 256 % 256 = (n : Int) % 256 by omega]

/-- What stands in a book behind all of these. -/
def bookF (es : List S_notary_entry) (l : List S_baizelaw07_Entry) : List S_notary_entry := l.foldl (fun es x => (signL es (toK x)).1) es
def bookR (w : List S_baizeref07_Entry) (l : List S_baizelaw07_Entry) : List S_baizeref07_Entry := l.foldl (fun w x => (signR w x.f1 x.f2).1) w

theorem bookF_keeps : ∀ (l : List S_baizelaw07_Entry) {es : List S_notary_entry} {k : S_notary_entry} {i : Nat}, idxE es k = some i → idxE (bookF es l) k = some i
  | [], _, _, _, h => h
  | x :: l, _, _, _, h => bookF_keeps l (signL_keeps (toK x) h)

theorem bookF_has : ∀ (l : List S_baizelaw07_Entry) (es : List S_notary_entry) (x : S_baizelaw07_Entry), x ∈ l → ∃ i, idxE (bookF es l) (toK x) = some i
  | y :: l, es, x, h => by
    rcases List.mem_cons.1 h with rfl | h
    · exact ⟨_, bookF_keeps l (signL_idx es (toK x))⟩
    · exact bookF_has l _ x h

theorem bookF_len : ∀ (l : List S_baizelaw07_Entry) (es : List S_notary_entry), (bookF es l).length ≤ es.length + l.length
  | [], es => by simp [bookF]
  | x :: l, es => by
    have := bookF_len l (signL es (toK x)).1
    have h := signL_len es (toK x)
    simp only [bookF, List.foldl_cons, List.length_cons] at *
    omega

theorem bookR_F : ∀ (l : List S_baizelaw07_Entry) (w : List S_baizeref07_Entry), (bookR w l).map toE = bookF (w.map toE) l
  | [], _ => rfl
  | x :: l, w => by
    have := bookR_F l (signR w x.f1 x.f2).1
    rw [(signR_L w x.f1 x.f2).1] at this
    exact this

/-- What a statement's entries may be. -/
def OkL (l : List S_baizelaw07_Entry) : Prop := ∀ x ∈ l, (0 ≤ x.f1 ∧ x.f1 < 256) ∧ (0 ≤ x.f2 ∧ x.f2 < 256)

theorem bookR_ok : ∀ (l : List S_baizelaw07_Entry) (w : List S_baizeref07_Entry), OkR w → OkL l → OkR (bookR w l)
  | [], _, h, _ => h
  | x :: l, w, h, hl => by
    obtain ⟨h1, h2⟩ := hl x (by simp)
    exact bookR_ok l _ (signR_ok h ⟨h1.1, by omega⟩ ⟨h2.1, by omega⟩) (fun y hy => hl y (by simp [hy]))

theorem wrap8 {x : Int} (h : 0 ≤ x ∧ x < 256) : IntKind.u64.wrap x = x := by rw [wrap_u64]; omega

theorem book_l1 {l : List S_baizelaw07_Entry} (hl : l.length < 1000) : ∀ (r p : List S_baizelaw07_Entry) (k : Nat) (es : List S_notary_entry) (w : List S_baizeref07_Entry), l = p ++ r → OkL r → r.length < k →
    es = w.map toE → es.length ≤ p.length → OkR w →
    F.baizelaw07_book.l1 l k es (places es) w (p.length : Int) = some (bookF es r, places (bookF es r), bookR w r, true) := by
  intro r
  induction r with
  | nil =>
    intro p k es w hp ho hk he hle hw
    obtain ⟨k, rfl⟩ : ∃ j, k = j + 1 := ⟨k - 1, by omega⟩
    have : l.length = p.length := by rw [hp]; simp
    unfold F.baizelaw07_book.l1
    rw [if_neg (by simp; omega)]
    rfl
  | cons x r ih =>
    intro p k es w hp ho hk he hle hw
    obtain ⟨k, rfl⟩ : ∃ j, k = j + 1 := ⟨k - 1, by simp at hk; omega⟩
    have hlen : l.length = p.length + r.length + 1 := by rw [hp]; simp; omega
    have hg : getI l (p.length : Int) = x := by rw [hp]; exact getI_at
    obtain ⟨o1, o2⟩ := ho x (by simp)
    have hin : (0 : Int) ≤ (p.length : Int) ∧ (p.length : Int) < (l.length : Int) := by omega
    have hwl : w.length = es.length := by rw [he]; simp
    have hsl := signL_len es (toK x)
    have hsR := signR_L w x.f1 x.f2
    rw [← he] at hsR
    unfold F.baizelaw07_book.l1
    rw [if_pos (by simp; omega), if_pos hin, hg, wrap8 o1, wrap8 o2, LawDigest_eq, Option.bind_some]
    unfold F.notary_Book_Signer F.notary_bookSigner_Key
    rw [Option.bind_some, Option.bind_some, if_pos hin, Option.bind_some, if_neg (by simp), if_pos hin, LawDigest_eq, Option.bind_some, Sign_eq (by omega), Option.bind_some]
    simp only []
    rw [if_pos hin, if_pos hin, SignR_eq (by omega) hw ⟨o1.1, by omega⟩ ⟨o2.1, by omega⟩, Option.bind_some]
    simp only []
    rw [if_neg (by simp), hsR.2]
    have hs2 : (signL es (⟨fnum x.f1, fnum x.f2⟩ : S_notary_entry)).2 < 1000000 := by have := hsl.2.2; have := hsl.1; simp only [toK] at *; omega
    rw [BytesR_eq hs2, Option.bind_some, beq_self_eq_true, Bool.not_true]
    unfold F.baizelaw07_book.c1
    rw [if_neg (by simp), wrap_succ (by omega) (by omega)]
    have := ih (p ++ [x]) k (signL es (toK x)).1 (signR w x.f1 x.f2).1 (by rw [hp]; simp) (fun e he => ho e (by simp [he])) (by simp at hk; omega) hsR.1.symm (by have := hsl.1; simp; omega) (signR_ok hw ⟨o1.1, by omega⟩ ⟨o2.1, by omega⟩)
    rw [List.length_append] at this
    simp only [List.length_cons, List.length_nil, Nat.zero_add] at this
    rw [show (p.length : Int) + 1 = ((p.length + 1 : Nat) : Int) by push_cast; rfl]
    exact this

theorem book_eq {l : List S_baizelaw07_Entry} (hl : l.length < 1000) (ho : OkL l) : F.baizelaw07_book l = some (bookF [] l, places (bookF [] l), bookR [] l, true) := by
  unfold F.baizelaw07_book F.notary_NewBook
  rw [Option.bind_some]
  exact book_l1 hl l [] fuel [] [] (by simp) ho (by rw [fuel_eq]; omega) rfl (Nat.le_refl _) (fun e he => by simp at he)

theorem okL_wf {l : List S_baizelaw07_Entry} (h : ∀ y ∈ l, wf_S_baizelaw07_Entry y) : OkL l := by
  intro x hx
  have := h x hx
  simp only [wf_S_baizelaw07_Entry, Lit.wf, IntKind.min, IntKind.max, IntKind.signed, IntKind.bits] at this
  simp at this
  omega

theorem told7_true : F.baizelaw07_told = some true := by kernel_rfl
end Go.Proofs.Ytmdkjjdfbjgaoaa
