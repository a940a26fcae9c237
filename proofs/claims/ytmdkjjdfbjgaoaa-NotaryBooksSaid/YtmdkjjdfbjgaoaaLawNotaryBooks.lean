/-
  Proved: whatever is signed by whichever keys, each signature, whether any bytes are one of any key and message, and what each key signed are as the document says (of 60 signatures).
-/
import Derived.Test.YtmdkjjdfbjgaoaaNotary7
namespace Go.Proofs.Ytmdkjjdfbjgaoaa
open Go.Lab
set_option maxRecDepth 10000

theorem FindR_key {w : List S_baizeref07_Entry} (hw : w.length < 1000000) (ho : OkR w) {a b : Int} (ha : U64 a) (hb : U64 b) (sig : List Int) (hs : Byts sig) :
    F.baizeref07_Verify w a b (bytesStr sig) = some (match idxE (w.map toE) ⟨fnum a, fnum b⟩ with | some i => decide (sig = sigB i) | none => false) := by
  unfold F.baizeref07_Verify F.baizeref07_Verify.c1
  rw [Find_eq (by omega) ho ha hb, Option.bind_some]
  cases h : idxE (w.map toE) ⟨fnum a, fnum b⟩ with
  | none => simp
  | some i =>
    have := idxE_lt h
    rw [List.length_map] at this
    simp only []
    rw [if_pos (by simp), BytesR_eq (by omega), Option.bind_some, bytesStr_inj hs (sigB_byts i)]

theorem BookSigned_l1 {es : List S_notary_entry} (hl : es.length < 1000000) (d : Arr Int 8) : ∀ (r p : List S_notary_entry) (k : Nat) (acc : List (Arr Int 8)), es = p ++ r → r.length < k → acc.length ≤ p.length →
    F.notary_Book_Signed.l1 es d k acc (p.length : Int) = some (acc ++ (r.filter fun x => decide (x.f1 = d)).map (·.f2)) := by
  intro r
  induction r with
  | nil =>
    intro p k acc hp hk ha
    obtain ⟨k, rfl⟩ : ∃ j, k = j + 1 := ⟨k - 1, by omega⟩
    have : es.length = p.length := by rw [hp]; simp
    unfold F.notary_Book_Signed.l1
    rw [if_neg (by simp; omega)]
    simp
  | cons x r ih =>
    intro p k acc hp hk ha
    obtain ⟨k, rfl⟩ : ∃ j, k = j + 1 := ⟨k - 1, by simp at hk; omega⟩
    have hlen : es.length = p.length + r.length + 1 := by rw [hp]; simp; omega
    have hg : getI es (p.length : Int) = x := by rw [hp]; exact getI_at
    unfold F.notary_Book_Signed.l1 F.notary_Book_Signed.c1
    rw [if_pos (by simp; omega), if_pos (by omega), hg, arr_beq, wrap_succ (by omega) (by omega)]
    have h1 := fun acc ha => ih (p ++ [x]) k acc (by rw [hp]; simp) (by simp at hk; omega) ha
    simp only [List.length_append, List.length_cons, List.length_nil, Nat.zero_add] at h1
    rw [show (p.length : Int) + 1 = ((p.length + 1 : Nat) : Int) by push_cast; rfl]
    by_cases hx : x.f1 = d
    · rw [if_pos (by simpa using hx), if_pos (by simp; omega), h1 _ (by simp; omega), List.filter_cons_of_pos (by simpa using hx)]
      simp
    · rw [if_neg (by simpa using hx), h1 _ (by omega), List.filter_cons_of_neg (by simpa using hx)]

theorem RefSigned_l1 {w : List S_baizeref07_Entry} (hl : w.length < 1000000) (a : Int) : ∀ (r p : List S_baizeref07_Entry) (k : Nat) (acc : List Int), w = p ++ r → r.length < k → acc.length ≤ p.length →
    F.baizeref07_Signed.l1 w a k acc (p.length : Int) = some (acc ++ (r.filter fun x => decide (x.f1 = a)).map (·.f2)) := by
  intro r
  induction r with
  | nil =>
    intro p k acc hp hk ha
    obtain ⟨k, rfl⟩ : ∃ j, k = j + 1 := ⟨k - 1, by omega⟩
    have : w.length = p.length := by rw [hp]; simp
    unfold F.baizeref07_Signed.l1
    rw [if_neg (by simp; omega)]
    simp
  | cons x r ih =>
    intro p k acc hp hk ha
    obtain ⟨k, rfl⟩ : ∃ j, k = j + 1 := ⟨k - 1, by simp at hk; omega⟩
    have hlen : w.length = p.length + r.length + 1 := by rw [hp]; simp; omega
    have hg : getI w (p.length : Int) = x := by rw [hp]; exact getI_at
    unfold F.baizeref07_Signed.l1 F.baizeref07_Signed.c1
    rw [if_pos (by simp; omega), if_pos (by omega), hg, wrap_succ (by omega) (by omega)]
    have h1 := fun acc ha => ih (p ++ [x]) k acc (by rw [hp]; simp) (by simp at hk; omega) ha
    simp only [List.length_append, List.length_cons, List.length_nil, Nat.zero_add] at h1
    rw [show (p.length : Int) + 1 = ((p.length + 1 : Nat) : Int) by push_cast; rfl]
    by_cases hx : x.f1 = a
    · rw [if_pos (by simpa using hx), if_pos (by omega), if_pos (by simp; omega), h1 _ (by simp; omega), List.filter_cons_of_pos (by simpa using hx)]
      simp
    · rw [if_neg (by simpa using hx), h1 _ (by omega), List.filter_cons_of_neg (by simpa using hx)]

theorem signed_alike {a : Int} (ha : U64 a) : ∀ {w : List S_baizeref07_Entry}, OkR w → ((w.map toE).filter fun x => decide (x.f1 = fnum a)).map (·.f2) = ((w.filter fun x => decide (x.f1 = a)).map (·.f2)).map fnum
  | [], _ => rfl
  | x :: w, ho => by
    have ih := signed_alike ha (w := w) (fun e he => ho e (by simp [he]))
    obtain ⟨o1, o2⟩ := ho x (by simp)
    by_cases hx : x.f1 = a
    · rw [List.map_cons, List.filter_cons_of_pos (by simp [toE, hx]), List.filter_cons_of_pos (by simpa using hx), List.map_cons, ih]
      rfl
    · have hn : ¬ (toE x).f1 = fnum a := fun q => hx (fnum_inj o1 ha q)
      rw [List.map_cons, List.filter_cons_of_neg (by simpa using hn), List.filter_cons_of_neg (by simpa using hx), ih]

theorem Books_l1 {m : List Int} (hm : m.length < 1000000) : ∀ (j k : Nat) (b : Nat), b + j = m.length → j < k → F.baizelaw07_NotaryBooks.l1 (m.map fnum) m k (b : Int) = some true := by
  intro j
  induction j with
  | zero =>
    intro k b hb hk
    obtain ⟨k, rfl⟩ : ∃ j, k = j + 1 := ⟨k - 1, by omega⟩
    unfold F.baizelaw07_NotaryBooks.l1
    rw [if_neg (by simp; omega), told7_true]
    rfl
  | succ j ih =>
    intro k b hb hk
    obtain ⟨k, rfl⟩ : ∃ j, k = j + 1 := ⟨k - 1, by omega⟩
    have hg : getI (m.map fnum) (b : Int) = fnum (getI m (b : Int)) := by
      unfold getI
      simp only [Int.toNat_natCast]
      rw [List.getD_eq_getElem?_getD, List.getD_eq_getElem?_getD, List.getElem?_map, List.getElem?_eq_getElem (by omega)]
      rfl
    unfold F.baizelaw07_NotaryBooks.l1
    rw [if_pos (by simp; omega), if_pos (by simp; omega), if_pos (by omega), LawDigest_eq, Option.bind_some, hg, beq_self_eq_true, Bool.not_true, if_neg (by simp), wrap_succ (by omega) (by omega)]
    have := ih k (b + 1) (by omega) (by omega)
    rw [show (b : Int) + 1 = ((b + 1 : Nat) : Int) by push_cast; rfl]
    exact this

theorem law_NotaryBooks (l0 : (List S_baizelaw07_Entry)) (y1 : S_baizelaw07_Entry) (l2 : (List Int)) (w0 : (l0.length ≤ maxLen ∧ ∀ y ∈ l0, wf_S_baizelaw07_Entry y)) (w1 : wf_S_baizelaw07_Entry y1) (w2 : (l2.length ≤ maxLen ∧ ∀ y ∈ l2, (Lit.int .u8 y).wf = true)) : F.baizelaw07_NotaryBooks l0 y1.f1 y1.f2 l2 = some true := by
  unfold F.baizelaw07_NotaryBooks
  by_cases h : (l0.length : Int) > 60
  · rw [if_pos (by simpa using h), told7_true]
    rfl
  · rw [if_neg (by simpa using h)]
    have ho := okL_wf w0.2
    obtain ⟨h1, h2⟩ := okL_wf (l := [y1]) (by intro y hy; simp only [List.mem_singleton] at hy; subst hy; exact w1) y1 (by simp)
    have hb := byts_wf w2.2
    rw [book_eq (by omega) ho, Option.bind_some]
    simp only [Bool.not_true, Bool.false_eq_true, if_false]
    have hlen := bookF_len l0 []
    simp only [List.length_nil, Nat.zero_add] at hlen
    have hR := bookR_ok l0 [] (fun e he => by simp at he) ho
    have hF := bookR_F l0 []
    simp only [List.map_nil] at hF
    generalize hes : bookF [] l0 = es at *
    generalize hw : bookR [] l0 = w at *
    have hwl : w.length = es.length := by rw [← hF]; simp
    have u1 : U64 y1.f1 := ⟨h1.1, by omega⟩
    have u2 : U64 y1.f2 := ⟨h2.1, by omega⟩
    rw [wrap8 h1, wrap8 h2, LawDigest_eq, LawDigest_eq, Option.bind_some, Option.bind_some, Verify_eq (by omega) _ _ hb, Option.bind_some, FindR_key (by omega) hR u1 u2 l2 hb, hF, Option.bind_some, if_neg (by cases idxE es ⟨fnum y1.f1, fnum y1.f2⟩ <;> simp), Option.bind_some]
    unfold F.notary_Book_Signed F.baizeref07_Signed
    have e1 := BookSigned_l1 (es := es) (by omega) (fnum y1.f1) es [] fuel [] (by simp) (by rw [fuel_eq]; omega) (Nat.le_refl _)
    have e2 := RefSigned_l1 (w := w) (by omega) y1.f1 w [] fuel [] (by simp) (by rw [fuel_eq]; omega) (Nat.le_refl _)
    simp only [List.length_nil, Int.natCast_zero, List.nil_append] at e1 e2
    rw [e1, Option.bind_some, e2, Option.bind_some]
    have e3 := signed_alike u1 hR
    rw [hF] at e3
    rw [e3]
    have hml : ((w.filter fun x => decide (x.f1 = y1.f1)).map (·.f2)).length ≤ w.length := by rw [List.length_map]; exact List.length_filter_le _ _
    generalize (w.filter fun x => decide (x.f1 = y1.f1)).map (·.f2) = m at *
    rw [if_neg (by simp)]
    exact Books_l1 (by omega) m.length fuel 0 (by omega) (by rw [fuel_eq]; omega)
end Go.Proofs.Ytmdkjjdfbjgaoaa
