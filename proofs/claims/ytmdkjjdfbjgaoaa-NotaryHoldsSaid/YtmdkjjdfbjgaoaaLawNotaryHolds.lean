/-
  Proved: whatever is signed, behind all of it each signature is one of its own key and message alone (of 30 signatures).
-/
import Derived.Test.YtmdkjjdfbjgaoaaNotary7
namespace Go.Proofs.Ytmdkjjdfbjgaoaa
open Go.Lab
set_option maxRecDepth 10000

theorem toK_inj {x y : S_baizelaw07_Entry} (hx : (0 ≤ x.f1 ∧ x.f1 < 256) ∧ (0 ≤ x.f2 ∧ x.f2 < 256)) (hy : (0 ≤ y.f1 ∧ y.f1 < 256) ∧ (0 ≤ y.f2 ∧ y.f2 < 256)) : ((y.f1 == x.f1) && (y.f2 == x.f2)) = decide (toK y = toK x) := by
  have := toE_eq (e := ⟨y.f1, y.f2⟩) (a := x.f1) (b := x.f2) ⟨hy.1.1, by show y.f1 < _; omega⟩ ⟨hy.2.1, by show y.f2 < _; omega⟩ ⟨hx.1.1, by omega⟩ ⟨hx.2.1, by omega⟩
  simp only [toE] at this
  rw [this]
  refine decide_eq_decide.2 ⟨fun h => h.symm, fun h => h.symm⟩

theorem Holds_l2 {l : List S_baizelaw07_Entry} (hl : l.length < 1000) (ho : OkL l) {es : List S_notary_entry} (hes : es.length < 60000) (hh : ∀ x ∈ l, ∃ i, idxE es (toK x) = some i)
    (nx : List S_notary_entry → List (S_notary_entry × Int) → Int → Option Bool) {a : Nat} (ha : a < l.length) {i : Nat} (hi : idxE es (toK (getI l (a : Int))) = some i) :
    ∀ (j k : Nat) (b : Nat), b + j = l.length → j < k → F.baizelaw07_NotaryHolds.l2 nx l (a : Int) (sigB i) (places es) es k (b : Int) = nx es (places es) (IntKind.i64.wrap ((a : Int) + 1)) := by
  intro j
  induction j with
  | zero =>
    intro k b hb hk
    obtain ⟨k, rfl⟩ : ∃ j, k = j + 1 := ⟨k - 1, by omega⟩
    unfold F.baizelaw07_NotaryHolds.l2
    rw [if_neg (by simp; omega)]
  | succ j ih =>
    intro k b hb hk
    obtain ⟨k, rfl⟩ : ∃ j, k = j + 1 := ⟨k - 1, by omega⟩
    have hbi : (0 : Int) ≤ (b : Int) ∧ (b : Int) < (l.length : Int) := by omega
    have hai : (0 : Int) ≤ (a : Int) ∧ (a : Int) < (l.length : Int) := by omega
    have hmb := getI_mem (l := l) hbi.1 hbi.2
    have hma := getI_mem (l := l) hai.1 hai.2
    obtain ⟨jx, hj⟩ := hh _ hmb
    have hjl := idxE_lt hj
    have hil := idxE_lt hi
    unfold F.baizelaw07_NotaryHolds.l2
    rw [if_pos (by simp; omega), if_pos hbi, wrap8 (ho _ hmb).1, wrap8 (ho _ hmb).2, LawDigest_eq, Option.bind_some, if_pos hbi, LawDigest_eq, Option.bind_some, Verify_eq (by omega) _ _ (sigB_byts i), Option.bind_some, if_pos hbi, if_pos hai,
      toK_inj (ho _ hma) (ho _ hmb)]
    have hj' : idxE es ⟨fnum (getI l (b : Int)).f1, fnum (getI l (b : Int)).f2⟩ = some jx := hj
    rw [hj']
    simp only []
    have he : decide (sigB i = sigB jx) = decide (toK (getI l (b : Int)) = toK (getI l (a : Int))) := by
      refine decide_eq_decide.2 ⟨fun h => ?_, fun h => ?_⟩
      · have := sigB_inj (by omega) (by omega) h
        subst this
        exact idxE_inj hj hi
      · rw [h, hi] at hj
        injection hj with hj
        rw [hj]
    rw [if_neg (by simp [he]), wrap_succ (by omega) (by omega)]
    have := ih k (b + 1) (by omega) (by omega)
    rw [show (b : Int) + 1 = ((b + 1 : Nat) : Int) by push_cast; rfl]
    exact this

theorem Holds_l1 {l : List S_baizelaw07_Entry} (hl : l.length < 1000) (ho : OkL l) {es : List S_notary_entry} (hes : es.length < 60000) (hh : ∀ x ∈ l, ∃ i, idxE es (toK x) = some i) :
    ∀ (j k : Nat) (b : Nat), b + j = l.length → j < k → F.baizelaw07_NotaryHolds.l1 l k es (places es) (b : Int) = some true := by
  intro j
  induction j with
  | zero =>
    intro k b hb hk
    obtain ⟨k, rfl⟩ : ∃ j, k = j + 1 := ⟨k - 1, by omega⟩
    unfold F.baizelaw07_NotaryHolds.l1
    rw [if_neg (by simp; omega), told7_true]
    rfl
  | succ j ih =>
    intro k b hb hk
    obtain ⟨k, rfl⟩ : ∃ j, k = j + 1 := ⟨k - 1, by omega⟩
    have hbi : (0 : Int) ≤ (b : Int) ∧ (b : Int) < (l.length : Int) := by omega
    have hmb := getI_mem (l := l) hbi.1 hbi.2
    obtain ⟨i, hi⟩ := hh _ hmb
    have hs : signL es (toK (getI l (b : Int))) = (es, i) := by unfold signL; rw [hi]
    unfold F.baizelaw07_NotaryHolds.l1
    rw [if_pos (by simp; omega), if_pos hbi, wrap8 (ho _ hmb).1, wrap8 (ho _ hmb).2, LawDigest_eq, Option.bind_some]
    unfold F.notary_Book_Signer
    rw [Option.bind_some, if_pos hbi, LawDigest_eq, Option.bind_some, Sign_eq (by omega), Option.bind_some]
    have hs' : signL es (⟨fnum (getI l (b : Int)).f1, fnum (getI l (b : Int)).f2⟩ : S_notary_entry) = (es, i) := hs
    rw [hs']
    simp only []
    have h2 := fun nx => Holds_l2 hl ho hes hh nx (by omega) hi l.length fuel 0 (by omega) (by rw [fuel_eq]; omega)
    simp only [Int.natCast_zero] at h2
    rw [if_neg (by simp), h2, wrap_succ (by omega) (by omega)]
    have := ih k (b + 1) (by omega) (by omega)
    rw [show (b : Int) + 1 = ((b + 1 : Nat) : Int) by push_cast; rfl]
    exact this

theorem law_NotaryHolds (l0 : (List S_baizelaw07_Entry)) (w0 : (l0.length ≤ maxLen ∧ ∀ y ∈ l0, wf_S_baizelaw07_Entry y)) : F.baizelaw07_NotaryHolds l0 = some true := by
  unfold F.baizelaw07_NotaryHolds
  by_cases h : (l0.length : Int) > 30
  · rw [if_pos (by simpa using h), told7_true]
    rfl
  · rw [if_neg (by simpa using h)]
    have ho := okL_wf w0.2
    rw [book_eq (by omega) ho, Option.bind_some]
    simp only [Bool.not_true, Bool.false_eq_true, if_false]
    have hlen := bookF_len l0 []
    simp only [List.length_nil, Nat.zero_add] at hlen
    exact Holds_l1 (by omega) ho (by omega) (fun x hx => bookF_has l0 [] x hx) l0.length fuel 0 (by omega) (by rw [fuel_eq]; omega)
end Go.Proofs.Ytmdkjjdfbjgaoaa
