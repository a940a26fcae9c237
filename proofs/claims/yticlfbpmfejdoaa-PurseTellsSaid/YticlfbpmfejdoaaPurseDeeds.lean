/-
  Plain facts of deeds on purses: what the program's and the document's come to.
-/
import Derived.Test.YticlfbpmfejdoaaWPt6
import Derived.Test.YticlfbpmfejdoaaPursePure
namespace Go.Proofs.Yticlfbpmfejdoaa
open Go.Lab
set_option maxRecDepth 10000

def mk2 (a b : Int) : Arr Int 2 := ⟨[a, b], rfl⟩
theorem arr2 (d : Arr Int 2) : d = mk2 (aget d 0) (aget d 1) := by
  obtain ⟨d, hd⟩ := d
  match d, hd with
  | [a, b], _ => rfl

def own2 (h : S_purse_Held) : S_baizeref47_Held := ⟨h.f1, h.f2, h.f3, h.f4⟩
theorem own12 (h : S_purse_Held) : own1 (own2 h) = h := rfl
theorem own21 (h : S_baizeref47_Held) : own2 (own1 h) = h := rfl
theorem map12 (l : List S_purse_Held) : (l.map own2).map own1 = l := by rw [List.map_map]; exact List.map_id _
theorem map21 (l : List S_baizeref47_Held) : (l.map own1).map own2 = l := by rw [List.map_map]; exact List.map_id _

/-- Where something is held by a name. -/
def plc : List S_purse_Held → List Int → Option Nat
  | [], _ => none
  | x :: r, n => if x.f1.1 = n then some 0 else (plc r n).map (· + 1)

def plcI (l : List S_purse_Held) (n : List Int) : Int := match plc l n with | some i => (i : Int) | none => -1

theorem plc_lt : ∀ {l : List S_purse_Held} {n : List Int} {i : Nat}, plc l n = some i → i < l.length
  | x :: r, n, i, h => by
    unfold plc at h
    split at h
    · cases h; simp
    · simp only [Option.map_eq_some_iff] at h
      obtain ⟨j, hj, rfl⟩ := h
      have := plc_lt hj
      simp; omega

theorem plc_none : ∀ {l : List S_purse_Held} {n : List Int}, plc l n = none ↔ ∀ y ∈ l, y.f1.1 ≠ n
  | [], n => by simp [plc]
  | x :: r, n => by
    unfold plc
    by_cases h : x.f1.1 = n
    · simp [h]
    · simp only [h, if_false, Option.map_eq_none_iff, List.mem_cons, forall_eq_or_imp, not_false_eq_true, true_and, ne_eq]
      exact plc_none

theorem at_l1 (l : List S_purse_Held) (d3 : Arr Int 8) (hl : l.length ≤ 40) : ∀ (k i : Nat), i ≤ l.length → l.length - i < k →
    F.purse_Purse_at.l1 l d3 k (i : Int) = some (match plc (l.drop i) d3.1 with | some j => ((i + j : Nat) : Int) | none => -1)
  | k + 1, i, hi, hk => by
    unfold F.purse_Purse_at.l1
    by_cases h : i < l.length
    · have h1 := getI_drop (l := l) (i := (i : Int)) (by omega) (by omega)
      rw [show ((i : Int)).toNat = i by omega, show ((i : Int) + 1).toNat = i + 1 by omega] at h1
      have hw : IntKind.i64.wrap ((i : Int) + 1) = ((i + 1 : Nat) : Int) := by rw [wrap_id (by omega) (by omega)]; omega
      rw [if_pos (by simpa using h), if_pos (by omega), h1]
      unfold plc
      by_cases he : (getI l (i : Int)).f1.1 = d3.1
      · rw [if_neg (by simpa using he), if_pos he]; simp
      · rw [if_pos (by simpa using he), if_neg he, hw, at_l1 l d3 hl k (i + 1) (by omega) (by omega)]
        cases plc (l.drop (i + 1)) d3.1 with
        | none => rfl
        | some j => show some (((i + 1 + j : Nat)) : Int) = some (((i + (j + 1) : Nat)) : Int); rw [show i + 1 + j = i + (j + 1) by omega]
    · rw [if_neg (by simpa using h), List.drop_eq_nil_of_le (by omega)]; rfl

theorem at_eq (d1 : Arr Int 8) (x1 : Int) (d2 : Arr Int 2) {l : List S_purse_Held} (d3 : Arr Int 8) (hl : l.length ≤ 40) : F.purse_Purse_at d1 x1 d2 l d3 = some (plcI l d3.1) := by
  have := at_l1 l d3 hl fuel 0 (by omega) (by rw [fuel_eq]; omega)
  unfold F.purse_Purse_at plcI
  simpa using this

theorem place_l1 (l : List S_baizeref47_Held) (d3 : Arr Int 8) (hl : l.length ≤ 40) : ∀ (k i : Nat), i ≤ l.length → l.length - i < k →
    F.baizeref47_Place.l1 l d3 k (i : Int) = some (match plc ((l.drop i).map own1) d3.1 with | some j => ((i + j : Nat) : Int) | none => -1)
  | k + 1, i, hi, hk => by
    unfold F.baizeref47_Place.l1
    by_cases h : i < l.length
    · have h1 := getI_drop (l := l) (i := (i : Int)) (by omega) (by omega)
      rw [show ((i : Int)).toNat = i by omega, show ((i : Int) + 1).toNat = i + 1 by omega] at h1
      have hw : IntKind.i64.wrap ((i : Int) + 1) = ((i + 1 : Nat) : Int) := by rw [wrap_id (by omega) (by omega)]; omega
      rw [if_pos (by simpa using h), if_pos (by omega), h1, List.map_cons]
      unfold plc
      by_cases he : (getI l (i : Int)).f1.1 = d3.1
      · rw [if_pos (by simpa using he), if_pos (show (own1 (getI l (i : Int))).f1.1 = d3.1 from he)]; simp
      · rw [if_neg (by simpa using he), if_neg (show ¬ (own1 (getI l (i : Int))).f1.1 = d3.1 from he), hw, place_l1 l d3 hl k (i + 1) (by omega) (by omega)]
        cases plc ((l.drop (i + 1)).map own1) d3.1 with
        | none => rfl
        | some j => show some (((i + 1 + j : Nat)) : Int) = some (((i + (j + 1) : Nat)) : Int); rw [show i + 1 + j = i + (j + 1) by omega]
    · rw [if_neg (by simpa using h), List.drop_eq_nil_of_le (by omega)]; rfl

theorem Place_eq (d1 : Arr Int 8) (x1 : Int) (d2 : Arr Int 2) {l : List S_baizeref47_Held} (d3 : Arr Int 8) (hl : l.length ≤ 40) : F.baizeref47_Place d1 x1 d2 l d3 = some (plcI (l.map own1) d3.1) := by
  have := place_l1 l d3 hl fuel 0 (by omega) (by rw [fuel_eq]; omega)
  unfold F.baizeref47_Place plcI
  simpa using this

/-! ### The document's Check -/

theorem rRight_eq (x : Int) : F.baizeref03_Right x = some (decide (Right x)) := by
  unfold F.baizeref03_Right F.baizeref03_Right.c1 Right
  by_cases h : x ≥ 0 <;> simp [h] <;> omega
theorem rheight_eq (x : Int) : F.baizeref47_height x = some (decide (0 ≤ x ∧ x ≤ 1099511627776)) := by
  unfold F.baizeref47_height F.baizeref47_height.c1
  by_cases h : x ≥ 0 <;> simp [h] <;> omega
theorem positive_eq (x : Int) : F.baizeref47_positive x = some (decide (0 < x ∧ x ≤ 1125899906842624)) := by
  unfold F.baizeref47_positive F.baizeref47_positive.c1
  rw [rRight_eq, Option.bind_some]
  by_cases h : Right x
  · rw [decide_eq_true h, if_pos rfl]
    congr 1
    unfold Right at h
    exact decide_eq_decide.2 (by omega)
  · rw [decide_eq_false h, if_neg (by simp)]
    congr 1
    unfold Right at h
    exact (decide_eq_false (by omega)).symm

theorem plcI_pos {l : List S_purse_Held} {n : List Int} : plcI l n ≥ 0 ↔ ∃ y ∈ l, y.f1.1 = n := by
  unfold plcI
  cases h : plc l n with
  | none =>
    have := plc_none.1 h
    constructor
    · intro h; simp at h
    · rintro ⟨y, hy, he⟩; exact absurd he (this y hy)
  | some i =>
    constructor
    · intro _
      apply Classical.byContradiction
      intro hn
      have : plc l n = none := plc_none.2 fun y hy he => hn ⟨y, hy, he⟩
      rw [this] at h; cases h
    · intro _; simp

theorem ref_check_l1 (l : List S_baizeref47_Held) (hl : l.length ≤ 16) : ∀ (k i : Nat) (acc : Int), i ≤ l.length → l.length - i < k → 0 ≤ acc → acc ≤ ((i : Int) + 2) * 1125899906842624 →
    F.baizeref47_Check.l1 l k acc (i : Int) = some (if heldGo ((l.take i).map own1) ((l.drop i).map own1) ≠ 0 then heldGo ((l.take i).map own1) ((l.drop i).map own1) else if Right (acc + sumL (((l.drop i).map own1).map (·.f2))) then 0 else 2) := by
  intro k
  induction k with
  | zero => exact fun i acc h1 h2 _ _ => absurd h2 (by omega)
  | succ k ih =>
    intro i acc hi hk ha hb
    unfold F.baizeref47_Check.l1
    by_cases h : i < l.length
    · have h1 := getI_drop (l := l) (i := (i : Int)) (by omega) (by omega)
      rw [show ((i : Int)).toNat = i by omega, show ((i : Int) + 1).toNat = i + 1 by omega] at h1
      have ht : (l.take (i + 1)).map own1 = (l.take i).map own1 ++ [own1 (getI l (i : Int))] := by
        rw [List.take_add_one, List.getElem?_eq_getElem h, Option.toList_some, List.map_append, List.map_cons, List.map_nil]
        congr 3
        unfold getI
        rw [List.getD_eq_getElem?_getD, show ((i : Int)).toNat = i by omega, List.getElem?_eq_getElem h]; rfl
      have hs : sliceI l 0 (i : Int) = l.take i := by simp [sliceI]
      have hw : IntKind.i64.wrap ((i : Int) + 1) = ((i + 1 : Nat) : Int) := by rw [wrap_id (by omega) (by omega)]; omega
      have hlen : (l.take i).length ≤ 40 := by rw [List.length_take]; omega
      have hct : F.baizeref47_Check.c2 (F.baizeref47_Check.l1 l k) l acc (i : Int) true = some 2 := by unfold F.baizeref47_Check.c2; rw [if_pos rfl]
      rw [if_pos (by simpa using h), if_pos (by omega), positive_eq, Option.bind_some, rheight_eq, Option.bind_some, h1, List.map_cons]
      have hcf : hOk (own1 (getI l (i : Int))) → F.baizeref47_Check.c2 (F.baizeref47_Check.l1 l k) l acc (i : Int) false =
          some (if heldGo ((l.take i).map own1) (own1 (getI l (i : Int)) :: (l.drop (i + 1)).map own1) ≠ 0 then heldGo ((l.take i).map own1) (own1 (getI l (i : Int)) :: (l.drop (i + 1)).map own1)
            else if Right (acc + sumL ((own1 (getI l (i : Int)) :: (l.drop (i + 1)).map own1).map (·.f2))) then 0 else 2) := by
        intro hok
        have hok' := hok
        unfold hOk at hok'
        have hf2 : 0 < (getI l (i : Int)).f2 ∧ (getI l (i : Int)).f2 ≤ 1125899906842624 := hok'.1
        unfold F.baizeref47_Check.c2
        rw [if_neg (by simp), if_pos (by omega), hs, Place_eq _ _ _ _ hlen, Option.bind_some]
        have hgo : heldGo ((l.take i).map own1) (own1 (getI l (i : Int)) :: (l.drop (i + 1)).map own1) = if ∃ y ∈ (l.take i).map own1, y.f1.1 = (getI l (i : Int)).f1.1 then 7 else heldGo ((l.take (i + 1)).map own1) ((l.drop (i + 1)).map own1) := by
          conv => lhs; unfold heldGo
          rw [if_pos hok, ht]; rfl
        rw [hgo]
        by_cases hp : ∃ y ∈ (l.take i).map own1, y.f1.1 = (getI l (i : Int)).f1.1
        · rw [if_pos (by simpa using plcI_pos.2 hp), if_pos hp]; simp
        · rw [if_neg (by simpa using fun q => hp (plcI_pos.1 q)), if_neg hp]
          have hwa : IntKind.i64.wrap (acc + (getI l (i : Int)).f2) = acc + (getI l (i : Int)).f2 := wrap_id (by omega) (by omega)
          rw [hwa, hw, ih (i + 1) _ (by omega) (by omega) (by omega) (by push_cast; omega)]
          simp only [List.map_cons, sumL]
          rw [show acc + ((own1 (getI l (i : Int))).f2 + sumL (List.map (fun x => x.f2) (List.map own1 (List.drop (i + 1) l)))) = acc + (getI l (i : Int)).f2 + sumL (List.map (fun x => x.f2) (List.map own1 (List.drop (i + 1) l))) from (Int.add_assoc _ _ _).symm]
      have hgn : ¬ hOk (own1 (getI l (i : Int))) → heldGo ((l.take i).map own1) (own1 (getI l (i : Int)) :: (l.drop (i + 1)).map own1) = 2 := by
        intro hno; unfold heldGo; rw [if_neg hno]
      by_cases h2 : 0 < (getI l (i : Int)).f2 ∧ (getI l (i : Int)).f2 ≤ 1125899906842624
      case neg =>
        rw [decide_eq_false h2, if_pos (by rfl), hct, hgn (fun q => h2 q.1)]; rfl
      rw [decide_eq_true h2, if_neg (by simp)]
      by_cases h3 : (getI l (i : Int)).f3 < 0
      · rw [if_pos (by simpa using h3), hct, hgn (fun q => by have : 0 ≤ (getI l (i : Int)).f3 := q.2.1.1; omega)]; rfl
      rw [if_neg (by simpa using h3)]
      by_cases h3' : (getI l (i : Int)).f3 > 1
      · rw [if_pos (by simpa using h3'), hct, hgn (fun q => by have : (getI l (i : Int)).f3 < 2 := q.2.1.2; omega)]; rfl
      rw [if_neg (by simpa using h3')]
      by_cases h4 : 0 ≤ (getI l (i : Int)).f4 ∧ (getI l (i : Int)).f4 ≤ 1099511627776
      case neg =>
        rw [decide_eq_false h4, Bool.not_false, hct, hgn (fun q => h4 q.2.2)]; rfl
      rw [decide_eq_true h4, Bool.not_true]
      exact hcf ⟨h2, ⟨by show 0 ≤ (getI l (i : Int)).f3; omega, by show (getI l (i : Int)).f3 < 2; omega⟩, h4⟩
    · rw [if_neg (by simpa using h), List.drop_eq_nil_of_le (by omega), rRight_eq, Option.bind_some]
      simp only [List.map_nil, heldGo, sumL, Int.add_zero]
      by_cases hr : Right acc <;> simp [hr]

theorem rCheck_eq (d1 : Arr Int 8) (x1 : Int) (d2 : Arr Int 2) {l : List S_baizeref47_Held} (hl : l.length ≤ 40) : F.baizeref47_Check d1 x1 d2 l = some (chk x1 d2 (l.map own1)) := by
  have c1t : F.baizeref47_Check.c1 d2 l true = some 2 := by unfold F.baizeref47_Check.c1; rw [if_pos rfl]
  have c1f : Right (aget d2 0) → Right (aget d2 1) → F.baizeref47_Check.c1 d2 l false = some (if heldR (l.map own1) ≠ 0 then heldR (l.map own1) else (sumR (d2.1 ++ (l.map own1).map (·.f2))).2) := by
    intro h0 h1
    unfold Right at h0 h1
    unfold F.baizeref47_Check.c1 heldR
    rw [if_neg (by simp), List.length_map]
    by_cases h16 : l.length > 16
    · rw [if_pos (by simp; omega), if_pos h16]; rfl
    rw [if_neg (by simp; omega), if_neg h16, wrap_id (by omega) (by omega)]
    have := ref_check_l1 l (by omega) fuel 0 (aget d2 0 + aget d2 1) (by omega) (by rw [fuel_eq]; omega) (by omega) (by simp; omega)
    rw [List.take_zero, List.drop_zero, List.map_nil] at this
    rw [show (((0 : Nat)) : Int) = 0 from rfl] at this
    rw [this]
    by_cases hz : heldGo [] (l.map own1) = 0
    case neg => rw [if_pos hz, if_pos hz]
    have hz2 : ¬ (heldGo [] (l.map own1) ≠ 0) := by simpa using hz
    rw [if_neg hz2, if_neg hz2]
    congr 1
    have e2 : sumL (d2.1 ++ (l.map own1).map (·.f2)) = aget d2 0 + aget d2 1 + sumL ((l.map own1).map (·.f2)) := by
      rw [arr2 d2]
      show sumL ([aget d2 0, aget d2 1] ++ _) = _
      simp only [List.cons_append, List.nil_append, sumL]
      show _ = aget d2 0 + aget d2 1 + _
      omega
    have hall : ∀ x ∈ d2.1 ++ (l.map own1).map (·.f2), 0 ≤ x := by
      intro x hx
      rcases List.mem_append.1 hx with hx | hx
      · rw [arr2 d2] at hx
        have : x = aget d2 0 ∨ x = aget d2 1 := by simpa [mk2] using hx
        omega
      · obtain ⟨y, hy, rfl⟩ := List.mem_map.1 hx
        have := heldGo_ok _ _ hz y hy
        unfold hOk at this; omega
    have hnn := sumL_nonneg hall
    unfold sumR
    rw [e2] at hnn ⊢
    by_cases ht : aget d2 0 + aget d2 1 + sumL ((l.map own1).map (·.f2)) ≤ 1125899906842624
    · rw [if_pos ⟨hnn, ht⟩, if_pos ⟨hall, ht⟩]
    · rw [if_neg (fun q => ht q.2), if_neg (fun q => ht q.2)]
  unfold F.baizeref47_Check chk
  rw [rheight_eq, Option.bind_some, rRight_eq, Option.bind_some, rRight_eq, Option.bind_some]
  by_cases h0 : 0 ≤ x1 ∧ x1 ≤ 1099511627776
  · by_cases h1 : Right (aget d2 0)
    · by_cases h2 : Right (aget d2 1)
      · simp [h0, h1, h2, c1f h1 h2]
      · simp [h0, h1, h2, c1t]
    · simp [h0, h1, c1t]
  · simp [h0, c1t]
end Go.Proofs.Yticlfbpmfejdoaa
