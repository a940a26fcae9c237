/-
  Proved: what is signed by the signers of a clone stands in that alone; whether two books are the same (of 20 signatures each).
-/
import Derived.Test.YtmdkjjdfbjgaoaaNotary7
namespace Go.Proofs.Ytmdkjjdfbjgaoaa
open Go.Lab
set_option maxRecDepth 10000

theorem strBytes_bytesStr {l : List Int} (h : Byts l) : strBytes (bytesStr l) = l := by
  unfold strBytes bytesStr
  simp only [List.map_map]
  conv => rhs; rw [← List.map_id l]
  apply List.map_congr_left
  intro x hx
  have := h x hx
  simp only [Function.comp, id, UInt8.toNat_ofNat']
  omega

theorem EqualE_l1 {l m : List S_notary_entry} (hl : l.length < 1000000000) : ∀ (r q p p' : List S_notary_entry) (k : Nat), l = p ++ r → m = p' ++ q → p.length = p'.length → r.length = q.length → r.length < k →
    F.slices_Equal_notary_entry_notary_entry.l1 l m k (p.length : Int) = some (decide (r = q)) := by
  intro r
  induction r with
  | nil =>
    intro q p p' k h1 h2 h3 h4 hk
    obtain ⟨k, rfl⟩ : ∃ j, k = j + 1 := ⟨k - 1, by omega⟩
    have hq : q = [] := List.eq_nil_of_length_eq_zero (by simpa using h4.symm)
    subst hq
    have : l.length = p.length := by rw [h1]; simp
    unfold F.slices_Equal_notary_entry_notary_entry.l1
    rw [if_neg (by simp; omega)]
    rfl
  | cons x r ih =>
    intro q p p' k h1 h2 h3 h4 hk
    obtain ⟨k, rfl⟩ : ∃ j, k = j + 1 := ⟨k - 1, by simp at hk; omega⟩
    obtain ⟨y, q, rfl⟩ : ∃ y z, q = y :: z := by
      cases q with
      | nil => simp at h4
      | cons y z => exact ⟨y, z, rfl⟩
    have e1 : l.length = p.length + r.length + 1 := by rw [h1]; simp; omega
    have e2 : m.length = p'.length + q.length + 1 := by rw [h2]; simp; omega
    simp only [List.length_cons, Nat.add_right_cancel_iff] at h4
    have g1 : getI l (p.length : Int) = x := by rw [h1]; exact getI_at
    have g2 : getI m (p.length : Int) = y := by rw [h2, h3]; exact getI_at
    have hE : ((x.f1.1 == y.f1.1) && (x.f2.1 == y.f2.1)) = decide (x = y) := eqk_iff x y
    unfold F.slices_Equal_notary_entry_notary_entry.l1
    rw [if_pos (by simp; omega), if_pos (by omega), if_pos (by omega), g1, g2, hE, wrap_succ (by omega) (by omega)]
    by_cases hxy : x = y
    · subst hxy
      rw [if_neg (by simp)]
      have := ih q (p ++ [x]) (p' ++ [x]) k (by rw [h1]; simp) (by rw [h2]; simp) (by simp [h3]) h4 (by simp at hk; omega)
      rw [List.length_append] at this
      simp only [List.length_cons, List.length_nil, Nat.zero_add] at this
      rw [show (p.length : Int) + 1 = ((p.length + 1 : Nat) : Int) by push_cast; rfl, this]
      congr 1
      exact decide_eq_decide.2 ⟨fun h => by rw [h], fun h => by simpa using h⟩
    · rw [if_pos (by simpa using hxy)]
      congr 1
      exact (decide_eq_false (fun h => hxy (by simpa using (List.cons.inj h).1))).symm

theorem EqualE_eq {l m : List S_notary_entry} (hl : l.length < 1000000000) : F.slices_Equal_notary_entry_notary_entry l m = some (decide (l = m)) := by
  unfold F.slices_Equal_notary_entry_notary_entry
  by_cases h : l.length = m.length
  · rw [if_neg (by simp [h])]
    exact EqualE_l1 hl l m [] [] fuel (by simp) (by simp) rfl h (by rw [fuel_eq]; omega)
  · rw [if_pos (by simp; omega)]
    congr 1
    exact (decide_eq_false (fun q => h (by rw [q]))).symm

theorem SameB_eq {l : List S_notary_entry} (hl : l.length < 1000000000) (w : List (S_notary_entry × Int)) (m : List S_notary_entry) (v : List (S_notary_entry × Int)) : F.notary_Book_Same l w m v = some (decide (l = m)) := by
  unfold F.notary_Book_Same
  rw [EqualE_eq hl, Option.bind_some]

theorem signL_more (es : List S_notary_entry) (x : S_notary_entry) : ∃ r, (signL es x).1 = es ++ r := by
  unfold signL
  cases idxE es x with
  | some i => exact ⟨[], by simp⟩
  | none => exact ⟨[x], rfl⟩

theorem apart_l1 {l2 : List S_baizelaw07_Entry} (hl : l2.length ≤ 20) {es0 : List S_notary_entry} {w0 : List S_baizeref07_Entry} (he0 : w0.map toE = es0) (hw0 : OkR w0) (hl0 : es0.length ≤ 20) :
    ∀ (r p : List S_baizelaw07_Entry) (k : Nat) (es : List S_notary_entry) (w : List S_baizeref07_Entry), l2 = p ++ r → OkL r → r.length < k → w.map toE = es → (∃ q, es = es0 ++ q) → OkR w → es.length ≤ 20 + p.length →
      F.baizelaw07_NotaryApart.l1 l2 es0 (places es0) w0 k es (places es) w (p.length : Int) = some true := by
  have hwl0 : w0.length = es0.length := by rw [← he0]; simp
  intro r
  induction r with
  | nil =>
    intro p k es w hp ho hk he hx hw hle
    obtain ⟨k, rfl⟩ : ∃ j, k = j + 1 := ⟨k - 1, by omega⟩
    have : l2.length = p.length := by rw [hp]; simp
    have hwl : w.length = es.length := by rw [← he]; simp
    obtain ⟨q, rfl⟩ := hx
    unfold F.baizelaw07_NotaryApart.l1 F.baizelaw07_NotaryApart.c4
    rw [if_neg (by simp; omega), SameB_eq (by omega), Option.bind_some, told7_true, Option.bind_some]
    have hd : decide (es0 = es0 ++ q) = ((w.length : Int) == (w0.length : Int)) := by
      rw [hwl, hwl0, List.length_append]
      cases q with
      | nil => simp
      | cons y q =>
        have : ¬ (es0 = es0 ++ y :: q) := fun h => by
          have := congrArg List.length h
          simp at this
        rw [decide_eq_false this]
        simp; omega
    rw [hd, if_pos (by simp)]
  | cons x r ih =>
    intro p k es w hp ho hk he hx hw hle
    obtain ⟨k, rfl⟩ : ∃ j, k = j + 1 := ⟨k - 1, by simp at hk; omega⟩
    have hlen : l2.length = p.length + r.length + 1 := by rw [hp]; simp; omega
    have hg : getI l2 (p.length : Int) = x := by rw [hp]; exact getI_at
    obtain ⟨o1, o2⟩ := ho x (by simp)
    have hin : (0 : Int) ≤ (p.length : Int) ∧ (p.length : Int) < (l2.length : Int) := by omega
    have hwl : w.length = es.length := by rw [← he]; simp
    have hsl := signL_len es (toK x)
    have hsR := signR_L w x.f1 x.f2
    rw [he] at hsR
    have u1 : U64 x.f1 := ⟨o1.1, by omega⟩
    have u2 : U64 x.f2 := ⟨o2.1, by omega⟩
    have hok2 := signR_ok hw u1 u2
    have next : F.baizelaw07_NotaryApart.l1 l2 es0 (places es0) w0 k (signL es (toK x)).1 (places (signL es (toK x)).1) (signR w x.f1 x.f2).1 ((p.length + 1 : Nat) : Int) = some true := by
      have := ih (p ++ [x]) k (signL es (toK x)).1 (signR w x.f1 x.f2).1 (by rw [hp]; simp) (fun e hee => ho e (by simp [hee])) (by simp at hk; omega) hsR.1 (by
        obtain ⟨q, rfl⟩ := hx
        obtain ⟨z, hz⟩ := signL_more (es0 ++ q) (toK x)
        exact ⟨q ++ z, by rw [hz, List.append_assoc]⟩) hok2 (by have := hsl.1; simp; omega)
      rw [List.length_append] at this
      exact this
    have hidx : idxE ((signR w x.f1 x.f2).1.map toE) ⟨fnum x.f1, fnum x.f2⟩ = some (signL es (toK x)).2 := by rw [hsR.1]; exact signL_idx es (toK x)
    have hn2 : (signL es (toK x)).2 < 1000000 := by have := hsl.2.2; have := hsl.1; omega
    have hl2' : (signR w x.f1 x.f2).1.length < 9223372036854775800 := by
      have : (signR w x.f1 x.f2).1.length = (signL es (toK x)).1.length := by
        have := congrArg List.length hsR.1
        rw [List.length_map] at this
        exact this
      have := hsl.1
      omega
    have hF2 := Find_eq hl2' hok2 u1 u2
    rw [hidx] at hF2
    simp only [] at hF2
    unfold F.baizelaw07_NotaryApart.l1
    rw [if_pos (by simp; omega), if_pos hin, hg, wrap8 o1, wrap8 o2, LawDigest_eq, Option.bind_some]
    unfold F.notary_Book_Signer
    rw [Option.bind_some, if_pos hin, LawDigest_eq, Option.bind_some, Sign_eq (by omega), Option.bind_some]
    simp only []
    rw [if_pos hin, if_pos hin, SignR_eq (by omega) hw u1 u2, Option.bind_some]
    simp only []
    rw [if_pos hin, if_pos hin, Find_eq (by omega) hw0 u1 u2, Option.bind_some, he0]
    have next2 : F.baizelaw07_NotaryApart.c3 (F.baizelaw07_NotaryApart.l1 l2 es0 (places es0) w0 k) (p.length : Int) (places (signL es ⟨fnum x.f1, fnum x.f2⟩).1) (signL es ⟨fnum x.f1, fnum x.f2⟩).1 (signR w x.f1 x.f2).1 false = some true := by
      unfold F.baizelaw07_NotaryApart.c3
      rw [if_neg (by decide), wrap_succ (by omega) (by omega), show (p.length : Int) + 1 = ((p.length + 1 : Nat) : Int) by push_cast; rfl]
      exact next
    cases hi : idxE es0 ⟨fnum x.f1, fnum x.f2⟩ with
    | some i =>
      simp only []
      rw [if_neg (by simp)]
      exact next2
    | none =>
      simp only []
      rw [if_pos (by decide), Option.bind_some, Option.bind_some, hF2, Option.bind_some, BytesR_eq hn2, Option.bind_some, strBytes_bytesStr (sigB_byts _), Verify_eq (by omega) _ _ (sigB_byts _), Option.bind_some, hi]
      exact next2

theorem law_NotaryApart (l0 : (List S_baizelaw07_Entry)) (l1 : (List S_baizelaw07_Entry)) (w0 : (l0.length ≤ maxLen ∧ ∀ y ∈ l0, wf_S_baizelaw07_Entry y)) (w1 : (l1.length ≤ maxLen ∧ ∀ y ∈ l1, wf_S_baizelaw07_Entry y)) : F.baizelaw07_NotaryApart l0 l1 = some true := by
  have hT : F.baizelaw07_NotaryApart.c1 l0 l1 true = some true := by
    unfold F.baizelaw07_NotaryApart.c1
    rw [if_pos rfl, told7_true]
    rfl
  unfold F.baizelaw07_NotaryApart
  by_cases h : (l0.length : Int) > 20
  · rw [if_pos (by simpa using h)]; exact hT
  rw [if_neg (by simpa using h)]
  by_cases h2 : (l1.length : Int) > 20
  · rw [decide_eq_true h2]; exact hT
  rw [decide_eq_false h2]
  have ho := okL_wf w0.2
  have ho1 := okL_wf w1.2
  have hlen := bookF_len l0 []
  simp only [List.length_nil, Nat.zero_add] at hlen
  have hR := bookR_ok l0 [] (fun e he => by simp at he) ho
  have hF := bookR_F l0 []
  simp only [List.map_nil] at hF
  unfold F.baizelaw07_NotaryApart.c1 F.notary_Book_Clone F.slices_Clone_notary_entry_notary_entry F.slices_Clone_notary_entry_notary_entry_some F.maps_Clone_map_notary_entry_int_notary_entry_int
  rw [if_neg (by decide), book_eq (by omega) ho, Option.bind_some]
  simp only [Bool.not_true, Bool.false_eq_true, if_false]
  generalize bookF [] l0 = es at *
  generalize bookR [] l0 = w at *
  rw [if_pos (by simp; omega), Option.bind_some, Option.bind_some, Option.bind_some]
  simp only [List.nil_append]
  rw [SameB_eq (by omega), Option.bind_some, decide_eq_true rfl, if_neg (by decide), Option.bind_some]
  unfold F.baizelaw07_NotaryApart.c2
  simp only [Bool.not_true, Bool.false_eq_true, if_false]
  exact apart_l1 (by omega) hF hR (by omega) l1 [] fuel es w (by simp) ho1 (by rw [fuel_eq]; omega) hF ⟨[], by simp⟩ hR (by simp; omega)
end Go.Proofs.Ytmdkjjdfbjgaoaa
