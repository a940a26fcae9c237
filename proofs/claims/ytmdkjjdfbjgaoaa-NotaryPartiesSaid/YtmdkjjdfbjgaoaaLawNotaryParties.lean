/-
  Proved: whether all signed a message, but those that need not, and whose signature lacks, are as the document says (of 30 signatures, 12 keys).
-/
import Derived.Test.YtmdkjjdfbjgaoaaNotary7
import Derived.Test.YtmdkjjdfbjgaoaaNotaryMiss
namespace Go.Proofs.Ytmdkjjdfbjgaoaa
open Go.Lab
set_option maxRecDepth 10000

theorem RefVerify_ok {w : List S_baizeref07_Entry} (hw : w.length < 1000000) (ho : OkR w) {a b : Int} (ha : U64 a) (hb : U64 b) {sig : List Int} (hs : Byts sig) :
    F.baizeref07_Verify w a b (bytesStr sig) = some (okV (w.map toE) (fnum a) (fnum b) sig) := by
  unfold F.baizeref07_Verify F.baizeref07_Verify.c1 okV
  rw [Find_eq (by omega) ho ha hb, Option.bind_some]
  cases h : idxE (w.map toE) ⟨fnum a, fnum b⟩ with
  | none => simp
  | some i =>
    have := idxE_lt h
    rw [List.length_map] at this
    simp only []
    rw [if_pos (by simp), BytesR_eq (by omega), Option.bind_some, bytesStr_inj hs (sigB_byts i)]

theorem getI_map' {α β : Type} [Inhabited α] [Inhabited β] {l : List α} {f : α → β} {b : Nat} (h : b < l.length) : getI (l.map f) (b : Int) = f (getI l (b : Int)) := by
  unfold getI
  simp only [Int.toNat_natCast]
  rw [List.getD_eq_getElem?_getD, List.getD_eq_getElem?_getD, List.getElem?_map, List.getElem?_eq_getElem h]
  rfl

theorem RefMissing_l1 {w : List S_baizeref07_Entry} (hl : w.length < 65536) (ho : OkR w) {ks : List Int} (hk : ks.length < 1000000) (hu : ∀ a ∈ ks, U64 a) {m : Int} (hm : U64 m) {sigs : List (List Int)} (hb : ∀ s ∈ sigs, Byts s) (free : List Bool) :
    ∀ (r p : List Int) (k : Nat) (acc : List Int), ks = p ++ r → r.length < k → acc.length ≤ p.length →
      F.baizeref07_Missing.l1 w ks m (sigs.map bytesStr) free k acc (p.length : Int) = some (acc ++ missL (w.map toE) (fnum m) sigs free (r.map fnum) p.length) := by
  intro r
  induction r with
  | nil =>
    intro p k acc hp hkk ha
    obtain ⟨k, rfl⟩ : ∃ j, k = j + 1 := ⟨k - 1, by omega⟩
    have : ks.length = p.length := by rw [hp]; simp
    unfold F.baizeref07_Missing.l1
    rw [if_neg (by simp; omega)]
    simp [missL]
  | cons x r ih =>
    intro p k acc hp hkk ha
    obtain ⟨k, rfl⟩ : ∃ j, k = j + 1 := ⟨k - 1, by simp at hkk; omega⟩
    have hlen : ks.length = p.length + r.length + 1 := by rw [hp]; simp; omega
    have hg : getI ks (p.length : Int) = x := by rw [hp]; exact getI_mid'
    have hx : U64 x := hu x (by rw [hp]; simp)
    have h1 := fun acc ha => ih (p ++ [x]) k acc (by rw [hp]; simp) (by simp at hkk; omega) ha
    simp only [List.length_append, List.length_cons, List.length_nil, Nat.zero_add] at h1
    have hw : IntKind.i64.wrap ((p.length : Int) + 1) = ((p.length + 1 : Nat) : Int) := by rw [wrap_succ (by omega) (by omega)]; push_cast; rfl
    have hc : ∀ q : Bool, F.baizeref07_Missing.c2 (F.baizeref07_Missing.l1 w ks m (sigs.map bytesStr) free k) w ks m (sigs.map bytesStr) acc (p.length : Int) q =
        some (acc ++ if q = true then missL (w.map toE) (fnum m) sigs free (r.map fnum) (p.length + 1) else if (decide (p.length < sigs.length) && okV (w.map toE) (fnum x) (fnum m) (getI sigs (p.length : Int))) = true then missL (w.map toE) (fnum m) sigs free (r.map fnum) (p.length + 1)
          else (p.length : Int) :: missL (w.map toE) (fnum m) sigs free (r.map fnum) (p.length + 1)) := by
      intro q
      unfold F.baizeref07_Missing.c2 F.baizeref07_Missing.c3 F.baizeref07_Missing.c1
      rw [hw, hg]
      cases q with
      | true => simp only [if_true]; rw [h1 _ (by omega)]
      | false =>
        simp only [Bool.false_eq_true, if_false]
        by_cases hs : p.length < sigs.length
        · rw [if_neg (by simp; omega), if_pos (by omega), if_pos (by simp; omega), getI_map' hs, RefVerify_ok (by omega) ho hx hm (hb _ (getI_mem (by omega) (by omega))), Option.bind_some]
          simp only [hs, decide_true, Bool.true_and]
          cases okV (w.map toE) (fnum x) (fnum m) (getI sigs (p.length : Int)) with
          | true => simp only [Bool.not_true, Bool.false_eq_true, if_false, if_true]; rw [h1 _ (by omega)]
          | false =>
            simp only [Bool.not_false, if_true, Bool.false_eq_true, if_false]
            rw [if_pos (by simp; omega), h1 _ (by simp; omega)]
            simp
        · rw [if_pos (by simp; omega)]
          simp only [if_true, hs, decide_false, Bool.false_and, Bool.false_eq_true, if_false]
          rw [if_pos (by simp; omega), h1 _ (by simp; omega)]
          simp
    unfold F.baizeref07_Missing.l1
    rw [if_pos (by simp; omega)]
    simp only [List.map_cons, missL]
    by_cases hf : p.length < free.length
    · rw [if_pos (by simpa using hf), if_pos (by omega), hc]
      simp [hf]
    · rw [if_neg (by simpa using hf), hc]
      simp [hf]

theorem RefMissing_eq {w : List S_baizeref07_Entry} (hl : w.length < 65536) (ho : OkR w) {ks : List Int} (hk : ks.length < 1000000) (hu : ∀ a ∈ ks, U64 a) {m : Int} (hm : U64 m) {sigs : List (List Int)} (hb : ∀ s ∈ sigs, Byts s) (free : List Bool) :
    F.baizeref07_Missing w ks m (sigs.map bytesStr) free = some (missL (w.map toE) (fnum m) sigs free (ks.map fnum) 0) := by
  unfold F.baizeref07_Missing
  have := RefMissing_l1 hl ho hk hu hm hb free ks [] fuel [] (by simp) (by rw [fuel_eq]; omega) (Nat.le_refl _)
  simpa using this

theorem RefAll_eq {w : List S_baizeref07_Entry} (hl : w.length < 65536) (ho : OkR w) {ks : List Int} (hk : ks.length < 1000000) (hu : ∀ a ∈ ks, U64 a) {m : Int} (hm : U64 m) {sigs : List (List Int)} (hb : ∀ s ∈ sigs, Byts s) (free : List Bool) :
    F.baizeref07_All w ks m (sigs.map bytesStr) free = some (if ks.length = 0 ∨ sigs.length ≠ ks.length then 1 else if missL (w.map toE) (fnum m) sigs free (ks.map fnum) 0 = [] then 0 else 16) := by
  have hc : ∀ q : Bool, F.baizeref07_All.c1 w ks m (sigs.map bytesStr) free q = some (if q = true then 1 else if missL (w.map toE) (fnum m) sigs free (ks.map fnum) 0 = [] then 0 else 16) := by
    intro q
    unfold F.baizeref07_All.c1
    cases q with
    | true => rfl
    | false =>
      simp only [Bool.false_eq_true, if_false]
      rw [RefMissing_eq hl ho hk hu hm hb free, Option.bind_some]
      cases missL (w.map toE) (fnum m) sigs free (ks.map fnum) 0 with
      | nil => rfl
      | cons a r =>
        have : decide ((((a :: r).length : Nat) : Int) > 0) = true := by simp only [decide_eq_true_eq, List.length_cons]; omega
        simp only [this, if_true]
        simp
  unfold F.baizeref07_All
  by_cases h0 : ks.length = 0
  · rw [if_pos (by simp [h0]), hc]
    simp [h0]
  · rw [if_neg (by simp; intro q; exact h0 (by rw [q]; rfl)), hc]
    by_cases h1 : sigs.length = ks.length
    · simp [h1, h0]
    · have : (((sigs.map bytesStr).length : Int) != (ks.length : Int)) = true := by simp; omega
      rw [if_pos this, if_pos (.inr h1)]

/-! ### The statement's own lists -/

theorem strBytes_bytesStr {l : List Int} (h : Byts l) : strBytes (bytesStr l) = l := by
  unfold strBytes bytesStr
  simp only [List.map_map]
  conv => rhs; rw [← List.map_id l]
  apply List.map_congr_left
  intro x hx
  have := h x hx
  simp only [Function.comp, id, UInt8.toNat_ofNat']
  omega

theorem extract1 (a b : Int) : ByteArray.extract (bytesStr [a, b]) (0 : Int).toNat (1 : Int).toNat = bytesStr [a] := by
  apply ByteArray.ext
  rw [ByteArray.data_extract]
  rfl

/-- The signature that a party shows. -/
def cutSig (cut : List Bool) (b : Nat) (n : Int) : List Int := if (decide (b < cut.length) && getI cut (b : Int)) = true then [n % 256] else sigB n.toNat
def cutSigs (cut : List Bool) : List Int → Nat → List (List Int)
  | [], _ => []
  | n :: r, b => cutSig cut b n :: cutSigs cut r (b + 1)

theorem cutSig_byts (cut : List Bool) (b : Nat) (n : Int) : Byts (cutSig cut b n) := by
  unfold cutSig
  split
  · intro y hy
    simp only [List.mem_singleton] at hy
    omega
  · exact sigB_byts _
theorem cutSigs_byts (cut : List Bool) : ∀ (l : List Int) (b : Nat), ∀ s ∈ cutSigs cut l b, Byts s
  | [], _, s, h => by simp [cutSigs] at h
  | n :: r, b, s, h => by
    rcases List.mem_cons.1 h with rfl | h
    · exact cutSig_byts _ _ _
    · exact cutSigs_byts cut r (b + 1) s h
theorem cutSigs_len (cut : List Bool) : ∀ (l : List Int) (b : Nat), (cutSigs cut l b).length = l.length
  | [], _ => rfl
  | n :: r, b => by simp [cutSigs, cutSigs_len cut r]

section
variable {x1 : Int} {l3 : List Int} {cut free : List Bool} {es : List S_notary_entry} {w : List S_baizeref07_Entry} {ks : List Int}

theorem Parties_l3 {own : List (Arr Int 8)} {sigs : List (List Int)} {texts : List ByteArray} {d : Arr Int 8} {lack : List Int} (hl : lack.length < 1000000) {e : Int}
    (hA : F.notary_All es (places es) own d sigs free = some e) (hR : F.baizeref07_All w ks (IntKind.u64.wrap x1) texts free = some e) : ∀ (j k : Nat) (b : Nat), b + j = lack.length → j < k →
    F.baizelaw07_NotaryParties.l3 x1 free es (places es) w own ks sigs texts d lack lack k (b : Int) = some true := by
  intro j
  induction j with
  | zero =>
    intro k b hb hk
    obtain ⟨k, rfl⟩ : ∃ j, k = j + 1 := ⟨k - 1, by omega⟩
    unfold F.baizelaw07_NotaryParties.l3 F.baizelaw07_NotaryParties.c4
    rw [if_neg (by simp; omega), hA, Option.bind_some, hR, Option.bind_some, if_pos (by simp), told7_true]
    rfl
  | succ j ih =>
    intro k b hb hk
    obtain ⟨k, rfl⟩ : ∃ j, k = j + 1 := ⟨k - 1, by omega⟩
    unfold F.baizelaw07_NotaryParties.l3
    rw [if_pos (by simp; omega), if_pos (by omega), if_pos (by omega), if_neg (by simp), wrap_succ (by omega) (by omega)]
    have := ih k (b + 1) (by omega) (by omega)
    rw [show (b : Int) + 1 = ((b + 1 : Nat) : Int) by push_cast; rfl]
    exact this

theorem Parties_l2 (hx : 0 ≤ x1 ∧ x1 < 256) (h3 : ∀ n ∈ l3, 0 ≤ n ∧ n < 256) (hl3 : l3.length < 1000) (hes : es = w.map toE) (hl : w.length < 60000) (ho : OkR w) (hu : ∀ a ∈ ks, U64 a) (hk : ks.length < 1000) :
    ∀ (r p : List Int) (k : Nat) (sigs : List (List Int)), l3 = p ++ r → r.length < k → sigs.length = p.length → (∀ s ∈ sigs, Byts s) →
      F.baizelaw07_NotaryParties.l2 x1 l3 cut free es (places es) w (ks.map fnum) ks k sigs (sigs.map bytesStr) (p.length : Int) = some true := by
  intro r
  induction r with
  | nil =>
    intro p k sigs hp hkk hsl hb
    obtain ⟨k, rfl⟩ : ∃ j, k = j + 1 := ⟨k - 1, by omega⟩
    have : l3.length = p.length := by rw [hp]; simp
    have hel : es.length = w.length := by rw [hes]; simp
    have u1 : U64 x1 := ⟨hx.1, by omega⟩
    have hml : ∀ (es : List S_notary_entry) m sigs free (r : List (Arr Int 8)) b, (missL es m sigs free r b).length ≤ r.length := by
      intro es m sigs free r
      induction r with
      | nil => intro b; simp [missL]
      | cons a r ih =>
        intro b
        simp only [missL]
        have := ih (b + 1)
        split
        · simp; omega
        · split <;> simp <;> omega
    unfold F.baizelaw07_NotaryParties.l2
    rw [if_neg (by simp; omega), wrap8 hx, LawDigest_eq, Option.bind_some, Missing_eq (by omega) (by simp; omega) _ hb, Option.bind_some, RefMissing_eq (by omega) ho (by omega) hu u1 hb, Option.bind_some, ← hes, if_neg (by simp)]
    have hA := All_eq (es := es) (by omega) (keys := ks.map fnum) (by simp; omega) (fnum x1) hb free
    have hR := RefAll_eq (w := w) (by omega) ho (by omega) hu u1 hb free
    rw [← hes] at hR
    rw [List.length_map] at hA
    have h2 := hml es (fnum x1) sigs free (ks.map fnum) 0
    rw [List.length_map] at h2
    exact Parties_l3 (by omega) hA (by rw [wrap8 hx]; exact hR) _ fuel 0 (Nat.zero_add _) (by rw [fuel_eq]; omega)
  | cons n r ih =>
    intro p k sigs hp hkk hsl hb
    obtain ⟨k, rfl⟩ : ∃ j, k = j + 1 := ⟨k - 1, by simp at hkk; omega⟩
    have hlen : l3.length = p.length + r.length + 1 := by rw [hp]; simp; omega
    have hg : getI l3 (p.length : Int) = n := by rw [hp]; exact getI_at
    have hn := h3 n (by rw [hp]; simp)
    have hw : IntKind.i64.wrap ((p.length : Int) + 1) = ((p.length + 1 : Nat) : Int) := by rw [wrap_succ (by omega) (by omega)]; push_cast; rfl
    have hB : F.baizeref07_Bytes (IntKind.i64.wrap n) = some (bytesStr (sigB n.toNat)) := by
      rw [wrap_id (by omega) (by omega)]
      have := BytesR_eq (n := n.toNat) (by omega)
      rw [show ((n.toNat : Nat) : Int) = n by omega] at this
      exact this
    have hlast : F.baizelaw07_NotaryParties.c2 (F.baizelaw07_NotaryParties.l2 x1 l3 cut free es (places es) w (ks.map fnum) ks k) sigs (sigs.map bytesStr) (p.length : Int) (bytesStr (cutSig cut p.length n)) = some true := by
      unfold F.baizelaw07_NotaryParties.c2
      rw [if_pos (by simp; omega), if_pos (by simp; omega), hw, strBytes_bytesStr (cutSig_byts _ _ _)]
      have := ih (p ++ [n]) k (sigs ++ [cutSig cut p.length n]) (by rw [hp]; simp) (by simp at hkk; omega) (by simp; omega) (by
        intro s hs
        simp only [List.mem_append, List.mem_singleton] at hs
        rcases hs with hs | rfl
        · exact hb s hs
        · exact cutSig_byts _ _ _)
      simp only [List.length_append, List.length_cons, List.length_nil, Nat.zero_add, List.map_append, List.map_cons, List.map_nil] at this
      exact this
    have hc : ∀ q : Bool, q = (decide (p.length < cut.length) && getI cut (p.length : Int)) → F.baizelaw07_NotaryParties.c3 (F.baizelaw07_NotaryParties.l2 x1 l3 cut free es (places es) w (ks.map fnum) ks k) sigs (sigs.map bytesStr) (p.length : Int) (bytesStr (sigB n.toNat)) q = some true := by
      intro q hq
      unfold F.baizelaw07_NotaryParties.c3
      unfold cutSig at hlast
      rw [← hq] at hlast
      cases q with
      | true =>
        simp only [if_true] at hlast ⊢
        have hsz : ((bytesStr (sigB n.toNat)).size : Int) = 2 := rfl
        rw [if_pos (by rw [hsz]; decide)]
        unfold sigB
        rw [extract1, show ((n.toNat : Nat) : Int) = n by omega]
        exact hlast
      | false =>
        simp only [Bool.false_eq_true, if_false] at hlast ⊢
        exact hlast
    unfold F.baizelaw07_NotaryParties.l2
    rw [if_pos (by simp; omega), if_pos (by omega), hg, hB, Option.bind_some]
    by_cases hf : p.length < cut.length
    · rw [if_pos (by simpa using hf), if_pos (by omega)]
      exact hc _ (by simp [hf])
    · rw [if_neg (by simpa using hf)]
      exact hc _ (by simp [hf])

theorem Parties_l1 {l2 : List Int} (h2 : ∀ n ∈ l2, 0 ≤ n ∧ n < 256) (hl2 : l2.length < 1000) (hx : 0 ≤ x1 ∧ x1 < 256) (h3 : ∀ n ∈ l3, 0 ≤ n ∧ n < 256) (hl3 : l3.length < 1000) (hes : es = w.map toE) (hl : w.length < 60000) (ho : OkR w) :
    ∀ (r p : List Int) (k : Nat), l2 = p ++ r → r.length < k →
      F.baizelaw07_NotaryParties.l1 l2 x1 l3 cut free es (places es) w k (p.map fnum) p (p.length : Int) = some true := by
  intro r
  induction r with
  | nil =>
    intro p k hp hkk
    obtain ⟨k, rfl⟩ : ∃ j, k = j + 1 := ⟨k - 1, by omega⟩
    have hl2p : l2 = p := by rw [hp]; simp
    unfold F.baizelaw07_NotaryParties.l1
    rw [if_neg (by rw [hl2p]; simp)]
    exact Parties_l2 hx h3 hl3 hes hl ho (fun a ha => by have := h2 a (by rw [hl2p]; exact ha); exact ⟨this.1, by omega⟩) (by rw [← hl2p]; exact hl2) l3 [] fuel [] (by simp) (by rw [fuel_eq]; omega) rfl (fun s hs => by simp at hs)
  | cons n r ih =>
    intro p k hp hkk
    obtain ⟨k, rfl⟩ : ∃ j, k = j + 1 := ⟨k - 1, by simp at hkk; omega⟩
    have hlen : l2.length = p.length + r.length + 1 := by rw [hp]; simp; omega
    have hg : getI l2 (p.length : Int) = n := by rw [hp]; exact getI_at
    have hn := h2 n (by rw [hp]; simp)
    have hw : IntKind.i64.wrap ((p.length : Int) + 1) = ((p.length + 1 : Nat) : Int) := by rw [wrap_succ (by omega) (by omega)]; push_cast; rfl
    have hin : (0 : Int) ≤ (p.length : Int) ∧ (p.length : Int) < (l2.length : Int) := by omega
    unfold F.baizelaw07_NotaryParties.l1
    rw [if_pos (by simp; omega), if_pos hin, hg, wrap8 hn, LawDigest_eq, Option.bind_some, if_pos (by simp; omega), if_pos hin, if_pos (by simp; omega), hw]
    have := ih (p ++ [n]) k (by rw [hp]; simp) (by simp at hkk; omega)
    simp only [List.length_append, List.length_cons, List.length_nil, Nat.zero_add, List.map_append, List.map_cons, List.map_nil] at this
    exact this
end

theorem law_NotaryParties (l0 : (List S_baizelaw07_Entry)) (y1 : S_baizelaw07_Party) (w0 : (l0.length ≤ maxLen ∧ ∀ y ∈ l0, wf_S_baizelaw07_Entry y)) (w1 : wf_S_baizelaw07_Party y1) : F.baizelaw07_NotaryParties l0 y1.f1 y1.f2 y1.f3 y1.f4 y1.f5 = some true := by
  obtain ⟨ks, m, ss, cut, free⟩ := y1
  simp only [wf_S_baizelaw07_Party] at w1
  simp only []
  have hc : ∀ q : Bool, (q = false → l0.length ≤ 30 ∧ ks.length ≤ 12 ∧ ss.length ≤ 12) → F.baizelaw07_NotaryParties.c1 l0 ks m ss cut free q = some true := by
    intro q hq
    unfold F.baizelaw07_NotaryParties.c1
    cases q with
    | true => rw [if_pos rfl, told7_true]; rfl
    | false =>
      obtain ⟨b1, b2, b3⟩ := hq rfl
      have ho := okL_wf w0.2
      rw [if_neg (by simp), book_eq (by omega) ho, Option.bind_some]
      simp only [Bool.not_true, Bool.false_eq_true, if_false]
      have hlen := bookF_len l0 []
      simp only [List.length_nil, Nat.zero_add] at hlen
      have hF := bookR_F l0 []
      simp only [List.map_nil] at hF
      have hR := bookR_ok l0 [] (fun e he => by simp at he) ho
      have hwl : (bookR [] l0).length = (bookF [] l0).length := by rw [← hF]; simp
      exact Parties_l1 (byts_wf w1.1.2) (by omega) (byts_wf (l := [m]) (by intro y hy; simp only [List.mem_singleton] at hy; subst hy; exact w1.2.1) m (by simp)) (byts_wf w1.2.2.1.2) (by omega) hF.symm (by omega) hR ks [] fuel (by simp) (by rw [fuel_eq]; omega)
  unfold F.baizelaw07_NotaryParties
  by_cases h1 : (l0.length : Int) > 30
  · rw [if_pos (by simpa using h1)]
    exact hc true (by simp)
  rw [if_neg (by simpa using h1)]
  by_cases h2 : (ks.length : Int) > 12
  · rw [if_pos (by simpa using h2)]
    exact hc true (by simp)
  rw [if_neg (by simpa using h2)]
  refine hc _ (fun q => ?_)
  simp only [gt_iff_lt, decide_eq_false_iff_not, Int.not_lt] at q
  omega
end Go.Proofs.Ytmdkjjdfbjgaoaa
