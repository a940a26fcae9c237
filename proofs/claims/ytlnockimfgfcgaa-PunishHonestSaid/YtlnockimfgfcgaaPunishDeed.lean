/-
  Plain facts of deeds: what a seat signs, and whose signature it is.
-/
import Derived.Test.YtlnockimfgfcgaaPunishTwice
namespace Go.Proofs.Ytlnockimfgfcgaa
open Go.Lab
set_option maxRecDepth 10000

/-- A seat's key. -/
def keyS (s : Int) : Arr Int 8 := ⟨[10 + s % 18446744073709551616 % 4, 0, 0, 0, 0, 0, 0, 0], rfl⟩
theorem key_eq (s : Int) : F.baizelaw34_key s = some (keyS s) := by
  unfold F.baizelaw34_key
  congr 1
  apply Subtype.ext
  simp only [keyS, List.cons.injEq, and_true]
  rw [wrap_u64, wrap_u64, Int.tmod_eq_emod_of_nonneg (by omega), wrap_u8 (by omega) (by omega)]
  omega

def tabQ (q : Bool) : Arr Int 8 := if q = true then (⟨[2, 0, 0, 0, 0, 0, 0, 0], rfl⟩ : Arr Int 8) else (⟨[1, 0, 0, 0, 0, 0, 0, 0], rfl⟩ : Arr Int 8)
theorem table_eq (q : Bool) : F.baizelaw34_table q = some (tabQ q) := by
  unfold F.baizelaw34_table tabQ
  cases q <;> rfl
theorem tabQ_byts (q : Bool) : Byts (tabQ q).1 := by
  intro y hy
  unfold tabQ at hy
  cases q <;> simp at hy <;> omega
theorem tabQ_ne (q : Bool) : tabQ q ≠ tabQ (!q) := by
  intro h
  have := congrArg (fun d : Arr Int 8 => d.1) h
  cases q <;> simp [tabQ] at this

/-- A thing out of its parts. -/
def mkT (k : Int) (t : Arr Int 8) (n : Int) (a : Arr Int 8) (b s : List Int) : S_punish_Thing :=
  if k = 0 then ⟨0, t, n, b, zA 8, 0, zA 8, [], s⟩ else ⟨1, zA 8, 0, [], t, n, a, b, s⟩
def kindK (x : Int) : Int := x % 18446744073709551616 % 2
theorem kind_eq (x : Int) : IntKind.i64.wrap ((IntKind.u64.wrap x).tmod 2) = kindK x := by
  rw [wrap_u64, Int.tmod_eq_emod_of_nonneg (by omega), wrap_id (by omega) (by omega)]; rfl
theorem kindK_or (x : Int) : kindK x = 0 ∨ kindK x = 1 := by unfold kindK; omega
def atD (x : Int) : Arr Int 8 := ⟨[x % 2, 0, 0, 0, 0, 0, 0, 0], rfl⟩
theorem zA_byts : Byts (zA 8).1 := by
  intro y hy
  simp [zA] at hy
  omega

theorem mkT_ok {k : Int} {t : Arr Int 8} {n : Int} {a : Arr Int 8} {b s : List Int} (ht : Byts t.1) (hn : I64 n) (ha : Byts a.1) (hb : Byts b) (hs : Byts s) (hl : b.length ≤ 100000) : OkT (mkT k t n a b s) := by
  unfold mkT
  have h0 : I64 0 := ⟨by decide, by decide⟩
  have he : Byts ([] : List Int) := fun y hy => by simp at hy
  split
  · exact ⟨.inl rfl, ht, hb, zA_byts, zA_byts, he, hs, hn, h0, hl, by simp⟩
  · exact ⟨.inr rfl, zA_byts, he, ht, ha, hb, hs, h0, hn, by simp, hl⟩

theorem of_mkT {k : Int} (hk : k = 0 ∨ k = 1) (t : Arr Int 8) (n : Int) (a : Arr Int 8) (b s : List Int) :
    ofT k t n a b s false = ((mkT k t n a b s).f1, (mkT k t n a b s).f2, (mkT k t n a b s).f3, (mkT k t n a b s).f4, (mkT k t n a b s).f5, (mkT k t n a b s).f6, (mkT k t n a b s).f7, (mkT k t n a b s).f8, (mkT k t n a b s).f9) := by
  rcases hk with rfl | rfl
  · simp [ofT, mkT]
  · simp [ofT, mkT]

def withSig (T : S_punish_Thing) (s : List Int) : S_punish_Thing := ⟨T.f1, T.f2, T.f3, T.f4, T.f5, T.f6, T.f7, T.f8, s⟩
theorem dig_sig (T : S_punish_Thing) (s : List Int) : dig (withSig T s) = dig T := rfl
theorem withSig_ok {T : S_punish_Thing} (h : OkT T) {s : List Int} (hs : Byts s) : OkT (withSig T s) := ⟨h.kind, h.b2, h.b4, h.b5, h.b7, h.b8, hs, h.n3, h.n6, h.l4, h.l8⟩

/-- A deed's thing, not yet signed. -/
def baseT (d : S_baizelaw34_Deed) : S_punish_Thing := mkT (kindK d.f2) (tabQ d.f5) d.f3 (atD d.f6) d.f4 []
def sigE (i : Nat) (q : Bool) : List Int := if q = true then sigB i ++ [1] else sigB i
theorem sigE_byts (i : Nat) (q : Bool) : Byts (sigE i q) := by
  unfold sigE
  split
  · exact (sigB_byts i).append (by intro y hy; simp only [List.mem_singleton] at hy; omega)
  · exact sigB_byts i

/-- What deeds may be. -/
def OkD (d : S_baizelaw34_Deed) : Prop := I64 d.f1 ∧ I64 d.f2 ∧ I64 d.f3 ∧ Byts d.f4 ∧ d.f4.length ≤ 60 ∧ 0 ≤ d.f6 ∧ d.f6 < 256

theorem base_ok {d : S_baizelaw34_Deed} (h : OkD d) : OkT (baseT d) := by
  obtain ⟨h1, h2, h3, h4, h5, h6, h7⟩ := h
  refine mkT_ok (tabQ_byts _) h3 ?_ h4 (fun y hy => by simp at hy) (by omega)
  intro y hy
  simp only [atD, List.mem_cons, List.not_mem_nil, or_false] at hy
  omega

theorem sign_eqD {d : S_baizelaw34_Deed} (h : OkD d) {es : List S_notary_entry} (hes : es.length < 65536) :
    F.baizelaw34_Deed_sign d.f1 d.f2 d.f3 d.f4 d.f5 d.f6 d.f7 es (places es) =
      some ((withSig (baseT d) (sigE (signL es ⟨keyS d.f1, dig (baseT d)⟩).2 d.f7)).f1, (withSig (baseT d) (sigE (signL es ⟨keyS d.f1, dig (baseT d)⟩).2 d.f7)).f2, (withSig (baseT d) (sigE (signL es ⟨keyS d.f1, dig (baseT d)⟩).2 d.f7)).f3, (withSig (baseT d) (sigE (signL es ⟨keyS d.f1, dig (baseT d)⟩).2 d.f7)).f4, (withSig (baseT d) (sigE (signL es ⟨keyS d.f1, dig (baseT d)⟩).2 d.f7)).f5, (withSig (baseT d) (sigE (signL es ⟨keyS d.f1, dig (baseT d)⟩).2 d.f7)).f6, (withSig (baseT d) (sigE (signL es ⟨keyS d.f1, dig (baseT d)⟩).2 d.f7)).f7, (withSig (baseT d) (sigE (signL es ⟨keyS d.f1, dig (baseT d)⟩).2 d.f7)).f8, (withSig (baseT d) (sigE (signL es ⟨keyS d.f1, dig (baseT d)⟩).2 d.f7)).f9,
        places (signL es ⟨keyS d.f1, dig (baseT d)⟩).1, (signL es ⟨keyS d.f1, dig (baseT d)⟩).1) := by
  have hb := base_ok h
  have hd := dig_eq hb
  have hat : (⟨[(d.f6.tmod 2), 0, 0, 0, 0, 0, 0, 0], rfl⟩ : Arr Int 8) = atD d.f6 := by
    apply Subtype.ext
    simp only [atD, List.cons.injEq, and_true]
    exact Int.tmod_eq_emod_of_nonneg h.2.2.2.2.2.1
  unfold F.baizelaw34_Deed_sign
  rw [table_eq, Option.bind_some, kind_eq, hat, Of_eq34, Option.bind_some, of_mkT (kindK_or _)]
  simp only []
  show ((F.baizelaw34_key d.f1).bind fun d5 => ((F.notary_Book_Signer es (places es) d5).bind fun d6 => ((F.punish_Thing_Digest (baseT d).f1 (baseT d).f2 (baseT d).f3 (baseT d).f4 (baseT d).f5 (baseT d).f6 (baseT d).f7 (baseT d).f8 (baseT d).f9).bind fun d7 => _))) = _
  rw [key_eq, Option.bind_some]
  unfold F.notary_Book_Signer
  rw [Option.bind_some, hd, Option.bind_some, Sign_eq hes, Option.bind_some]
  simp only []
  unfold F.baizelaw34_Deed_sign.c1 sigE
  cases d.f7 with
  | true =>
    rw [if_pos rfl, if_pos (by simp [sigB]), if_pos rfl]
    rfl
  | false =>
    rw [if_neg (by decide), if_neg (by decide)]
    rfl

/-! ### Whose signature it is -/

/-- A thing that a key signed in a book. -/
def Made (es : List S_notary_entry) (T : S_punish_Thing) (k : Arr Int 8) : Prop := ∃ i q, idxE es ⟨k, dig T⟩ = some i ∧ T.f9 = sigE i q

theorem Made.keeps {es : List S_notary_entry} {T : S_punish_Thing} {k : Arr Int 8} (h : Made es T k) (x : S_notary_entry) : Made (signL es x).1 T k := by
  obtain ⟨i, q, h1, h2⟩ := h
  exact ⟨i, q, signL_keeps x h1, h2⟩

theorem sigE_eq {i j : Nat} {q : Bool} (hi : i < 65536) (hj : j < 65536) (h : sigE i q = sigB j) : i = j := by
  unfold sigE at h
  cases q with
  | true =>
    have := congrArg List.length h
    simp [sigB] at this
  | false => exact sigB_inj hi hj h

theorem made_other {es : List S_notary_entry} (hes : es.length ≤ 65536) {T : S_punish_Thing} {k k' : Arr Int 8} (h : Made es T k') (hk : k ≠ k') : okV es k (dig T) T.f9 = false := by
  obtain ⟨i, q, h1, h2⟩ := h
  have hi := idxE_lt h1
  unfold okV
  cases hj : idxE es ⟨k, dig T⟩ with
  | none => rfl
  | some j =>
    have hjl := idxE_lt hj
    rw [h2]
    apply decide_eq_false
    intro hs
    have := sigE_eq (by omega) (by omega) hs
    subst this
    have := idxE_inj hj h1
    simp only [S_notary_entry.mk.injEq] at this
    exact hk this.1

theorem made_ok {es : List S_notary_entry} {T : S_punish_Thing} {k : Arr Int 8} {i : Nat} (h : idxE es ⟨k, dig T⟩ = some i) (hs : T.f9 = sigB i) : okV es k (dig T) T.f9 = true := by
  unfold okV
  rw [h, hs]
  exact decide_eq_true rfl

/-! ### The statements' own -/

theorem few_l1 {l : List S_baizelaw34_Deed} (hl : l.length ≤ 9223372036854775807) : ∀ (r p : List S_baizelaw34_Deed) (k : Nat), l = p ++ r → r.length < k →
    F.baizelaw34_few.l1 l k (p.length : Int) = some ((r.all fun d => decide (d.f4.length ≤ 60)) && decide (l.length ≤ 20)) := by
  intro r
  induction r with
  | nil =>
    intro p k hp hk
    obtain ⟨k, rfl⟩ : ∃ j, k = j + 1 := ⟨k - 1, by omega⟩
    have hlp : l = p := by rw [hp]; simp
    unfold F.baizelaw34_few.l1
    rw [if_neg (by rw [hlp]; simp)]
    simp only [List.all_nil, Bool.true_and]
    congr 1
    exact decide_eq_decide.2 (by omega)
  | cons x r ih =>
    intro p k hp hk
    obtain ⟨k, rfl⟩ : ∃ j, k = j + 1 := ⟨k - 1, by simp at hk; omega⟩
    have hlen : l.length = p.length + r.length + 1 := by rw [hp]; simp; omega
    have hg : getI l (p.length : Int) = x := by rw [hp]; exact getI_mid'
    unfold F.baizelaw34_few.l1
    rw [if_pos (by simp; omega), if_pos (by omega), hg, wrap_succ (by omega) (by omega), List.all_cons]
    have := ih (p ++ [x]) k (by rw [hp]; simp) (by simp at hk; omega)
    simp only [List.length_append, List.length_cons, List.length_nil, Nat.zero_add] at this
    rw [show (p.length : Int) + 1 = ((p.length + 1 : Nat) : Int) by push_cast; rfl, this]
    by_cases h : x.f4.length ≤ 60
    · rw [if_neg (by simp; omega), decide_eq_true h, Bool.true_and]
    · rw [if_pos (by simp; omega), decide_eq_false h]
      rfl

theorem few_eqD {l : List S_baizelaw34_Deed} (hl : l.length ≤ maxLen) : F.baizelaw34_few l = some ((l.all fun d => decide (d.f4.length ≤ 60)) && decide (l.length ≤ 20)) := by
  unfold F.baizelaw34_few
  have hm : maxLen = 9223372036854775807 := rfl
  exact few_l1 (by omega) l [] fuel (by simp) (by rw [fuel_eq]; omega)

theorem okD_wf {l : List S_baizelaw34_Deed} (w : ∀ y ∈ l, wf_S_baizelaw34_Deed y) (h : (l.all fun d => decide (d.f4.length ≤ 60)) = true) : ∀ d ∈ l, OkD d := by
  intro d hd
  have hw := w d hd
  simp only [wf_S_baizelaw34_Deed] at hw
  have h60 : d.f4.length ≤ 60 := by
    have := List.all_eq_true.1 h d hd
    simpa using this
  have h6 := byts_wf (l := [d.f6]) (by intro y hy; simp only [List.mem_singleton] at hy; subst hy; exact hw.2.2.2.2.2.1) d.f6 (by simp)
  exact ⟨wf_i64.1 hw.1, wf_i64.1 hw.2.1, wf_i64.1 hw.2.2.1, byts_wf hw.2.2.2.1.2, h60, h6.1, h6.2⟩
end Go.Proofs.Ytlnockimfgfcgaa
