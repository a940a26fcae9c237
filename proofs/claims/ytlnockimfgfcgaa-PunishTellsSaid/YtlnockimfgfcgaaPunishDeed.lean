/-
  Plain facts of deeds: what a seat signs, and whose signature it is.
-/
import Derived.Test.YtlnockimfgfcgaaPunishTwice
namespace Go.Proofs.Ytlnockimfgfcgaa
open Go.Lab
set_option maxRecDepth 10000

/-- A seat's key. -/
def keyS (s : Int) : Arr Int 8 := ⟨[10 + s % 18446744073709551616 % 4, 0, 0, 0, 0, 0, 0, 0], rfl⟩
theorem key_eq (s : Int) : F.baizelaw34_key s = some (keyS s) := by
  unfold F.baizelaw34_key
  congr 1
  apply Subtype.ext
  simp only [keyS, List.cons.injEq, and_true]
  rw [wrap_u64, wrap_u64, Int.tmod_eq_emod_of_nonneg (by omega), wrap_u8 (by omega) (by omega)]
  omega

def tabQ (q : Bool) : Arr Int 8 := if q = true then (⟨[2, 0, 0, 0, 0, 0, 0, 0], rfl⟩ : Arr Int 8) else (⟨[1, 0, 0, 0, 0, 0, 0, 0], rfl⟩ : Arr Int 8)
theorem tabQ_byts (q : Bool) : Byts (tabQ q).1 := by
  intro y hy
  unfold tabQ at hy
  cases q <;> simp at hy <;> omega
theorem tabQ_ne (q : Bool) : tabQ q ≠ tabQ (!q) := by
  intro h
  have := congrArg (fun d : Arr Int 8 => d.1) h
  cases q <;> simp [tabQ] at this

/-- A thing out of its parts. -/
def mkT (k : Int) (t : Arr Int 8) (n : Int) (a : Arr Int 8) (b s : List Int) : S_punish_Thing :=
  if k = 0 then ⟨0, t, n, b, zA 8, 0, zA 8, [], s⟩ else ⟨1, zA 8, 0, [], t, n, a, b, s⟩
def kindK (x : Int) : Int := x % 18446744073709551616 % 2
theorem kind_eq (x : Int) : IntKind.i64.wrap ((IntKind.u64.wrap x).tmod 2) = kindK x := by
  rw [wrap_u64, Int.tmod_eq_emod_of_nonneg (by omega), wrap_id (by omega) (by omega)]; rfl
theorem kindK_or (x : Int) : kindK x = 0 ∨ kindK x = 1 := by unfold kindK; omega
def atD (x : Int) : Arr Int 8 := ⟨[x % 2, 0, 0, 0, 0, 0, 0, 0], rfl⟩
theorem zA_byts : Byts (zA 8).1 := by
  intro y hy
  simp [zA] at hy
  omega

theorem mkT_ok {k : Int} {t : Arr Int 8} {n : Int} {a : Arr Int 8} {b s : List Int} (ht : Byts t.1) (hn : I64 n) (ha : Byts a.1) (hb : Byts b) (hs : Byts s) (hl : b.length ≤ 100000) : OkT (mkT k t n a b s) := by
  unfold mkT
  have h0 : I64 0 := ⟨by decide, by decide⟩
  have he : Byts ([] : List Int) := fun y hy => by simp at hy
  split
  · exact ⟨.inl rfl, ht, hb, zA_byts, zA_byts, he, hs, hn, h0, hl, by simp⟩
  · exact ⟨.inr rfl, zA_byts, he, ht, ha, hb, hs, h0, hn, by simp, hl⟩

theorem of_mkT {k : Int} (hk : k = 0 ∨ k = 1) (t : Arr Int 8) (n : Int) (a : Arr Int 8) (b s : List Int) :
    ofT k t n a b s false = ((mkT k t n a b s).f1, (mkT k t n a b s).f2, (mkT k t n a b s).f3, (mkT k t n a b s).f4, (mkT k t n a b s).f5, (mkT k t n a b s).f6, (mkT k t n a b s).f7, (mkT k t n a b s).f8, (mkT k t n a b s).f9) := by
  rcases hk with rfl | rfl
  · simp [ofT, mkT]
  · simp [ofT, mkT]

def withSig (T : S_punish_Thing) (s : List Int) : S_punish_Thing := ⟨T.f1, T.f2, T.f3, T.f4, T.f5, T.f6, T.f7, T.f8, s⟩
theorem dig_sig (T : S_punish_Thing) (s : List Int) : dig (withSig T s) = dig T := rfl
theorem withSig_ok {T : S_punish_Thing} (h : OkT T) {s : List Int} (hs : Byts s) : OkT (withSig T s) := ⟨h.kind, h.b2, h.b4, h.b5, h.b7, h.b8, hs, h.n3, h.n6, h.l4, h.l8⟩

def sigE (i : Nat) (q : Bool) : List Int := if q = true then sigB i ++ [1] else sigB i
theorem sigE_byts (i : Nat) (q : Bool) : Byts (sigE i q) := by
  unfold sigE
  split
  · exact (sigB_byts i).append (by intro y hy; simp only [List.mem_singleton] at hy; omega)
  · exact sigB_byts i

/-! ### Whose signature it is -/

/-- A thing that a key signed in a book. -/
def Made (es : List S_notary_entry) (T : S_punish_Thing) (k : Arr Int 8) : Prop := ∃ i q, idxE es ⟨k, dig T⟩ = some i ∧ T.f9 = sigE i q

theorem Made.keeps {es : List S_notary_entry} {T : S_punish_Thing} {k : Arr Int 8} (h : Made es T k) (x : S_notary_entry) : Made (signL es x).1 T k := by
  obtain ⟨i, q, h1, h2⟩ := h
  exact ⟨i, q, signL_keeps x h1, h2⟩

theorem sigE_eq {i j : Nat} {q : Bool} (hi : i < 65536) (hj : j < 65536) (h : sigE i q = sigB j) : i = j := by
  unfold sigE at h
  cases q with
  | true =>
    have := congrArg List.length h
    simp [sigB] at this
  | false => exact sigB_inj hi hj h

theorem made_other {es : List S_notary_entry} (hes : es.length ≤ 65536) {T : S_punish_Thing} {k k' : Arr Int 8} (h : Made es T k') (hk : k ≠ k') : okV es k (dig T) T.f9 = false := by
  obtain ⟨i, q, h1, h2⟩ := h
  have hi := idxE_lt h1
  unfold okV
  cases hj : idxE es ⟨k, dig T⟩ with
  | none => rfl
  | some j =>
    have hjl := idxE_lt hj
    rw [h2]
    apply decide_eq_false
    intro hs
    have := sigE_eq (by omega) (by omega) hs
    subst this
    have := idxE_inj hj h1
    simp only [S_notary_entry.mk.injEq] at this
    exact hk this.1

theorem made_ok {es : List S_notary_entry} {T : S_punish_Thing} {k : Arr Int 8} {i : Nat} (h : idxE es ⟨k, dig T⟩ = some i) (hs : T.f9 = sigB i) : okV es k (dig T) T.f9 = true := by
  unfold okV
  rw [h, hs]
  exact decide_eq_true rfl

/-! ### The statements' own -/

end Go.Proofs.Ytlnockimfgfcgaa
