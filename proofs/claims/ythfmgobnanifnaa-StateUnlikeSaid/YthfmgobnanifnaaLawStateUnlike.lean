/-
  Proved: two states are signed by the same bytes just if they are the same; a state, an act and a payout never are.
-/
import Derived.Test.YthfmgobnanifnaaStateRef
namespace Go.Proofs.Ythfmgobnanifnaa
open Go.Lab
set_option maxRecDepth 10000

theorem enc_part {x y r q : List Int} (hx : x.length ≤ 1000000) (hy : y.length ≤ 1000000) (h : encN (x.length : Int) ++ (x ++ r) = encN (y.length : Int) ++ (y ++ q)) : x = y ∧ r = q := by
  have h1 := rdB_enc (x := x) r (most := 1000000) (by omega) (by omega)
  have h2 := rdB_enc (x := y) q (most := 1000000) (by omega) (by omega)
  rw [h, h2] at h1
  simp only [Prod.mk.injEq, and_true] at h1
  exact ⟨h1.1.symm, h1.2.symm⟩

theorem num_part {a b : Int} {r q : List Int} (ha : 0 ≤ a ∧ a < 18446744073709551616) (hb : 0 ≤ b ∧ b < 18446744073709551616) (h : encN a ++ r = encN b ++ q) : a = b ∧ r = q := by
  have h1 := rd_ok (n := a) (most := 18446744073709551615) (by omega) (by omega) (by omega) r
  have h2 := rd_ok (n := b) (most := 18446744073709551615) (by omega) (by omega) (by omega) q
  rw [h, h2] at h1
  simp only [Prod.mk.injEq, and_true] at h1
  exact ⟨h1.1.symm, h1.2.symm⟩

theorem state_inj {d e : Arr Int 8} {n m : Int} (hn : I64 n) (hm : I64 m) {b c : List Int} (hb : b.length ≤ 10000) (hc : c.length ≤ 10000) : stateB d n b = stateB e m c ↔ d = e ∧ n = m ∧ b = c := by
  constructor
  · intro h
    unfold stateB headB at h
    simp only [List.append_assoc] at h
    have h1 := List.append_cancel_left h
    have h2 := List.append_cancel_left h1
    obtain ⟨h3, h4⟩ := enc_part (by rw [d.2]; omega) (by rw [e.2]; omega) h2
    obtain ⟨h5, h6⟩ := num_part (zig_range hn) (zig_range hm) h4
    unfold bytB at h6
    have h7 := enc_part (x := b) (y := c) (r := []) (q := []) (by omega) (by omega) (by simpa using h6)
    exact ⟨Subtype.ext h3, zig_inj h5, h7.1⟩
  · rintro ⟨rfl, rfl, rfl⟩
    rfl

theorem getI_first (x y : Int) (l : List Int) : getI (x :: l) 0 = x ∧ getI (x :: y :: l) 1 = y := ⟨rfl, rfl⟩

theorem state_act (d e : Arr Int 8) (n m : Int) (a : Arr Int 8) (b c : List Int) : stateB d n b ≠ actB e m a c := by
  intro h
  have h1 : ∃ r, stateB d n b = 5 :: r := ⟨_, rfl⟩
  have h2 : ∃ r, actB e m a c = 3 :: r := ⟨_, rfl⟩
  obtain ⟨r, h1⟩ := h1
  obtain ⟨q, h2⟩ := h2
  rw [h1, h2] at h
  injection h with h
  exact absurd h (by decide)

theorem state_pay (d e : Arr Int 8) (n : Int) (b l : List Int) : stateB d n b ≠ payB e l := by
  intro h
  have h1 : ∃ r, stateB d n b = 5 :: r := ⟨_, rfl⟩
  have h2 : ∃ r, payB e l = 3 :: r := ⟨_, rfl⟩
  obtain ⟨r, h1⟩ := h1
  obtain ⟨q, h2⟩ := h2
  rw [h1, h2] at h
  injection h with h
  exact absurd h (by decide)

theorem act_pay (d e : Arr Int 8) (n : Int) (a : Arr Int 8) (b l : List Int) : actB d n a b ≠ payB e l := by
  intro h
  have h1 : ∃ r, actB d n a b = 3 :: 97 :: r := ⟨_, rfl⟩
  have h2 : ∃ r, payB e l = 3 :: 112 :: r := ⟨_, rfl⟩
  obtain ⟨r, h1⟩ := h1
  obtain ⟨q, h2⟩ := h2
  rw [h1, h2] at h
  injection h with _ h
  injection h with h
  exact absurd h (by decide)

theorem arr_eqb {n : Nat} (a b : Arr Int n) : (a.1 == b.1) = decide (a = b) := by
  by_cases h : a = b
  · subst h; simp
  · have : a.1 ≠ b.1 := fun q => h (Subtype.ext q)
    simp [h, this]

theorem law_StateUnlike (y0 : S_state_State) (y1 : S_state_State) (l2 : (List Int)) (w0 : wf_S_state_State y0) (w1 : wf_S_state_State y1) (w2 : (l2.length ≤ maxLen ∧ ∀ y ∈ l2, (Lit.int .i64 y).wf = true)) : F.baizelaw32_StateUnlike y0.f1 y0.f2 y0.f3 y1.f1 y1.f2 y1.f3 l2 = some true := by
  obtain ⟨d, n, b⟩ := y0
  obtain ⟨e, m, c⟩ := y1
  simp only [wf_S_state_State] at w0 w1
  simp only []
  have hd := byts_wf w0.1
  have he := byts_wf w1.1
  have hn : I64 n := wf_i64.1 w0.2.1
  have hm : I64 m := wf_i64.1 w1.2.1
  have hb := (byts_wf w0.2.2.2).take 5000
  have hc := (byts_wf w1.2.2.2).take 5000
  have hp : ∀ x ∈ l2.take 20, I64 x := fun x hx => i64_wf w2.2 x (List.mem_of_mem_take hx)
  have hbl : (b.take 5000).length ≤ 5000 := by rw [List.length_take]; omega
  have hcl : (c.take 5000).length ≤ 5000 := by rw [List.length_take]; omega
  have hpl : (l2.take 20).length ≤ 20 := by rw [List.length_take]; omega
  have hi := imin_le (l2.length : Int) 20 (by omega) (by omega)
  have hcut := cut_eq l2 20
  simp only [Int.cast_ofNat_Int] at hcut
  unfold F.baizelaw32_StateUnlike
  rw [few_eq, Option.bind_some, few_eq, Option.bind_some, if_pos (by omega), hcut]
  generalize b.take 5000 = b at *
  generalize c.take 5000 = c at *
  generalize l2.take 20 = p at *
  rw [rState_eq d hn (by omega), Option.bind_some, rState_eq e hm (by omega), Option.bind_some, rAct_eq e hm d (by omega), Option.bind_some, rPays_eq e (by omega) hp, Option.bind_some]
  have l1 := stateB_len d n b
  have l1' := stateB_len e m c
  have x1 := stateB_byts hd n hb
  have x2 := stateB_byts he m hc
  have x3 := actB_byts he m hd hc
  have x4 := payB_byts he p
  have key : ∀ q : Bool, q = decide (d = e ∧ n = m ∧ b = c) → F.baizelaw32_StateUnlike.c1 d n e m b c (stateB d n b) (stateB e m c) (actB e m d c) (payB e p) q = some true := by
    intro q hq
    unfold F.baizelaw32_StateUnlike.c1
    rw [bytesStr_inj x1 x2, bytesStr_inj x1 x3, bytesStr_inj x1 x4, bytesStr_inj x3 x4, decide_eq_false (state_act d e n m d b c), decide_eq_false (state_pay d e n b p), decide_eq_false (act_pay e e m d c p), hq,
      show decide (stateB d n b = stateB e m c) = decide (d = e ∧ n = m ∧ b = c) from decide_eq_decide.2 (state_inj hn hm (by omega) (by omega))]
    rw [if_neg (by simp), if_neg (by decide), if_neg (by decide)]
    unfold F.baizelaw32_StateUnlike.c2 F.baizelaw32_StateUnlike.c3
    rw [if_neg (by decide), told32, Option.bind_some, if_pos rfl, State_eq hd hn hb (by omega), Option.bind_some, rOf32 x1 (by omega), Option.bind_some, if_pos (arr_same _)]
    by_cases h : d = e ∧ n = m ∧ b = c
    · obtain ⟨rfl, rfl, rfl⟩ := h
      rw [if_neg (by simp), Option.bind_some, State_eq hd hn hb (by omega), Option.bind_some, arr_same]
    · rw [decide_eq_false h, if_pos (by decide)]
  rw [arr_eqb]
  by_cases h1 : d = e
  · rw [if_pos (by simpa using h1)]
    by_cases h2 : n = m
    · rw [if_pos (by simpa using h2)]
      refine key _ ?_
      rw [bytesStr_inj hb hc]
      exact decide_eq_decide.2 ⟨fun q => ⟨h1, h2, q⟩, fun q => q.2.2⟩
    · rw [if_neg (by simpa using h2)]
      exact key _ (decide_eq_false (fun q => h2 q.2.1)).symm
  · rw [if_neg (by simpa using h1)]
    exact key _ (decide_eq_false (fun q => h1 q.1)).symm
end Go.Proofs.Ythfmgobnanifnaa
