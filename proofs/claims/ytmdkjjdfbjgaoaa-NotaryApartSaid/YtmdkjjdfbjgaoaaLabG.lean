/-
  More rules: what the generator's lines use.
-/
import Derived.Test.YtmdkjjdfbjgaoaaLabE
namespace Go.Lab
open Go.RowKit

section
variable {P : Program} {Q : Exit → Act → World → Prop} {tm tm' : List Value} {g g' : GW} {c c1 c2 : Code} {ops : List Oper} {n : Nat}

theorem RdS.at {α : Type} {kd : Kd α} {e : TypeId} {a : Option Addr} {m cap : Nat} {xs : List α} (hR : RdS kd g e a m cap xs) {i : Int} (h0 : 0 ≤ i ∧ i < (xs.length : Int)) :
    ∃ b off, a = some ⟨b, off, none⟩ := by
  obtain ⟨hl, cells, h2, h3, h4⟩ := hR
  rcases h4 with ⟨_, hc⟩ | ⟨p, rfl, h4 | ⟨b, off, cur, e', fr, rfl, _⟩⟩
  · omega
  · omega
  · exact ⟨b, off, rfl⟩

theorem OwnS.at {α : Type} {kd : Kd α} {l : Nat} {e : TypeId} {a : Option Addr} {m cap : Nat} {xs : List α} (hO : OwnS kd g l e a m cap xs) {i : Int} (h0 : 0 ≤ i ∧ i < (xs.length : Int)) :
    ∃ b off, a = some ⟨b, off, none⟩ := by
  obtain ⟨hl, cells, h2, h3, h4⟩ := hO
  rcases h3.2 with ⟨_, hn⟩ | ⟨b, cap', cur, hv, _⟩
  · omega
  · simp only [Value.slice.injEq] at hv
    obtain ⟨rfl, _, _⟩ := hv
    exact ⟨b, 0, rfl⟩

theorem RdS.nilOr {α : Type} {kd : Kd α} {e : TypeId} {a : Option Addr} {m cap : Nat} {xs : List α} (hR : RdS kd g e a m cap xs) :
    (a = none ∧ m = 0 ∧ cap = 0 ∧ xs = []) ∨ ∃ p, a = some p := by
  obtain ⟨hl, cells, h2, h3, h4⟩ := hR
  rcases h4 with ⟨ha, hc⟩ | ⟨p, rfl, _⟩
  · have hm : m = 0 := by omega
    exact .inl ⟨ha, hm, hc, List.eq_nil_of_length_eq_zero (by omega)⟩
  · exact .inr ⟨p, rfl⟩

theorem WP.indexA {α : Type} {t e : TypeId} {sz : Nat} {a : Option Addr} {m cap b off : Nat} {xs : List α} (hl : xs.length = m) (ha : a = some ⟨b, off, none⟩) {k : IntKind} {i : Int}
    (hi : ixAt ops n tm = some (t, .slice a m cap, .int k i)) (ht : slElem P t = some (e, sz)) (h0 : 0 ≤ i ∧ i < (xs.length : Int))
    (h : WP P ops Q (n + 1) (putL tm (dstOf ops n) (.pointer (some ⟨b, off + i.toNat * sz, none⟩))) g) : WP P ops Q n tm g := by
  subst ha
  exact WP.indexSl hi ht h0.1 (by omega) h
end

/-- What is owned is lent to a reader, and owned again behind it. -/
theorem OwnS.lend {α : Type} {kd : Kd α} {g : GW} {l : Nat} {e : TypeId} {a : Option Addr} {n c : Nat} {xs : List α} (h : OwnS kd g l e a n c xs) (hl : l ≠ 0) :
    ∃ g1, g1.w = g.w ∧ Step (WL [l]) g g1 ∧ RdS kd g1 e a n c xs ∧ ∀ {M : Nat → Prop} {g2 : GW}, Step M g1 g2 → ¬ M 0 →
      ∃ g3, g3.w = g2.w ∧ Step (fun x => x = l ∨ M x) g g3 ∧ OwnS kd g3 l e a n c xs ∧ Step (WL [0]) g2 g3 := by
  have h' := h
  obtain ⟨h0, cells, h1, h2, h3⟩ := h
  obtain ⟨_, _, hR⟩ : ∃ g', Step (WL [l]) g g' ∧ RdS kd g' e a n c xs := by obtain ⟨g', _, st, hR⟩ := h'.freeze hl; exact ⟨g', st, hR⟩
  have hR1 : RdS kd (g.relab l 0) e a n c xs := by
    refine ⟨h0, cells, h1.mono (g.relab_step l 0) (WL.no1 (Ne.symm hl)), ?_⟩
    rcases h2.2 with ⟨hv, hn⟩ | ⟨b, cap, cur, hv, hb, hg, hnc, _, hcs, htk⟩
    · simp only [Value.slice.injEq] at hv
      obtain ⟨rfl, hz, rfl⟩ := hv
      exact ⟨by omega, .inl ⟨rfl, rfl⟩⟩
    · simp only [Value.slice.injEq] at hv
      obtain ⟨rfl, _, rfl⟩ := hv
      refine ⟨hnc, .inr ⟨_, rfl, .inr ⟨b, 0, cur, e, (0, 0), rfl, ?_, hg, ?_⟩⟩⟩
      · show (if g.L b = l then 0 else g.L b) = 0
        rw [if_pos (h3 b rfl)]
      · rw [List.drop_zero, h1.len, h0]; exact htk
  refine ⟨g.relab l 0, rfl, g.relab_step l 0, hR1, ?_⟩
  intro M g2 st hM
  have hlab : ∀ k, k < g.w.heap.size → g.L k = l → g2.L k = 0 ∧ g2.w.heap[k]? = g.w.heap[k]? := by
    intro k hk hkl
    have e1 : (g.relab l 0).L k = 0 := by show (if g.L k = l then 0 else g.L k) = 0; rw [if_pos hkl]
    exact ⟨by rw [st.lab k hk (by rw [e1]; exact hM), e1], st.old k hk (by rw [e1]; exact hM)⟩
  have hoth : ∀ k, k < g.w.heap.size → g.L k ≠ l → ¬ M (g.L k) → g2.L k = g.L k ∧ g2.w.heap[k]? = g.w.heap[k]? := by
    intro k hk hkl hm
    have e1 : (g.relab l 0).L k = g.L k := by show (if g.L k = l then 0 else g.L k) = g.L k; rw [if_neg hkl]
    exact ⟨by rw [st.lab k hk (by rw [e1]; exact hm), e1], st.old k hk (by rw [e1]; exact hm)⟩
  let g3 : GW := ⟨g2.w, fun k => if k < g.w.heap.size ∧ g.L k = l then l else g2.L k⟩
  have st3 : Step (fun x => x = l ∨ M x) g g3 := by
    refine ⟨st.os, st.tape, st.output, st.size, fun k hk hn => ?_, fun k hk hn => ?_⟩
    · have hkl : g.L k ≠ l := fun e => hn (.inl e)
      show (if k < g.w.heap.size ∧ g.L k = l then l else g2.L k) = g.L k
      rw [if_neg (fun e => hkl e.2)]
      exact (hoth k hk hkl fun e => hn (.inr e)).1
    · exact (hoth k hk (fun e => hn (.inl e)) fun e => hn (.inr e)).2
  have hm0 : ¬ (fun x => x = l ∨ M x) 0 := fun e => e.elim (fun e => hl e.symm) hM
  refine ⟨g3, rfl, st3, ⟨h0, cells, h1.mono st3 hm0, ⟨h2.1, ?_⟩, ?_⟩, ?_⟩
  · rcases h2.2 with hn | ⟨b, cap, cur, hv, hb, hg, rest⟩
    · exact .inl hn
    · refine .inr ⟨b, cap, cur, hv, hb, ?_, rest⟩
      have hlt : b < g.w.heap.size := (Array.getElem?_eq_some_iff.1 hg).1
      show g2.w.heap[b]? = _
      rw [(hlab b hlt (h3 b (by rw [hv]; rfl))).2, hg]
  · intro k hk
    have hlt := (h2.lt k hk).2
    show (if k < g.w.heap.size ∧ g.L k = l then l else g2.L k) = l
    rw [if_pos ⟨hlt, h3 k hk⟩]
  · refine ⟨rfl, rfl, rfl, Nat.le_refl _, fun k hk hn => ?_, fun k hk hn => rfl⟩
    show (if k < g.w.heap.size ∧ g.L k = l then l else g2.L k) = g2.L k
    rw [if_neg]
    intro ⟨e1, e2⟩
    exact hn (by simp [WL, (hlab k e1 e2).1])
theorem Step.lent {l : Nat} {M : Nat → Prop} {ms : List Nat} {a b : GW} (h : Step (fun x => x = l ∨ M x) a b) (hm : ∀ x, M x → x ∈ ms) : Step (WL (l :: ms)) a b :=
  h.mono fun x hx => by rcases hx with rfl | hx; exact List.mem_cons_self; exact List.mem_cons_of_mem _ (hm x hx)
theorem all_nil {α : Type} {p : α → Prop} : ∀ v ∈ ([] : List α), p v := fun v hv => by cases hv
theorem all_cons {α : Type} {p : α → Prop} {a : α} {l : List α} (h : p a) (t : ∀ v ∈ l, p v) : ∀ v ∈ a :: l, p v := fun v hv => by
  rcases List.mem_cons.1 hv with rfl | hv
  · exact h
  · exact t v hv
theorem Kd.o_int {g : GW} {k : IntKind} {cs : List Value} {x : Int} (h : (Kd.int k).R g cs x) : cs = [[.int k x]].flatten := h
theorem Kd.o_bool {g : GW} {cs : List Value} {x : Bool} (h : Kd.bool.R g cs x) : cs = [[.bool x]].flatten := h
theorem Kd.o_str {g : GW} {cs : List Value} {x : ByteArray} (h : Kd.str.R g cs x) : cs = [[.string x]].flatten := h
theorem Kd.o_arr {g : GW} {m : Nat} {k : IntKind} {cs : List Value} {x : Arr Int m} (h : (Kd.arrI m k).R g cs x) : cs = [encA k x].flatten := by
  have h' : cs = encA k x := h
  simp [h']
theorem Kd.o_sl {α : Type} {kd : Kd α} {e : TypeId} {g : GW} {cs : List Value} {xs : List α} (h : (Kd.slice e kd).R g cs xs) :
    ∃ a n c, cs = [[.slice a n c]].flatten ∧ RdS kd g e a n c xs := h
theorem Kd.mk_arr {g : GW} {m : Nat} {k : IntKind} (x : Arr Int m) : (Kd.arrI m k).R g (AG [encA k x]).cells.toList x := by
  show (AG [encA k x]).cells.toList = encA k x
  simp [AG, Value.cells]
end Go.Lab
