/-
  What is read of the arguments, as facts of the walks.
-/
import Derived.Test.YtmdkjjdfbjgaoaaLabG
import Derived.OpenShut
import Derived.ShutString
import Derived.ChangeOld
import Derived.ChangeArms
namespace Go.Lab
open Go.RowKit Go.WideShapes

/-- Whatever reads as data of type t is data of the kind. -/
def Reads {α : Type} (P : Program) (W : World) (t : TypeId) (kd : Kd α) (wf : α → Prop) : Prop :=
  ∀ {H : Type} (enc : TypeId × Value → H) (fuel : Nat) (cs : List Value) (x : DataW H × List MemPlace),
    DataW.trod enc P W 0 (fun _ => true) true fuel t cs = some x → ∃ y, kd.R ⟨W, fun _ => 0⟩ cs y ∧ wf y

theorem add_add (a : Addr) (m n : Nat) : (a.add m).add n = a.add (m + n) := by
  unfold Addr.add
  by_cases hm : m = 0
  · subst hm; simp
  · by_cases hn : n = 0
    · subst hn; simp
    · simp [hm, hn, Nat.add_assoc]

theorem split_0 (n : Nat) (cs : List Value) : cs = (cs.drop 0).take n ++ cs.drop n := by rw [List.drop_zero, List.take_append_drop]
theorem split_at (o n : Nat) (cs : List Value) : cs.drop o = (cs.drop o).take n ++ cs.drop (o + n) := by rw [← List.drop_drop, List.take_append_drop]

section
variable {P : Program} {W : World}

theorem Reads.int {t : TypeId} {k : IntKind} (ht : P.underlying t = some (.int k)) : Reads P W t (Kd.int k) fun x => (Lit.int k x).wf = true := by
  intro H enc fuel cs x h
  obtain ⟨n, hc, _, hw⟩ := DataW.trod_int ht h
  exact ⟨n, hc, hw⟩
theorem Reads.bool {t : TypeId} (ht : P.underlying t = some .bool) : Reads P W t Kd.bool fun _ => True := by
  intro H enc fuel cs x h
  obtain ⟨n, hc, _⟩ := DataW.trod_bool ht h
  exact ⟨n, hc, trivial⟩
theorem Reads.str {t : TypeId} (ht : P.underlying t = some .string) : Reads P W t Kd.str fun s => s.size ≤ maxLen := by
  intro H enc fuel cs x h
  obtain ⟨n, hc, _, hs⟩ := DataW.trod_string ht h
  exact ⟨n, hc, hs⟩

theorem cell_some {w : World} {a : Addr} {u : Value} (h : w.cell? a = some u) :
    ∃ cur e fr, a = ⟨a.block, a.off, none⟩ ∧ w.heap[a.block]? = some (.cells cur e fr) ∧ cur[a.off]? = some u := by
  obtain ⟨b, off, sp⟩ := a
  unfold World.cell? at h
  simp only [] at h ⊢
  split at h
  · rename_i c t fr hb
    split at h
    · cases h
    · rename_i hs
      refine ⟨c, t, fr, ?_, hb, h⟩
      cases sp <;> simp at hs ⊢
  · cases h

theorem Reads.slice {α : Type} {kd : Kd α} {wf : α → Prop} {t e : TypeId} (ht : P.underlying t = some (.slice e)) (hc : P.cellsOf e = kd.sz) (hpos : 0 < kd.sz) (he : Reads P W e kd wf) :
    Reads P W t (Kd.slice e kd) fun xs => xs.length ≤ maxLen ∧ ∀ x ∈ xs, wf x := by
  intro H enc fuel cs x h
  rcases DataW.trod_slice ht h with ⟨hcs, _⟩ | ⟨a, len, cap, elems, rest, n, _, hcs, _, hb, hl, hm, hlen, hel, _, _⟩
  · exact ⟨[], ⟨none, 0, 0, hcs, RdS.nil kd _ e⟩, by simp, by simp⟩
  · have step : ∀ m, m ≤ len → ∃ (ys : List α) (cells : List Value), ys.length = m ∧ Enc kd ⟨W, fun _ => 0⟩ cells ys ∧ (∀ j u, cells[j]? = some u → W.cell? (a.add j) = some u) ∧ ∀ y ∈ ys, wf y := by
      intro m
      induction m with
      | zero => exact fun _ => ⟨[], [], rfl, rfl, by simp, by simp⟩
      | succ m ih =>
        intro hm'
        obtain ⟨ys, cells, h1, h2, h3, h4⟩ := ih (by omega)
        have hx := hel m (by omega)
        have hlt : m < elems.length := by omega
        rw [List.getElem?_eq_getElem hlt] at hx
        obtain ⟨c1, hc1, ht1⟩ := Option.bind_eq_some_iff.1 hx
        obtain ⟨y, hy, hwy⟩ := he enc n c1 _ ht1
        have hcell := World.cells?_some hc1
        have hlc := h2.len
        refine ⟨ys ++ [y], cells ++ c1, by simp [h1], h2.append (Enc.single hy), ?_, ?_⟩
        · intro j u hu
          by_cases hj : j < cells.length
          · rw [List.getElem?_append_left hj] at hu; exact h3 j u hu
          · rw [List.getElem?_append_right (by omega)] at hu
            have hj2 : j - cells.length < P.cellsOf e := by
              have := (List.getElem?_eq_some_iff.1 hu).1
              rw [hcell.2.1] at this; exact this
            have := hcell.2.2 _ hj2
            rw [add_add, hc, hu] at this
            rw [← this]
            congr 2
            rw [hlc, h1]
            rw [hlc, h1] at hj
            omega
        · intro z hz
          rcases List.mem_append.1 hz with hz | hz
          · exact h4 z hz
          · simp at hz; subst hz; exact hwy
    obtain ⟨ys, cells, h1, h2, h3, h4⟩ := step len (Nat.le_refl _)
    refine ⟨ys, ⟨some a, len, cap, hcs, h1, cells, h2, hl, .inr ⟨a, rfl, ?_⟩⟩, by omega, h4⟩
    by_cases h0 : len = 0
    · exact .inl h0
    · right
      have hcl : 0 < cells.length := by rw [h2.len, h1]; exact Nat.mul_pos (by omega) hpos
      have hc0 := h3 0 _ (List.getElem?_eq_getElem hcl)
      have ha0 : a.add 0 = a := by simp [Addr.add]
      rw [ha0] at hc0
      obtain ⟨cur, e', fr, ha, hh, _⟩ := cell_some hc0
      refine ⟨a.block, a.off, cur, e', fr, ha, rfl, hh, ?_⟩
      apply List.ext_getElem?
      intro j
      rw [List.getElem?_take]
      split
      · rename_i hj
        rw [List.getElem?_drop, Array.getElem?_toList]
        have := h3 j _ (List.getElem?_eq_getElem hj)
        rw [ha, add_lit0, cell_of_row W a.block (a.off + j) cur e' fr hh] at this
        rw [List.getElem?_eq_getElem hj]
        exact this
      · rename_i hj
        rw [List.getElem?_eq_none (by omega)]

theorem Reads.arrI {t e : TypeId} {n : Nat} {k : IntKind} (ht : P.underlying t = some (.array n e)) (he : P.underlying e = some (.int k)) (hc : P.cellsOf e = 1) (hct : P.cellsOf t = n) :
    Reads P W t (Kd.arrI n k) fun d => ∀ x ∈ d.1, (Lit.int k x).wf = true := by
  intro H enc fuel cs x h
  obtain ⟨xs, m, _, _, hl, hx, hel⟩ := DataW.trod_array ht h
  rw [hct] at hl
  have each : ∀ i, i < n → ∃ z, cs[i]? = some (.int k z) ∧ (Lit.int k z).wf = true := by
    intro i hi
    have h1 := hel i hi
    rw [List.getElem?_eq_getElem (by omega), hc, Nat.mul_one] at h1
    obtain ⟨z, hz, _, hw⟩ := DataW.trod_int he h1
    refine ⟨z, ?_, hw⟩
    have := congrArg (fun l => l[0]?) hz
    simpa [List.getElem?_take, List.getElem?_drop] using this
  have : ∃ zs : List Int, cs = zs.map (Value.int k) ∧ ∀ z ∈ zs, (Lit.int k z).wf = true := by
    have : ∀ (l : List Value), (∀ u ∈ l, ∃ z, u = .int k z ∧ (Lit.int k z).wf = true) → ∃ zs : List Int, l = zs.map (Value.int k) ∧ ∀ z ∈ zs, (Lit.int k z).wf = true := by
      intro l
      induction l with
      | nil => exact fun _ => ⟨[], rfl, by simp⟩
      | cons u l ih =>
        intro hu
        obtain ⟨z, rfl, hz⟩ := hu u (by simp)
        obtain ⟨zs, rfl, hzs⟩ := ih fun v hv => hu v (by simp [hv])
        refine ⟨z :: zs, rfl, fun y hy => ?_⟩
        rcases List.mem_cons.1 hy with rfl | hy
        · exact hz
        · exact hzs y hy
    refine this cs fun u hu => ?_
    obtain ⟨i, hi, rfl⟩ := List.mem_iff_getElem.1 hu
    obtain ⟨z, hz, hw⟩ := each i (by omega)
    rw [List.getElem?_eq_getElem hi] at hz
    exact ⟨z, Option.some.inj hz, hw⟩
  obtain ⟨zs, rfl, hzs⟩ := this
  exact ⟨⟨zs, by simpa using hl⟩, rfl, hzs⟩

/-- An argument that is a slice. -/
theorem arg_slice {α : Type} {kd : Kd α} {wf : List α → Prop} {H : Type} {enc : TypeId × Value → H} {t e : TypeId} (ht : P.underlying t = some (.slice e)) (hR : Reads P W t (Kd.slice e kd) wf) {r : Reach} {b0 : Nat} {v : Value}
    {d : DataW H} {ps : List MemPlace} (hv : Value.okWide P W r b0 t v) (h : DataW.Trod enc P W 0 (fun _ => true) true t v d ps) :
    ∃ a n c xs, v = .slice a n c ∧ RdS kd ⟨W, fun _ => 0⟩ e a n c xs ∧ wf xs := by
  obtain ⟨a, n, c, rfl⟩ := okWide_slice ht hv
  obtain ⟨fuel, hf⟩ := h
  obtain ⟨xs, ⟨a', n', c', hcs, hS⟩, hw⟩ := hR enc fuel _ _ hf
  simp [Value.cells] at hcs
  obtain ⟨rfl, rfl, rfl⟩ := hcs
  exact ⟨a, n, c, xs, rfl, hS, hw⟩

theorem okWide_agg {r : Reach} {b0 : Nat} {t : TypeId} {v : Value} (ht : (match P.underlying t with | some (.struct _) | some (.array _ _) => true | _ => false) = true) (h : Value.okWide P W r b0 t v) :
    ∃ cs, v = .agg cs := by
  unfold Value.okWide at h
  split at h
  · obtain ⟨cs, h1, _⟩ := h; exact ⟨cs, h1⟩
  · obtain ⟨cs, h1, _⟩ := h; exact ⟨cs, h1⟩
  · rename_i h1 h2
    exfalso
    split at ht
    · rename_i fs hu; exact h1 fs hu
    · rename_i n e hu; exact h2 n e hu
    · cases ht

/-- An argument that is a struct or an array. -/
theorem arg_agg {α : Type} {kd : Kd α} {wf : α → Prop} {H : Type} {enc : TypeId × Value → H} {t : TypeId} (ht : (match P.underlying t with | some (.struct _) | some (.array _ _) => true | _ => false) = true) (hR : Reads P W t kd wf)
    {r : Reach} {b0 : Nat} {v : Value} {d : DataW H} {ps : List MemPlace} (hv : Value.okWide P W r b0 t v) (h : DataW.Trod enc P W 0 (fun _ => true) true t v d ps) :
    ∃ cs y, v = .agg cs ∧ kd.R ⟨W, fun _ => 0⟩ cs.toList y ∧ wf y := by
  obtain ⟨cs, rfl⟩ := okWide_agg ht hv
  obtain ⟨fuel, hf⟩ := h
  obtain ⟨y, hy, hw⟩ := hR enc fuel _ _ hf
  exact ⟨cs, y, rfl, hy, hw⟩

theorem agg_of {cs : Array Value} {segs : List (List Value)} (h : cs.toList = segs.flatten) : Value.agg cs = AG segs := by
  unfold AG
  rw [← h]
end
end Go.Lab
