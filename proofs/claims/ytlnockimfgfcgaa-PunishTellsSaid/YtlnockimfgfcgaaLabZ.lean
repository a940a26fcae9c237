/-
  How long what is read of the arguments may be: no longer than what a machine holds.
-/
import Derived.Test.YtlnockimfgfcgaaLabW
import Derived.SizedLaws
namespace Go.Lab
open Go.RowKit Go.WideShapes

section
variable {P : Program} {W : World}

theorem part_sized {H : Type} {ts : List TypeId} {ds : List (DataW H)} (h : (DataW.weightsEach P ts ds).all (· ≤ reachBytes) = true) {j : Nat} {t : TypeId} {d : DataW H} (ht : ts[j]? = some t) (hd : ds[j]? = some d) :
    (d.weights P t).all (· ≤ reachBytes) = true :=
  List.all_eq_true.2 fun n hn => List.all_eq_true.1 h n (DataW.weights_mem_each ht hd n hn)

/-- As 'Reads', of data of a size that a machine holds. -/
def ReadsZ {α : Type} (P : Program) (W : World) (t : TypeId) (kd : Kd α) (wf : α → Prop) : Prop :=
  ∀ {H : Type} (enc : TypeId × Value → H) (fuel : Nat) (cs : List Value) (x : DataW H × List MemPlace),
    DataW.trod enc P W 0 (fun _ => true) true fuel t cs = some x → (x.1.weights P t).all (· ≤ reachBytes) = true → ∃ y, kd.R ⟨W, fun _ => 0⟩ cs y ∧ wf y

theorem Reads.sliceZ {α : Type} {kd : Kd α} {wf : α → Prop} {t e : TypeId} (ht : P.underlying t = some (.slice e)) (hb : P.bytesOf e = 1) (hR : Reads P W t (Kd.slice e kd) fun xs => xs.length ≤ maxLen ∧ ∀ x ∈ xs, wf x) :
    ReadsZ P W t (Kd.slice e kd) fun xs => (xs.length ≤ maxLen ∧ ∀ x ∈ xs, wf x) ∧ xs.length ≤ reachBytes := by
  intro H enc fuel cs x h hz
  obtain ⟨y, hy, hw⟩ := hR enc fuel cs x h
  refine ⟨y, hy, hw, ?_⟩
  obtain ⟨a', n', c', hcs', hS⟩ := hy
  have hlen : y.length = n' := hS.len
  rcases DataW.trod_slice ht h with ⟨hcs, _⟩ | ⟨a, len, cap, elems, rest, n, _, hcs, hx, hb', hl, hm, hle, hel, _, _⟩
  · rw [hcs] at hcs'
    simp at hcs'
    omega
  · rw [hcs] at hcs'
    simp at hcs'
    rw [hx] at hz
    have := List.all_eq_true.1 hz ((elems.length + rest.length) * P.bytesOf e) (by simp [DataW.weights, ht])
    rw [hb, Nat.mul_one] at this
    simp at this
    omega

theorem arg_aggZ {α : Type} {kd : Kd α} {wf : α → Prop} {H : Type} {enc : TypeId × Value → H} {t : TypeId} (ht : (match P.underlying t with | some (.struct _) | some (.array _ _) => true | _ => false) = true) (hR : ReadsZ P W t kd wf)
    {r : Reach} {b0 : Nat} {v : Value} {d : DataW H} {ps : List MemPlace} (hv : Value.okWide P W r b0 t v) (h : DataW.Trod enc P W 0 (fun _ => true) true t v d ps) (hz : (d.weights P t).all (· ≤ reachBytes) = true) :
    ∃ cs y, v = .agg cs ∧ kd.R ⟨W, fun _ => 0⟩ cs.toList y ∧ wf y := by
  obtain ⟨cs, rfl⟩ := okWide_agg ht hv
  obtain ⟨fuel, hf⟩ := h
  obtain ⟨y, hy, hw⟩ := hR enc fuel _ _ hf hz
  exact ⟨cs, y, rfl, hy, hw⟩
end
end Go.Lab
