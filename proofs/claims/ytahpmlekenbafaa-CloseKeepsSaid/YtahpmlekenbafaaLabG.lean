/-
  More rules: what the generator's lines use.
-/
import Derived.Test.YtahpmlekenbafaaLabE
namespace Go.Lab
open Go.RowKit

section
variable {P : Program} {Q : Exit → Act → World → Prop} {tm tm' : List Value} {g g' : GW} {c c1 c2 : Code} {ops : List Oper} {n : Nat}

theorem RdS.at {α : Type} {kd : Kd α} {e : TypeId} {a : Option Addr} {m cap : Nat} {xs : List α} (hR : RdS kd g e a m cap xs) {i : Int} (h0 : 0 ≤ i ∧ i < (xs.length : Int)) :
    ∃ b off, a = some ⟨b, off, none⟩ := by
  obtain ⟨hl, cells, h2, h3, h4⟩ := hR
  rcases h4 with ⟨_, hc⟩ | ⟨p, rfl, h4 | ⟨b, off, cur, e', fr, rfl, _⟩⟩
  · omega
  · omega
  · exact ⟨b, off, rfl⟩

theorem OwnS.at {α : Type} {kd : Kd α} {l : Nat} {e : TypeId} {a : Option Addr} {m cap : Nat} {xs : List α} (hO : OwnS kd g l e a m cap xs) {i : Int} (h0 : 0 ≤ i ∧ i < (xs.length : Int)) :
    ∃ b off, a = some ⟨b, off, none⟩ := by
  obtain ⟨hl, cells, h2, h3, h4⟩ := hO
  rcases h3.2 with ⟨_, hn⟩ | ⟨b, cap', cur, hv, _⟩
  · omega
  · simp only [Value.slice.injEq] at hv
    obtain ⟨rfl, _, _⟩ := hv
    exact ⟨b, 0, rfl⟩

theorem RdS.nilOr {α : Type} {kd : Kd α} {e : TypeId} {a : Option Addr} {m cap : Nat} {xs : List α} (hR : RdS kd g e a m cap xs) :
    (a = none ∧ m = 0 ∧ cap = 0 ∧ xs = []) ∨ ∃ p, a = some p := by
  obtain ⟨hl, cells, h2, h3, h4⟩ := hR
  rcases h4 with ⟨ha, hc⟩ | ⟨p, rfl, _⟩
  · have hm : m = 0 := by omega
    exact .inl ⟨ha, hm, hc, List.eq_nil_of_length_eq_zero (by omega)⟩
  · exact .inr ⟨p, rfl⟩

theorem WP.indexA {α : Type} {t e : TypeId} {sz : Nat} {a : Option Addr} {m cap b off : Nat} {xs : List α} (hl : xs.length = m) (ha : a = some ⟨b, off, none⟩) {k : IntKind} {i : Int}
    (hi : ixAt ops n tm = some (t, .slice a m cap, .int k i)) (ht : slElem P t = some (e, sz)) (h0 : 0 ≤ i ∧ i < (xs.length : Int))
    (h : WP P ops Q (n + 1) (putL tm (dstOf ops n) (.pointer (some ⟨b, off + i.toNat * sz, none⟩))) g) : WP P ops Q n tm g := by
  subst ha
  exact WP.indexSl hi ht h0.1 (by omega) h
end

theorem all_nil {α : Type} {p : α → Prop} : ∀ v ∈ ([] : List α), p v := fun v hv => by cases hv
theorem all_cons {α : Type} {p : α → Prop} {a : α} {l : List α} (h : p a) (t : ∀ v ∈ l, p v) : ∀ v ∈ a :: l, p v := fun v hv => by
  rcases List.mem_cons.1 hv with rfl | hv
  · exact h
  · exact t v hv
theorem Kd.o_int {g : GW} {k : IntKind} {cs : List Value} {x : Int} (h : (Kd.int k).R g cs x) : cs = [[.int k x]].flatten := h
theorem Kd.o_bool {g : GW} {cs : List Value} {x : Bool} (h : Kd.bool.R g cs x) : cs = [[.bool x]].flatten := h
theorem Kd.o_str {g : GW} {cs : List Value} {x : ByteArray} (h : Kd.str.R g cs x) : cs = [[.string x]].flatten := h
theorem Kd.o_arr {g : GW} {m : Nat} {k : IntKind} {cs : List Value} {x : Arr Int m} (h : (Kd.arrI m k).R g cs x) : cs = [encA k x].flatten := by
  have h' : cs = encA k x := h
  simp [h']
theorem Kd.o_sl {α : Type} {kd : Kd α} {e : TypeId} {g : GW} {cs : List Value} {xs : List α} (h : (Kd.slice e kd).R g cs xs) :
    ∃ a n c, cs = [[.slice a n c]].flatten ∧ RdS kd g e a n c xs := h
theorem Kd.mk_arr {g : GW} {m : Nat} {k : IntKind} (x : Arr Int m) : (Kd.arrI m k).R g (AG [encA k x]).cells.toList x := by
  show (AG [encA k x]).cells.toList = encA k x
  simp [AG, Value.cells]
end Go.Lab
