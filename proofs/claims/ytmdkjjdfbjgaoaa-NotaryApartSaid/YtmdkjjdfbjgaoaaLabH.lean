/-
  The rule for regions whose order is open, in the form that the generator prints.
-/
import Derived.Test.YtmdkjjdfbjgaoaaLabP
import Derived.Test.YtmdkjjdfbjgaoaaLabG
namespace Go.Lab
open Go.RowKit

def AllF (C : RF → Prop) : List RF → Prop
  | [] => True
  | f :: fs => C f ∧ AllF C fs

theorem AllF.mem {C : RF → Prop} : ∀ {fs : List RF}, AllF C fs → ∀ f ∈ fs, C f
  | [], _, f, hf => by cases hf
  | _ :: _, ⟨h, k⟩, f, hf => by
    rcases List.mem_cons.1 hf with rfl | hf
    · exact h
    · exact AllF.mem k f hf

def sameB : Option Nat → Option Nat → Bool
  | none, none => true
  | some a, some b => Nat.beq a b
  | _, _ => false

theorem sameB_of {a b : Option Nat} (h : a = b) : sameB a b = true := by
  subst h
  cases a with
  | none => rfl
  | some a => exact Nat.beq_refl a

def atB (b : Bool) (X : Prop) : Prop := match b with | true => X | false => True

theorem bool_split {b : Bool} {p : Prop} (t : b = true → p) (f : b = false → p) : p := by
  cases b
  · exact f rfl
  · exact t rfl

theorem len_succ {α : Type} {n : Nat} {l : List α} (h : l.length = n + 1) : ∃ a r, l = a :: r ∧ r.length = n := by
  cases l with
  | nil => simp at h
  | cons a r => exact ⟨a, r, rfl, by simpa using h⟩

theorem len_zero {α : Type} {l : List α} (h : l.length = 0) : l = [] := List.eq_nil_of_length_eq_zero h

theorem setI_length {α : Type} (l : List α) (i : Int) (x : α) : (setI l i x).length = l.length := by simp [setI]

theorem WL.no {ls : List Nat} {a : Nat} (h : a ∉ ls) : ¬ WL ls a := h
theorem Step.up {M : Nat → Prop} {ls : List Nat} {a b : GW} (h : Step (WL ls) a b) (k : ∀ l ∈ ls, M l) : Step M a b := h.mono k
theorem Step.toNo {a b : GW} (h : Step (WL []) a b) : Step NoM a b := h.mono (fun x hx => by simp [WL] at hx)
theorem lt1 {p : Nat} (h : p < 1) : p = 0 := by omega

section
variable {P : Program} {Q : Exit → Act → World → Prop} {tm0 : List Value} {g : GW} {ops : List Oper}

theorem CP.drawL {id : Nat} (hm : P.follows .mixedOrders = true) (ld : List Nat) (anc : List (List Nat)) (fs : List RF) (wr : List (List Nat)) (lab : List Nat) (closed opn : List Nat)
    (hc : chk ops ld anc tm0.length fs wr = true) (h0 : 0 ∉ lab) (hnd : lab.Nodup) (hst : AllF (Stab lab) fs) (hinit : AllF (fun f => atB (sameB f.b none) (f.R [] g)) fs)
    (hcov : ((List.range ops.length).all fun i => ld.contains i || closed.contains i || opn.contains i) = true)
    (hclosed : ∀ vs, (closed.all fun i => ((ops[i]?).bind (opVal P ops (ev (cfOf P ops ld anc tm0 i vs)))).isSome) = true)
    (hopn : ∀ j, j < opn.length → ∀ vs g', Step (WL lab) g g' → vs.length = ld.length → (∀ f ∈ fs, needB ld anc wr (opn.getD j 0) f = true → f.R (f.sup.map fun s => vs.getD s undef) g') →
      ((ops[opn.getD j 0]?).bind (opVal P ops (ev (cfOf P ops ld anc tm0 (opn.getD j 0) vs)))).isSome = true)
    (hloud : ∀ p, p < ld.length → ∀ vs g', Step (WL lab) g g' → vs.length = ld.length → (∀ f ∈ fs, needB ld anc wr (ldAt ld p) f = true → f.R (f.sup.map fun s => vs.getD s undef) g') →
      WP P (ops.take (ldAt ld p + 1)) (Shown P ops ld anc tm0 fs wr lab p vs g') (ldAt ld p) (cfOf P ops ld anc tm0 (ldAt ld p) vs) g')
    (hend : ∀ vs g', Step (WL lab) g g' → vs.length = ld.length → (∀ f ∈ fs, endB ld wr f = true → f.R (f.sup.map fun s => vs.getD s undef) g') → NX Q .normal (cfAll P ops ld tm0 vs) g') :
    CP P (.region id ops.toArray true) Q tm0 g :=
  CP.draw hm ld anc fs wr lab closed opn hc h0 hnd hst.mem
    (fun f hf hb => by have := hinit.mem f hf; rw [hb] at this; exact this) hcov hclosed hopn hloud hend

theorem Shown.ok {ld : List Nat} {anc : List (List Nat)} {fs : List RF} {wr : List (List Nat)} {lab : List Nat} {p : Nat} {vs : List Value} {g1 g2 : GW} {tm : List Value} {v : Value}
    (htm : tm = putL (cfOf P ops ld anc tm0 (ldAt ld p) vs) (dsts ops (ldAt ld p)) v) (st : Step (WL (SW lab (wrAt wr p))) g1 g2)
    (hf : AllF (fun f => atB (sameB f.b (some p)) (f.R (f.sup.map fun s => (vs.set p v).getD s undef) g2)) fs) : NX (Shown P ops ld anc tm0 fs wr lab p vs g1) .normal tm g2 := by
  subst htm
  exact ⟨rfl, v, g2, rfl, rfl, st, fun f hm hb => by have := hf.mem f hm; rw [sameB_of hb] at this; exact this⟩
end
end Go.Lab
