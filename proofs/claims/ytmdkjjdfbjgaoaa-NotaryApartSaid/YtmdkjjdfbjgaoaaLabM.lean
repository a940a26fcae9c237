/-
  Short forms of rules, for shorter walks.
-/
import Derived.Test.YtmdkjjdfbjgaoaaLabK
import Derived.KernelRfl
namespace Go.Lab
open Go.RowKit
set_option linter.unusedVariables false

section
variable {P : Program} {Q : Exit → Act → World → Prop} {tm tm0 : List Value} {g : GW} {ops : List Oper} {n : Nat}

theorem memI {α : Type} {l : List α} {a : α} (i : Nat) (h : l[i]? = some a) : a ∈ l := List.mem_of_getElem? h
theorem tv : True := trivial

theorem WP.stl (k : Nat) (h2 : WP P ops Q (n + k) ((runS P ops ((ops.drop n).take k) tm).getD []) g)
    (h : (runS P ops ((ops.drop n).take k) tm).isSome = true := by kernel_rfl) : WP P ops Q n tm g := WP.still k h h2

theorem WP.dn (h : NX Q .normal tm g) (hl : ops.length = n := by kernel_rfl) : WP P ops Q n tm g := WP.done hl h

theorem Shown.o {ld : List Nat} {anc : List (List Nat)} {fs : List RF} {wr : List (List Nat)} {lab : List Nat} {p : Nat} {vs : List Value} {g1 g2 : GW} {tm : List Value} {v : Value}
    (st : Step (WL (SW lab (wrAt wr p))) g1 g2)
    (hf : AllF (fun f => atB (sameB f.b (some p)) (f.R (f.sup.map fun s => (vs.set p v).getD s undef) g2)) fs)
    (htm : tm = putL (cfOf P ops ld anc tm0 (ldAt ld p) vs) (dsts ops (ldAt ld p)) v := by kernel_rfl) : NX (Shown P ops ld anc tm0 fs wr lab p vs g1) .normal tm g2 := Shown.ok htm st hf
end
end Go.Lab
