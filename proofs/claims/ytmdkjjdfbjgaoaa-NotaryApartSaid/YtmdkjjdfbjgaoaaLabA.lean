/-
  The small logic under the walks: worlds with ghost labels, frames as lists, and one rule for each form of code.
-/
import Derived.Tactics
import Derived.KernelRfl
import Derived.Below
import Derived.Scope
import Derived.Laws.Tables
import Derived.Laws.Rows
import Derived.Laws.AppendOwn
namespace Go.Lab
open Go.RowKit

/-- What a `Sem` that looks at nothing but the program comes to. -/
def evalS {α : Type} (P : Program) : Sem α → Option α
  | .pure a => some a
  | .program k => evalS P (k P)
  | .mark _ k => evalS P k
  | _ => none

theorem evalS_run {α : Type} {P : Program} : ∀ {s : Sem α} {a : α}, evalS P s = some a → ∀ w, s.run P w = .ok a w
  | .pure a, b, h, w => by simp only [evalS, Option.some.injEq] at h; subst h; rfl
  | .program k, a, h, w => by unfold evalS at h; unfold Sem.run; exact evalS_run h w
  | .mark m k, a, h, w => by unfold evalS at h; unfold Sem.run; exact evalS_run h w

/-- A world, and a label for each block. -/
structure GW where
  w : World
  L : Nat → Nat

/-- From one world to a later one: blocks whose label is not in M are as they were. -/
structure Step (M : Nat → Prop) (g g' : GW) : Prop where
  os : g'.w.os = g.w.os
  tape : g'.w.tape = g.w.tape
  output : g'.w.output = g.w.output
  size : g.w.heap.size ≤ g'.w.heap.size
  lab : ∀ k, k < g.w.heap.size → ¬ M (g.L k) → g'.L k = g.L k
  old : ∀ k, k < g.w.heap.size → ¬ M (g.L k) → g'.w.heap[k]? = g.w.heap[k]?

def NoM : Nat → Prop := fun _ => False

theorem Step.refl (M : Nat → Prop) (g : GW) : Step M g g := ⟨rfl, rfl, rfl, Nat.le_refl _, fun _ _ _ => rfl, fun _ _ _ => rfl⟩

theorem Step.trans {M : Nat → Prop} {a b c : GW} (h : Step M a b) (k : Step M b c) : Step M a c :=
  ⟨k.os.trans h.os, k.tape.trans h.tape, k.output.trans h.output, Nat.le_trans h.size k.size,
   fun i hi hm => (k.lab i (Nat.lt_of_lt_of_le hi h.size) (by rw [h.lab i hi hm]; exact hm)).trans (h.lab i hi hm),
   fun i hi hm => (k.old i (Nat.lt_of_lt_of_le hi h.size) (by rw [h.lab i hi hm]; exact hm)).trans (h.old i hi hm)⟩

theorem Step.mono {M N : Nat → Prop} {a b : GW} (h : Step M a b) (hm : ∀ l, M l → N l) : Step N a b :=
  ⟨h.os, h.tape, h.output, h.size, fun i hi hn => h.lab i hi (fun x => hn (hm _ x)), fun i hi hn => h.old i hi (fun x => hn (hm _ x))⟩

theorem Step.pure {M : Nat → Prop} {a b : GW} (h : Step NoM a b) : Step M a b := h.mono (fun _ x => x.elim)

/-- What a call has done in all, seen from its begin: labels from t on are its own. -/
theorem Step.tot {M : Nat → Prop} {t : Nat} {a b : GW} (h : Step (fun l => M l ∨ t ≤ l) a b) (ht : ∀ k, k < a.w.heap.size → a.L k < t) : Step M a b :=
  ⟨h.os, h.tape, h.output, h.size, fun i hi hn => h.lab i hi (fun x => x.elim hn (fun y => by have := ht i hi; omega)),
   fun i hi hn => h.old i hi (fun x => x.elim hn (fun y => by have := ht i hi; omega))⟩

theorem Step.below {g g' : GW} (h : Step NoM g g') : Below g.w.heap.size g.w g'.w :=
  ⟨h.os, h.tape, h.output, h.size, fun k hk => h.old k hk (fun x => x)⟩

/-- There is a label above all that are in use. -/
theorem fresh_label (g : GW) (n : Nat) : ∃ t, n ≤ t ∧ ∀ k, k < g.w.heap.size → g.L k < t := by
  generalize g.w.heap.size = s
  induction s with
  | zero => exact ⟨n, Nat.le_refl _, fun k hk => absurd hk (by omega)⟩
  | succ s ih =>
    obtain ⟨t, h1, h2⟩ := ih
    refine ⟨max t (g.L s + 1), by omega, fun k hk => ?_⟩
    by_cases e : k = s
    · subst e; omega
    · have := h2 k (by omega); omega

/-! ### Frames -/

/-- A frame of n slots: the live ones as listed, of the others nothing is known. -/
def bld (n : Nat) (live : List (Nat × Value)) (ds : Nat → Value) : List Value :=
  (List.range n).map fun i => match live.lookup i with | some v => v | none => ds i

def Fr (n : Nat) (live : List (Nat × Value)) (tm : List Value) : Prop :=
  tm.length = n ∧ live.map (fun p => tm[p.1]?) = live.map (fun p => some p.2)

theorem Fr.open {n : Nat} {live : List (Nat × Value)} {tm : List Value} (h : Fr n live tm) : ∃ ds, tm = bld n live ds := by
  obtain ⟨h1, h2⟩ := h
  refine ⟨fun i => tm.getD i undef, ?_⟩
  apply List.ext_getElem?
  intro i
  unfold bld
  simp only [List.getElem?_map]
  by_cases hi : i < n
  · rw [List.getElem?_range hi]
    simp only [Option.map_some]
    have key : ∀ (l : List (Nat × Value)), l.map (fun p => tm[p.1]?) = l.map (fun p => some p.2) →
        ∀ v, l.lookup i = some v → tm[i]? = some v := by
      intro l
      induction l with
      | nil => intro _ v hv; simp at hv
      | cons p l ih =>
        intro hl v hv
        simp only [List.map_cons, List.cons.injEq] at hl
        obtain ⟨p1, p2⟩ := p
        simp only [List.lookup_cons] at hv
        split at hv
        · rename_i he
          have he' : i = p1 := by simpa using he
          subst he'
          cases hv
          exact hl.1
        · exact ih hl.2 v hv
    cases hlk : live.lookup i with
    | some v => simp only []; exact key live h2 v hlk
    | none => simp only []; have : i < tm.length := by omega
              simp [List.getD, List.getElem?_eq_getElem this]
  · rw [List.getElem?_eq_none (by omega), List.getElem?_eq_none (by simp; omega)]
    rfl

/-- An operand's value. -/
def ev (tm : List Value) : Operand → Value
  | .tmp t => (tm[t]?).getD undef
  | .const v => v
  | .global g => .pointer (some ⟨g, 0, none⟩)
  | .func f => .func (.func f) #[] #[]

theorem eval_eq (tm : List Value) (d : List Deferred) : Act.eval ⟨tm.toArray, d⟩ = ev tm := by
  funext x
  cases x <;> simp [Act.eval, ev, Array.getD_eq_getD_getElem?]

def putL (tm : List Value) (d : Option Tmp) (v : Value) : List Value :=
  match d with
  | some d => tm.set d v
  | none => tm

theorem put_eq (tm : List Value) (d : Option Tmp) (v : Value) (ds : List Deferred) : Act.put ⟨tm.toArray, ds⟩ d v = ⟨(putL tm d v).toArray, ds⟩ := by
  cases d <;> simp [Act.put, putL]

/-! ### Code -/

def CP (P : Program) (c : Code) (Q : Exit → Act → World → Prop) (tm : List Value) (g : GW) : Prop := c.wp P Q ⟨tm.toArray, []⟩ g.w

/-- A region's operations from number n on. -/
def WP (P : Program) (ops : List Oper) (Q : Exit → Act → World → Prop) (n : Nat) (tm : List Value) (g : GW) : Prop :=
  wpList P ops.toArray Q (ops.drop n) ⟨tm.toArray, []⟩ g.w

def NX (Q : Exit → Act → World → Prop) (e : Exit) (tm : List Value) (g : GW) : Prop := Q e ⟨tm.toArray, []⟩ g.w

section
variable {P : Program} {Q : Exit → Act → World → Prop} {tm tm' : List Value} {g : GW} {c c1 c2 : Code} {ops : List Oper} {n : Nat}

theorem CP.seqR {id : Nat} (h : WP P ops (Exit.then (c2.wp P Q) Q) 0 tm g) : CP P (.seq (.region id ops.toArray false) c2) Q tm g :=
  wp_seq (wp_region_lit h)
theorem CP.region {id : Nat} (h : WP P ops Q 0 tm g) : CP P (.region id ops.toArray false) Q tm g := wp_region_lit h
theorem CP.seq (h : CP P c1 (Exit.then (c2.wp P Q) Q) tm g) : CP P (.seq c1 c2) Q tm g := wp_seq h
theorem CP.skip (h : NX Q .normal tm g) : CP P .skip Q tm g := wp_skip h
theorem CP.label {l : Nat} (h : NX Q .normal tm g) : CP P (.label l) Q tm g := wp_label h
theorem CP.exit {id : Nat} (h : NX Q (.exit id) tm g) : CP P (.exit id) Q tm g := wp_exit h
theorem CP.ret (h : NX Q .ret tm g) : CP P .ret Q tm g := wp_ret h
theorem CP.block {id : Nat} (h : CP P c (Exit.inBlock id Q) tm g) : CP P (.block id c) Q tm g := wp_block h
theorem CP.scope (h : CP P c (Exit.noGoto Q) tm g) : CP P (.scope c) Q tm g := wp_scope_straight h
theorem CP.frame (he : tm = tm') (h : CP P c Q tm' g) : CP P c Q tm g := he ▸ h
theorem CP.cond {x : Operand} {b : Bool} (hc : ev tm x = .bool b) (ht : b = true → CP P c1 Q tm g) (hf : b = false → CP P c2 Q tm g) :
    CP P (.cond x c1 c2) Q tm g := by
  refine wp_cond_split (t := b) ?_ ht hf
  rw [eval_eq]; exact hc
theorem CP.cond_t {x : Operand} (hc : ev tm x = .bool true) (h : CP P c1 Q tm g) : CP P (.cond x c1 c2) Q tm g := wp_cond_true (by rw [eval_eq]; exact hc) h
theorem CP.cond_f {x : Operand} (hc : ev tm x = .bool false) (h : CP P c2 Q tm g) : CP P (.cond x c1 c2) Q tm g := wp_cond_false (by rw [eval_eq]; exact hc) h

theorem NX.then_n (h : CP P c Q tm g) : NX (Exit.then (c.wp P Q) Q) .normal tm g := h
theorem NX.then_j {J : Act → World → Prop} (h : J ⟨tm.toArray, []⟩ g.w) : NX (Exit.then J Q) .normal tm g := h
theorem NX.then_e {J : Act → World → Prop} {i : Nat} (h : NX Q (.exit i) tm g) : NX (Exit.then J Q) (.exit i) tm g := h
theorem NX.then_r {J : Act → World → Prop} (h : NX Q .ret tm g) : NX (Exit.then J Q) .ret tm g := h
theorem NX.block_n {i : Nat} (h : NX Q .normal tm g) : NX (Exit.inBlock i Q) .normal tm g := h
theorem NX.block_r {i : Nat} (h : NX Q .ret tm g) : NX (Exit.inBlock i Q) .ret tm g := h
theorem NX.block_s {i : Nat} (h : NX Q .normal tm g) : NX (Exit.inBlock i Q) (.exit i) tm g := by
  unfold NX at *; simp only [Exit.inBlock, if_true]; exact h
theorem NX.block_o {i j : Nat} (hne : (j == i) = false) (h : NX Q (.exit j) tm g) : NX (Exit.inBlock i Q) (.exit j) tm g := by
  unfold NX at *; simp only [Exit.inBlock]; rw [if_neg (by simpa using hne)]; exact h
theorem NX.scope_n (h : NX Q .normal tm g) : NX (Exit.noGoto Q) .normal tm g := h
theorem NX.scope_r (h : NX Q .ret tm g) : NX (Exit.noGoto Q) .ret tm g := h
theorem NX.scope_e {i : Nat} (h : NX Q (.exit i) tm g) : NX (Exit.noGoto Q) (.exit i) tm g := h

/-- An assertion, as a post on frames and worlds. -/
def Post (I : List Value → GW → Prop) : Act → World → Prop := fun a w => ∃ tm g, a = ⟨tm.toArray, []⟩ ∧ w = g.w ∧ I tm g

theorem NX.post {I : List Value → GW → Prop} (h : I tm g) : NX (Exit.then (Post I) Q) .normal tm g := ⟨tm, g, rfl, rfl, h⟩

/-- The ways of the first part meet again in I. -/
theorem CP.cut (I : List Value → GW → Prop) (h1 : CP P c1 (Exit.then (Post I) Q) tm g) (h2 : ∀ tm g, I tm g → CP P c2 Q tm g) : CP P (.seq c1 c2) Q tm g := by
  refine wp_seq (wp_mono h1 ?_)
  intro e a w hq
  cases e <;> try exact hq
  obtain ⟨tm', g', rfl, rfl, hI⟩ := hq
  exact h2 tm' g' hI

/-- A loop, by a number that falls. -/
theorem CP.loop (I : Nat → List Value → GW → Prop) (k : Nat) (h0 : I k tm g) (hz : ∀ tm g, ¬ I 0 tm g)
    (hs : ∀ k tm g, I (k + 1) tm g → CP P c (Exit.then (Post (I k)) Q) tm g) : CP P (.loop c) Q tm g := by
  intro b K cs
  have key : ∀ (n : Nat) (tm : List Value) (g : GW), I n tm g →
      ∃ e a' w', Q e a' w' ∧ Arrives P (lone (b.at ⟨tm.toArray, []⟩ (.code c :: .inLoop c :: K)) cs g.w) b K cs e a' w' := by
    intro n
    induction n with
    | zero => intro tm g h; exact absurd h (hz tm g)
    | succ n ih =>
      intro tm g hI
      obtain ⟨e, a₁, w₁, hq, harr⟩ := hs n tm g hI b (.inLoop c :: K) cs
      cases e with
      | normal =>
        obtain ⟨tm', g', rfl, rfl, hI'⟩ := hq
        obtain ⟨e₂, a₂, w₂, hq₂, harr₂⟩ := ih tm' g' hI'
        exact ⟨e₂, a₂, w₂, hq₂, .of_steps (Steps.trans harr (.one step_inLoop)) harr₂⟩
      | exit id => exact ⟨_, a₁, w₁, hq, .pass (x := .inLoop c) rfl (fun _ _ => .inl (by simp)) harr⟩
      | goto l => exact ⟨_, a₁, w₁, hq, .pass (x := .inLoop c) rfl (fun _ _ => .inl (by simp)) harr⟩
      | ret => exact ⟨_, a₁, w₁, hq, .pass (x := .inLoop c) rfl (fun _ _ => .inl (by simp)) harr⟩
      | panic ch => exact ⟨_, a₁, w₁, hq, .pass (x := .inLoop c) rfl (fun _ _ => .inl (by simp)) harr⟩
      | outgrown => exact ⟨_, a₁, w₁, hq, .pass (x := .inLoop c) rfl (fun _ _ => .inl (by simp)) harr⟩
  obtain ⟨e, a', w', hq, harr⟩ := key k tm g h0
  exact ⟨e, a', w', hq, .of_steps (.one step_loop) harr⟩

/-! ### A call's begin and end -/

theorem calls_enter {f : FuncId} {fn : Func} {c : Code} {args : List Value} {R : Ending → World → Prop} (hf : P.funcs[f]? = some fn) (hb : fn.body = some c)
    (h : CP P c (bodyPost P fn R) (args ++ List.replicate (fn.ntmps - args.length) undef) g) : Calls P f args.toArray g.w R := by
  refine calls_of_wp hf hb ?_
  unfold CP at h
  have : (args ++ List.replicate (fn.ntmps - args.length) undef).toArray = args.toArray ++ Array.replicate (fn.ntmps - args.toArray.size) undef := by simp
  rw [← this]
  exact h

/-- What a function's results are read as. -/
theorem NX.body_ret {fn : Func} {R : Ending → World → Prop} {v : Value} (hr : (results fn tm.toArray).run P g.w = .ok v g.w) (h : R (.returned v) g.w) :
    NX (bodyPost P fn R) .ret tm g := ⟨rfl, v, hr, h⟩
theorem NX.body_end {fn : Func} {R : Ending → World → Prop} {v : Value} (hr : (results fn tm.toArray).run P g.w = .ok v g.w) (h : R (.returned v) g.w) :
    NX (bodyPost P fn R) .normal tm g := ⟨rfl, v, hr, h⟩

/-! ### A region's operations -/

/-- Operations that look at nothing but the program, one behind the other. -/
def runS (P : Program) (ops : List Oper) : List Oper → List Value → Option (List Value)
  | [], tm => some tm
  | o :: r, tm =>
    if Region.wanted o (yielded ops.toArray tm.toArray) then
      match evalS P (execOp (ev tm) o) with
      | some (.value v) => runS P ops r (putL tm o.dst v)
      | _ => none
    else runS P ops r (putL tm o.dst undef)

theorem runS_wp {ops : List Oper} : ∀ (l1 l2 : List Oper) {tm tm' : List Value}, runS P ops l1 tm = some tm' →
    wpList P ops.toArray Q l2 ⟨tm'.toArray, []⟩ g.w → wpList P ops.toArray Q (l1 ++ l2) ⟨tm.toArray, []⟩ g.w
  | [], l2, tm, tm', h, hw => by simp only [runS, Option.some.injEq] at h; subst h; exact hw
  | o :: r, l2, tm, tm', h, hw => by
    simp only [runS] at h
    simp only [List.cons_append, wpList]
    split
    · rename_i hwd
      rw [if_pos hwd] at h
      cases hs : evalS P (execOp (ev tm) o) with
      | none => rw [hs] at h; exact absurd h (by simp)
      | some nx =>
        rw [hs] at h
        cases nx <;> simp only [reduceCtorEq] at h
        left
        unfold Oper.wp
        rw [eval_eq, evalS_run hs g.w]
        simp only [Oper.upon, put_eq]
        exact runS_wp r l2 h hw
    · rename_i hwd
      rw [if_neg hwd] at h
      rw [put_eq]
      exact runS_wp r l2 h hw

/-- k operations that look at nothing but the program. -/
theorem WP.still (k : Nat) (h : (runS P ops ((ops.drop n).take k) tm).isSome = true)
    (h2 : WP P ops Q (n + k) ((runS P ops ((ops.drop n).take k) tm).getD []) g) : WP P ops Q n tm g := by
  cases hr : runS P ops ((ops.drop n).take k) tm with
  | none => rw [hr] at h; exact absurd h (by simp)
  | some tm' =>
    rw [hr] at h2
    simp only [Option.getD_some] at h2
    unfold WP at *
    have := runS_wp (Q := Q) (g := g) _ (ops.drop (n + k)) hr h2
    rw [← List.drop_drop, List.take_append_drop] at this
    exact this

theorem WP.done (hl : ops.length = n) (h : NX Q .normal tm g) : WP P ops Q n tm g := by
  unfold WP
  rw [List.drop_eq_nil_of_le (by omega)]
  exact h

/-- What an operation is: where its value goes, what it does, that it has no guard. -/
def opAt (ops : List Oper) (n : Nat) : Option (Option Tmp × Op × TypeId) :=
  match ops[n]? with
  | some o => if o.guard.isNone then some (o.dst, o.op, o.type) else none
  | none => none

/-- Number n is wanted (it has no guard, or its guard says so). -/
def opOn (ops : List Oper) (n : Nat) (tm : List Value) : Option (Option Tmp × Op × TypeId) :=
  match ops[n]? with
  | some o => if Region.wanted o (yielded ops.toArray tm.toArray) then some (o.dst, o.op, o.type) else none
  | none => none

/-- One operation, by what its run comes to. -/
theorem WP.one {d : Option Tmp} {op : Op} {ty : TypeId} (ho : opOn ops n tm = some (d, op, ty)) {v : Value} {g' : GW}
    (hr : ∀ o : Oper, o.op = op → o.type = ty → (execOp (ev tm) o).run P g.w = .ok (.value v) g'.w) (h : WP P ops Q (n + 1) (putL tm d v) g') : WP P ops Q n tm g := by
  unfold opOn at ho
  cases hn : ops[n]? with
  | none => rw [hn] at ho; exact absurd ho (by simp)
  | some o =>
    rw [hn] at ho
    simp only [] at ho
    split at ho
    · rename_i hwd
      simp only [Option.some.injEq, Prod.mk.injEq] at ho
      obtain ⟨rfl, rfl, rfl⟩ := ho
      have hlt : n < ops.length := (List.getElem?_eq_some_iff.1 hn).1
      have he : ops[n] = o := (List.getElem?_eq_some_iff.1 hn).2
      unfold WP at *
      rw [List.drop_eq_getElem_cons hlt, he]
      simp only [wpList]
      rw [if_pos hwd]
      left
      unfold Oper.wp
      rw [eval_eq, hr o rfl rfl]
      simp only [Oper.upon, put_eq]
      exact h
    · exact absurd ho (by simp)

theorem WP.oneS {d : Option Tmp} {op : Op} {ty : TypeId} (ho : opOn ops n tm = some (d, op, ty)) {g' : GW}
    (hr : ∀ o : Oper, o.op = op → o.type = ty → (execOp (ev tm) o).run P g.w = .ok .skip g'.w) (h : WP P ops Q (n + 1) (putL tm d undef) g') : WP P ops Q n tm g := by
  unfold opOn at ho
  cases hn : ops[n]? with
  | none => rw [hn] at ho; exact absurd ho (by simp)
  | some o =>
    rw [hn] at ho
    simp only [] at ho
    split at ho
    · rename_i hwd
      simp only [Option.some.injEq, Prod.mk.injEq] at ho
      obtain ⟨rfl, rfl, rfl⟩ := ho
      have hlt : n < ops.length := (List.getElem?_eq_some_iff.1 hn).1
      have he : ops[n] = o := (List.getElem?_eq_some_iff.1 hn).2
      unfold WP at *
      rw [List.drop_eq_getElem_cons hlt, he]
      simp only [wpList]
      rw [if_pos hwd]
      left
      unfold Oper.wp
      rw [eval_eq, hr o rfl rfl]
      simp only [Oper.upon, put_eq]
      exact h
    · exact absurd ho (by simp)

/-- A call of a Go function. -/
theorem WP.call {d : Option Tmp} {op : Op} {ty : TypeId} (ho : opOn ops n tm = some (d, op, ty)) {f : FuncId} {args : Array Value} {R : Ending → World → Prop}
    (hr : ∀ o : Oper, o.op = op → o.type = ty → ∀ w, (execOp (ev tm) o).run P w = .ok (.enter f args) w) (hc : Calls P f args g.w R)
    (h : ∀ e w', R e w' → ∃ v g', e = .returned v ∧ w' = g'.w ∧ WP P ops Q (n + 1) (putL tm d v) g') : WP P ops Q n tm g := by
  unfold opOn at ho
  cases hn : ops[n]? with
  | none => rw [hn] at ho; exact absurd ho (by simp)
  | some o =>
    rw [hn] at ho
    simp only [] at ho
    split at ho
    · rename_i hwd
      simp only [Option.some.injEq, Prod.mk.injEq] at ho
      obtain ⟨rfl, rfl, rfl⟩ := ho
      have hlt : n < ops.length := (List.getElem?_eq_some_iff.1 hn).1
      have he : ops[n] = o := (List.getElem?_eq_some_iff.1 hn).2
      unfold WP at *
      rw [List.drop_eq_getElem_cons hlt, he]
      simp only [wpList]
      rw [if_pos hwd]
      left
      unfold Oper.wp
      rw [eval_eq, hr o rfl rfl]
      simp only [Oper.upon]
      refine hc.mono ?_
      intro e w' hR
      obtain ⟨v, g', rfl, rfl, hh⟩ := h e w' hR
      simp only [put_eq]
      exact hh
    · exact absurd ho (by simp)

/-- A guard's two ways. -/
theorem WP.guard (j : Nat) {b : Bool} (hv : tm[j]? = some (.bool b)) (ht : b = true → WP P ops Q n (tm.set j (.bool true)) g)
    (hf : b = false → WP P ops Q n (tm.set j (.bool false)) g) : WP P ops Q n tm g := by
  have hl : j < tm.length := (List.getElem?_eq_some_iff.1 hv).1
  have he : tm.set j (.bool b) = tm := by
    apply List.ext_getElem?
    intro i
    by_cases h : j = i
    · subst h; rw [List.getElem?_set_self hl, hv]
    · rw [List.getElem?_set_ne h]
  cases b
  · rw [← he]; exact hf rfl
  · rw [← he]; exact ht rfl
end
end Go.Lab
