/-
  A region whose order is open: each operation that is not plain is shown by itself, in whatever world its facts hold; the orders need not be gone through.
-/
import Derived.Test.YtmdkjjdfbjgaoaaLabE
import Derived.Orders
namespace Go.Lab
open Go.RowKit

theorem mem_readyL {md : Region.Mode} {ops : Array Oper} {listed : Array Bool} {i : Nat} : i ∈ Region.ready md ops listed ↔
    listed.getD i true = false ∧ ∃ o, ops[i]? = some o ∧ ∀ e ∈ o.after, Region.binds md e = true → listed.getD e.on false = true := mem_ready

/-- A fact: behind which loud operation it is born (none: it stands at the begin); which labels it hangs on (by their places in the list); whose values it speaks of. -/
structure RF where
  b : Option Nat
  ls : List Nat
  sup : List Nat
  R : List Value → GW → Prop

/-- The labels at places. -/
def SW (lab js : List Nat) : List Nat := js.filterMap (lab[·]?)

section
variable (P : Program) (ops : List Oper) (ld : List Nat) (anc : List (List Nat)) (tm0 : List Value)

def ancOf (i : Nat) : List Nat := anc.getD i []
def ldAt (p : Nat) : Nat := ld.getD p 0
def looks (o : Oper) : List Tmp := o.looksAt ops.toArray
def dsts (i : Nat) : Option Tmp := (ops[i]?).bind (·.dst)
def looksI (i : Nat) : List Tmp := match ops[i]? with | some o => looks ops o | none => []

def wantedE (env : Operand → Value) (o : Oper) : Bool :=
  match o.guard with
  | none => true
  | some (j, want) => match (ops[j]?).bind (·.dst) with
    | some d => (match env (.tmp d) with | .bool b => b == want | _ => false)
    | none => false

def opVal (env : Operand → Value) (o : Oper) : Option Value :=
  if wantedE ops env o then
    match evalS P (execOp env o) with
    | some (.value v) => some v
    | _ => none
  else some undef

/-- An operation's value: a loud one's is given. -/
def cfVal (vs : List Value) (i : Nat) (o : Oper) (tm : List Value) : Value :=
  match ld.idxOf? i with
  | some p => vs.getD p undef
  | none => (opVal P ops (ev tm) o).getD undef

/-- The frame behind some of the operations, the loud ones' values given. -/
def cfGo (S : Nat → Bool) (vs : List Value) : Nat → List Oper → List Value → List Value
  | _, [], tm => tm
  | i, o :: os, tm =>
    if S i then cfGo S vs (i + 1) os (putL tm o.dst (cfVal P ops ld vs i o tm))
    else cfGo S vs (i + 1) os tm

def cfOf (i : Nat) (vs : List Value) : List Value := cfGo P ops ld (fun j => (ancOf anc i).contains j) vs 0 ops tm0
def cfAll (vs : List Value) : List Value := cfGo P ops ld (fun _ => true) vs 0 ops tm0

/-- Do two operations meet in a slot? -/
def meets (i j : Nat) : Bool :=
  (match dsts ops i with | some d => (looksI ops j).contains d || dsts ops j == some d | none => false) ||
  (match dsts ops j with | some d => (looksI ops i).contains d | none => false)

variable (N : Nat) (fs : List RF) (wr : List (List Nat))

def wrAt (p : Nat) : List Nat := wr.getD p []
def hits (q : Nat) (f : RF) : Bool := f.ls.any fun j => (wrAt wr q).contains j
/-- Does loud operation q come behind the fact's birth, in the text? -/
def later (q : Nat) (f : RF) : Bool := match f.b with | none => true | some p => decide (ldAt ld p < ldAt ld q)

/-- Is a fact sure to hold where operation i runs? -/
def needB (i : Nat) (f : RF) : Bool :=
  (match f.b with | none => true | some p => (ancOf anc i).contains (ldAt ld p)) &&
  (List.range ld.length).all fun q => !(hits wr q f && later ld q f) || (ldAt ld q == i || (ancOf anc (ldAt ld q)).contains i)
/-- Does a fact hold behind all of them? -/
def endB (f : RF) : Bool := (List.range ld.length).all fun q => !(hits wr q f && later ld q f)

def chkOp (o : Oper) (i : Nat) : Bool :=
  (ancOf anc i).all (fun j => decide (j < i) && (ancOf anc j).all (fun k => (ancOf anc i).contains k) &&
    o.after.any (fun e => Region.binds .any e && decide (e.on < i) && (e.on == j || (ancOf anc e.on).contains j))) &&
  o.after.all (fun e => !Region.binds .any e || decide (e.on < i)) &&
  (match o.dst with | some d => decide (d < N) | none => true) &&
  (match o.guard with | some (j, _) => decide (j < i) | none => true) &&
  (match o.op with | .select .. => false | _ => true) &&
  (List.range i).all (fun j => !meets ops j i || (ancOf anc i).contains j)

def chk : Bool :=
  (ops.zipIdx.all fun x => chkOp ops anc N x.1 x.2) &&
  ld.all (fun i => decide (i < ops.length)) &&
  (List.range ld.length).all (fun p => ld.idxOf? (ldAt ld p) == some p) &&
  fs.all (fun f => match f.b with
    | none => f.sup.isEmpty
    | some p => decide (p < ld.length) && f.sup.all (fun s => decide (s < ld.length) && (s == p || (ancOf anc (ldAt ld p)).contains (ldAt ld s))) &&
      (List.range ld.length).all (fun q => !(hits wr q f && decide (ldAt ld q < ldAt ld p)) || (ancOf anc (ldAt ld p)).contains (ldAt ld q)))
end

/-! ### What the check says -/
section
variable {P : Program} {ops : List Oper} {ld : List Nat} {anc : List (List Nat)} {tm0 : List Value} {N : Nat} {fs : List RF} {wr : List (List Nat)}

structure Chk (ops : List Oper) (ld : List Nat) (anc : List (List Nat)) (N : Nat) (fs : List RF) (wr : List (List Nat)) : Prop where
  anc_lt : ∀ i j, i < ops.length → j ∈ ancOf anc i → j < i
  anc_tr : ∀ i j k, i < ops.length → j ∈ ancOf anc i → k ∈ ancOf anc j → k ∈ ancOf anc i
  anc_ed : ∀ (i j : Nat) (o : Oper), ops[i]? = some o → j ∈ ancOf anc i → ∃ e ∈ o.after, Region.binds .any e = true ∧ e.on < i ∧ (e.on = j ∨ j ∈ ancOf anc e.on)
  ed_lt : ∀ (i : Nat) (o : Oper) (e : Edge), ops[i]? = some o → e ∈ o.after → Region.binds .any e = true → e.on < i
  dst_lt : ∀ (i : Nat) (o : Oper) (d : Nat), ops[i]? = some o → o.dst = some d → d < N
  guard_lt : ∀ (i : Nat) (o : Oper) (j : Nat) (w : Bool), ops[i]? = some o → o.guard = some (j, w) → j < i
  nosel : ∀ (i : Nat) (o : Oper) (cs : Array SelectCase) (b : Bool), ops[i]? = some o → o.op ≠ .select cs b
  meet : ∀ i j, i < ops.length → j < i → meets ops j i = true → j ∈ ancOf anc i
  ld_lt : ∀ i, i ∈ ld → i < ops.length
  ld_ix : ∀ p, p < ld.length → ld.idxOf? (ldAt ld p) = some p
  f_none : ∀ f, f ∈ fs → f.b = none → f.sup = []
  f_lt : ∀ f p, f ∈ fs → f.b = some p → p < ld.length
  f_sup : ∀ f p s, f ∈ fs → f.b = some p → s ∈ f.sup → s < ld.length ∧ (s = p ∨ ldAt ld s ∈ ancOf anc (ldAt ld p))
  f_wr : ∀ f p q, f ∈ fs → f.b = some p → q < ld.length → hits wr q f = true → ldAt ld q < ldAt ld p → ldAt ld q ∈ ancOf anc (ldAt ld p)

theorem chk_ok (h : chk ops ld anc N fs wr = true) : Chk ops ld anc N fs wr := by
  unfold chk at h
  simp only [Bool.and_eq_true] at h
  obtain ⟨⟨⟨h1, h2⟩, h3⟩, h4⟩ := h
  rw [List.all_eq_true] at h1 h2 h3 h4
  have hop : ∀ i o, ops[i]? = some o → (o, i) ∈ ops.zipIdx := fun i o ho => by
    rw [List.mem_zipIdx_iff_getElem?]; exact ho
  have get : ∀ i, i < ops.length → ∃ o, ops[i]? = some o := fun i hi => ⟨ops[i], List.getElem?_eq_getElem hi⟩
  have k := fun i o (ho : ops[i]? = some o) => h1 (o, i) (hop i o ho)
  unfold chkOp at k
  simp only [Bool.and_eq_true, List.all_eq_true, decide_eq_true_eq, List.contains_iff_mem, Array.any_eq_true', Array.all_eq_true', Bool.or_eq_true, Bool.not_eq_true', beq_iff_eq, List.mem_range] at k
  refine ⟨?_, ?_, ?_, ?_, ?_, ?_, ?_, ?_, ?_, ?_, ?_, ?_, ?_, ?_⟩
  · intro i j hi hj
    obtain ⟨o, ho⟩ := get i hi
    exact ((k i o ho).1.1.1.1.1 j hj).1.1
  · intro i j l hi hj hl
    obtain ⟨o, ho⟩ := get i hi
    exact ((k i o ho).1.1.1.1.1 j hj).1.2 l hl
  · intro i j o ho hj
    obtain ⟨e, he, ⟨hb, hlt⟩, hor⟩ := ((k i o ho).1.1.1.1.1 j hj).2
    exact ⟨e, he, hb, hlt, hor⟩
  · intro i o e ho he hb
    rcases (k i o ho).1.1.1.1.2 e he with h | h
    · rw [hb] at h; cases h
    · exact h
  · intro i o d ho hd
    have := (k i o ho).1.1.1.2
    rw [hd] at this
    simpa using this
  · intro i o j w ho hg
    have := (k i o ho).1.1.2
    rw [hg] at this
    simpa using this
  · intro i o cs b ho hs
    have := (k i o ho).1.2
    rw [hs] at this
    simp at this
  · intro i j hi hj hm
    obtain ⟨o, ho⟩ := get i hi
    rcases (k i o ho).2 j hj with h | h
    · rw [hm] at h; cases h
    · exact h
  · intro i hi
    simpa using h2 i hi
  · intro p hp
    simpa using h3 p (List.mem_range.2 hp)
  · intro f hf hb
    have := h4 f hf
    rw [hb] at this
    simpa using this
  all_goals
    intro f p
  · intro hf hb
    have := h4 f hf
    rw [hb] at this
    simp only [Bool.and_eq_true, decide_eq_true_eq] at this
    exact this.1.1
  · intro s hf hb hs
    have := h4 f hf
    rw [hb] at this
    simp only [Bool.and_eq_true, decide_eq_true_eq, List.all_eq_true, Bool.or_eq_true, beq_iff_eq, List.contains_iff_mem] at this
    exact this.1.2 s hs
  · intro q hf hb hq hh hlt
    have := h4 f hf
    rw [hb] at this
    simp only [Bool.and_eq_true, decide_eq_true_eq, List.all_eq_true, Bool.or_eq_true, beq_iff_eq, List.contains_iff_mem, List.mem_range, Bool.not_eq_true', Bool.and_eq_false_iff, decide_eq_false_iff_not] at this
    rcases this.2 q hq with h | h
    · rcases h with h | h
      · rw [hh] at h; cases h
      · exact absurd hlt h
    · exact h
end
end Go.Lab
