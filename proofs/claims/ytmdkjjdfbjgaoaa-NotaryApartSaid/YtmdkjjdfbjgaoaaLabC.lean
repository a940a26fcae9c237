/-
  One rule for each operation, over the facts of the part before.
-/
import Derived.Test.YtmdkjjdfbjgaoaaLabB
import Derived.OwnWalk
import Derived.Laws.OwnMore
import Derived.Laws.MakeOwn
namespace Go.Lab
open Go.RowKit

section
variable {P : Program} {Q : Exit → Act → World → Prop} {tm tm' : List Value} {g : GW} {c c1 c2 : Code} {ops : List Oper} {n : Nat}

def tyInfo (P : Program) (ty : TypeId) : Option (Bool × Nat) :=
  match P.underlying ty, P.info? ty with
  | some d, some i => some (match d with | .struct _ | .array _ _ => true | _ => false, i.size)
  | _, _ => none

def ldVal (agg : Bool) (cs : List Value) : Option Value :=
  if agg then some (.agg cs.toArray) else match cs with | [v] => some v | _ => none

theorem run_loadVar_cells {w : World} {b off : Nat} {ty : TypeId} {agg : Bool} {size : Nat} (ht : tyInfo P ty = some (agg, size)) {cs : List Value} (hl : cs.length = size)
    (hc : ∀ j u, cs[j]? = some u → w.cell? ⟨b, off + j, none⟩ = some u) {v : Value} (hv : ldVal agg cs = some v) :
    (loadVar ty ⟨b, off, none⟩).run P w = .ok v w := by
  unfold tyInfo at ht
  cases hu : P.underlying ty with
  | none => rw [hu] at ht; simp at ht
  | some d =>
    cases hi : P.info? ty with
    | none => rw [hu, hi] at ht; simp at ht
    | some i =>
      rw [hu, hi] at ht
      simp only [Option.some.injEq, Prod.mk.injEq] at ht
      obtain ⟨hd, hs⟩ := ht
      have hagg : (isAgg ty).run P w = .ok agg w := by
        unfold isAgg
        rw [Sem.run_bind, run_underlying hu w, ← hd]
        cases d <;> rfl
      have hload : (loadCells ⟨b, off, none⟩ cs.length).run P w = .ok cs.toArray w :=
        run_loadCells_list (P := P) w ⟨b, off, none⟩ cs (fun j u hu => by rw [add_lit0]; exact hc j u hu)
      cases agg with
      | true =>
        simp only [ldVal, if_true, Option.some.injEq] at hv
        subst hv
        simp [loadVar, Sem.run_bind, hagg, sizeOf, typeInfo, hi, hs, ← hl, hload]
      | false =>
        simp only [ldVal] at hv
        rw [if_neg (by simp)] at hv
        split at hv
        · rename_i u
          simp only [Option.some.injEq] at hv
          subst hv
          have := hc 0 u rfl
          simp only [Nat.add_zero] at this
          simp [loadVar, Sem.run_bind, hagg, this]
        · cases hv

/-- The value that segments make. -/
def segVal (agg : Bool) (rs : List (List Value)) : Option Value :=
  if agg then some (AG rs) else match rs with | [[v]] => some v | _ => none

theorem segVal_ld {agg : Bool} {rs : List (List Value)} {v : Value} (h : segVal agg rs = some v) : ldVal agg rs.flatten = some v := by
  unfold segVal at h
  unfold ldVal
  cases agg with
  | true => simpa [AG] using h
  | false =>
    rw [if_neg (by simp)] at h ⊢
    split at h
    · simpa using h
    · cases h

def dstOf (ops : List Oper) (n : Nat) : Option Tmp := (ops[n]?).bind (·.dst)

def offOf : Value → Nat
  | .pointer (some a) => a.off
  | _ => 0

def blkOf : Value → Option Nat
  | .pointer (some ⟨b, _, none⟩) => some b
  | _ => none

theorem blkOf_eq {v : Value} {b : Nat} (h : blkOf v = some b) : v = .pointer (some ⟨b, offOf v, none⟩) := by
  cases v <;> simp [blkOf] at h
  rename_i a
  cases a with
  | none => simp at h
  | some a =>
    obtain ⟨b', off, sp⟩ := a
    cases sp <;> simp at h
    subst h
    rfl

/-- The operation, if it runs now. -/
def opNow (ops : List Oper) (n : Nat) (tm : List Value) : Option Oper :=
  match ops[n]? with
  | some o => if Region.wanted o (yielded ops.toArray tm.toArray) then some o else none
  | none => none

theorem WP.now {o : Oper} (ho : opNow ops n tm = some o) (h : o.wp P ⟨tm.toArray, []⟩ g.w (wpList P ops.toArray Q (ops.drop (n + 1))) Q) : WP P ops Q n tm g := by
  unfold opNow at ho
  cases hn : ops[n]? with
  | none => rw [hn] at ho; exact absurd ho (by simp)
  | some o' =>
    rw [hn] at ho
    simp only [] at ho
    split at ho
    · rename_i hwd
      simp only [Option.some.injEq] at ho
      subst ho
      have hlt : n < ops.length := (List.getElem?_eq_some_iff.1 hn).1
      have he : ops[n] = o' := (List.getElem?_eq_some_iff.1 hn).2
      unfold WP
      rw [List.drop_eq_getElem_cons hlt, he]
      simp only [wpList]
      rw [if_pos hwd]
      exact .inl h
    · exact absurd ho (by simp)

theorem opNow_dst {o : Oper} (ho : opNow ops n tm = some o) : dstOf ops n = o.dst := by
  unfold opNow at ho
  cases hn : ops[n]? with
  | none => rw [hn] at ho; exact absurd ho (by simp)
  | some o' =>
    rw [hn] at ho
    simp only [] at ho
    split at ho
    · simp only [Option.some.injEq] at ho; subst ho; simp [dstOf, hn]
    · exact absurd ho (by simp)

theorem WP.val {o : Oper} (ho : opNow ops n tm = some o) {v : Value} {g' : GW} (hr : (execOp (ev tm) o).run P g.w = .ok (.value v) g'.w)
    (h : WP P ops Q (n + 1) (putL tm (dstOf ops n) v) g') : WP P ops Q n tm g := by
  refine WP.now ho ?_
  unfold Oper.wp
  rw [eval_eq, hr]
  simp only [Oper.upon, put_eq]
  rw [← opNow_dst ho]
  exact h

theorem WP.unit {o : Oper} (ho : opNow ops n tm = some o) {g' : GW} (hr : (execOp (ev tm) o).run P g.w = .ok .skip g'.w)
    (h : WP P ops Q (n + 1) (putL tm (dstOf ops n) undef) g') : WP P ops Q n tm g := by
  refine WP.now ho ?_
  unfold Oper.wp
  rw [eval_eq, hr]
  simp only [Oper.upon, put_eq]
  rw [← opNow_dst ho]
  exact h

/-! ### Loads -/

def ldAddr (ops : List Oper) (n : Nat) (tm : List Value) : Option (TypeId × Value) :=
  match opNow ops n tm with
  | some o => match o.op with | .load ty x => some (ty, ev tm x) | _ => none
  | none => none

theorem ldAddr_op {ty : TypeId} {p : Value} (h : ldAddr ops n tm = some (ty, p)) : ∃ o x, opNow ops n tm = some o ∧ o.op = .load ty x ∧ ev tm x = p := by
  unfold ldAddr at h
  split at h
  · rename_i o ho
    split at h
    · rename_i ty' x hx
      simp only [Option.some.injEq, Prod.mk.injEq] at h
      exact ⟨o, x, ho, by rw [hx, h.1], h.2⟩
    · cases h
  · cases h

theorem WP.load_run {ty : TypeId} {b off : Nat} (ha : ldAddr ops n tm = some (ty, .pointer (some ⟨b, off, none⟩))) {v : Value}
    (hr : (loadVar ty ⟨b, off, none⟩).run P g.w = .ok v g.w) (h : WP P ops Q (n + 1) (putL tm (dstOf ops n) v) g) : WP P ops Q n tm g := by
  obtain ⟨o, x, ho, hop, hx⟩ := ldAddr_op ha
  refine WP.val ho ?_ h
  unfold execOp
  simp only [hop, hx, Instr.loadAt, Instr.sureAddr, Sem.run_bind, Sem.run_pure, Result.andThen_ok, hr]

/-- What a load out of a known block comes to. -/
def ldBox (P : Program) (ops : List Oper) (n : Nat) (tm : List Value) (segs : List (List Value)) (ns : List Nat) : Option Value :=
  match ldAddr ops n tm with
  | some (ty, p) => match tyInfo P ty with
    | some (agg, size) => (pickSegs segs ns (offOf p) size).bind (segVal agg)
    | none => none
  | none => none

def ldBlk (ops : List Oper) (n : Nat) (tm : List Value) : Option Nat := (ldAddr ops n tm).bind fun x => blkOf x.2

theorem Box.cells {l b : Nat} {T : TypeId} {segs : List (List Value)} {ns : List Nat} (h : Box g l b T segs ns) {off size : Nat} {rs : List (List Value)}
    (hp : pickSegs segs ns off size = some rs) : rs.flatten.length = size ∧ ∀ j u, rs.flatten[j]? = some u → g.w.cell? ⟨b, off + j, none⟩ = some u := by
  obtain ⟨h1, h2, h3⟩ := h
  obtain ⟨hf, hl⟩ := pickSegs_ok segs ns off size rs hp h3
  refine ⟨hl, fun j u hu => ?_⟩
  rw [cell_of_row g.w b (off + j) _ T (0, 0) h1]
  rw [← hf, List.getElem?_take] at hu
  split at hu
  · rw [List.getElem?_drop] at hu; simpa using hu
  · cases hu

theorem WP.loadB {l b : Nat} {T : TypeId} {segs : List (List Value)} {ns : List Nat} (hB : Box g l b T segs ns) (hb : ldBlk ops n tm = some b) {v : Value}
    (hv : ldBox P ops n tm segs ns = some v) (h : WP P ops Q (n + 1) (putL tm (dstOf ops n) v) g) : WP P ops Q n tm g := by
  unfold ldBlk at hb
  unfold ldBox at hv
  cases ha : ldAddr ops n tm with
  | none => rw [ha] at hb; simp at hb
  | some x =>
    obtain ⟨ty, p⟩ := x
    rw [ha] at hb hv
    simp only [Option.bind_some] at hb hv
    cases ht : tyInfo P ty with
    | none => rw [ht] at hv; simp at hv
    | some y =>
      obtain ⟨agg, size⟩ := y
      rw [ht] at hv
      simp only [] at hv
      obtain ⟨rs, hp, hs⟩ := Option.bind_eq_some_iff.1 hv
      have hc := hB.cells hp
      rw [blkOf_eq hb] at ha
      exact WP.load_run ha (run_loadVar_cells ht hc.1 hc.2 (segVal_ld hs)) h

/-! ### Elements of slices -/

/-- The place o cells behind the head of a slice. -/
def ElemAt (a : Option Addr) (o : Nat) (p : Addr) : Prop := ∃ b off, a = some ⟨b, off, none⟩ ∧ p = ⟨b, off + o, none⟩

def ixAt (ops : List Oper) (n : Nat) (tm : List Value) : Option (TypeId × Value × Value) :=
  match opNow ops n tm with
  | some o => match o.op with | .indexAddr t x i => some (t, ev tm x, ev tm i) | _ => none
  | none => none

theorem ixAt_op {ty : TypeId} {p q : Value} (h : ixAt ops n tm = some (ty, p, q)) : ∃ o x i, opNow ops n tm = some o ∧ o.op = .indexAddr ty x i ∧ ev tm x = p ∧ ev tm i = q := by
  unfold ixAt at h
  split at h
  · rename_i o ho
    split at h
    · rename_i ty' x i hx
      simp only [Option.some.injEq, Prod.mk.injEq] at h
      exact ⟨o, x, i, ho, by rw [hx, h.1], h.2⟩
    · cases h
  · cases h

def slElem (P : Program) (t : TypeId) : Option (TypeId × Nat) :=
  match P.underlying t with
  | some (.slice e) => (P.info? e).map fun i => (e, i.size)
  | _ => none

theorem slElem_eq {t e : TypeId} {size : Nat} (h : slElem P t = some (e, size)) : P.underlying t = some (.slice e) ∧ ∃ i, P.info? e = some i ∧ i.size = size := by
  unfold slElem at h
  split at h
  · rename_i e' hu
    cases hi : P.info? e' with
    | none => rw [hi] at h; simp at h
    | some i =>
      rw [hi] at h
      simp only [Option.map_some, Option.some.injEq, Prod.mk.injEq] at h
      obtain ⟨rfl, h2⟩ := h
      exact ⟨hu, i, hi, h2⟩
  · cases h

theorem WP.indexSl {t e : TypeId} {size b off len cap : Nat} {k : IntKind} {i : Int}
    (hi : ixAt ops n tm = some (t, .slice (some ⟨b, off, none⟩) len cap, .int k i)) (ht : slElem P t = some (e, size)) (h0 : 0 ≤ i) (h1 : i < len)
    (h : WP P ops Q (n + 1) (putL tm (dstOf ops n) (.pointer (some ⟨b, off + i.toNat * size, none⟩))) g) : WP P ops Q n tm g := by
  obtain ⟨o, x, y, ho, hop, hx, hy⟩ := ixAt_op hi
  obtain ⟨hu, info, hin, hsz⟩ := slElem_eq ht
  refine WP.val ho ?_ h
  unfold execOp
  simp only [hop, hx, hy, Instr.indexAt, asIntOf, Sem.run_bind, Sem.run_pure, Result.andThen_ok, run_underlying hu]
  rw [if_pos ⟨h0, h1⟩]
  simp [Sem.run_bind, sizeOf, typeInfo, hin, hsz, add_lit0]

theorem WP.indexO {α : Type} {kd : Kd α} {l : Nat} {t e : TypeId} {a : Option Addr} {m cap : Nat} {xs : List α} (hO : OwnS kd g l e a m cap xs) {k : IntKind} {i : Int}
    (hi : ixAt ops n tm = some (t, .slice a m cap, .int k i)) (ht : slElem P t = some (e, kd.sz)) (h0 : 0 ≤ i ∧ i < (xs.length : Int))
    (h : ∀ b off, a = some ⟨b, off, none⟩ → WP P ops Q (n + 1) (putL tm (dstOf ops n) (.pointer (some ⟨b, off + i.toNat * kd.sz, none⟩))) g) : WP P ops Q n tm g := by
  obtain ⟨hl, cells, h2, h3, h4⟩ := hO
  rcases h3.2 with ⟨_, hn⟩ | ⟨b, cap', cur, hv, _⟩
  · omega
  · simp only [Value.slice.injEq] at hv
    obtain ⟨rfl, _, _⟩ := hv
    exact WP.indexSl hi ht h0.1 (by omega) (h _ _ rfl)

/-- Cells that lie somewhere. -/
def CellsAt (g : GW) (b o : Nat) (cs : List Value) : Prop := ∀ j u, cs[j]? = some u → g.w.cell? ⟨b, o + j, none⟩ = some u

/-- An element's cells, where they lie. -/
theorem SrcS.view {α : Type} {kd : Kd α} {a : Option Addr} {xs : List α} (h : SrcS kd g a xs) {i : Nat} {x : α} (hx : xs[i]? = some x) {b off : Nat} (ha : a = some ⟨b, off, none⟩) :
    ∃ cs, kd.R g cs x ∧ CellsAt g b (off + i * kd.sz) cs := by
  obtain ⟨cells, h1, h2⟩ := h
  refine ⟨_, h1.get hx, fun j u hu => ?_⟩
  rcases h2 with ⟨hn, _⟩ | ⟨p, hp, hc⟩
  · rw [hn] at ha; cases ha
  · rw [ha] at hp
    simp only [Option.some.injEq] at hp
    subst hp
    rw [List.getElem?_take] at hu
    split at hu
    · rw [List.getElem?_drop] at hu
      have := hc _ u hu
      rw [add_lit0] at this
      rw [Nat.add_assoc]; exact this
    · cases hu

/-- A load out of cells that lie somewhere: f cells behind their begin. -/
theorem WP.loadV {b o f : Nat} (segs : List (List Value)) (ns : List Nat) {cs : List Value} (hV : CellsAt g b o cs) (hcs : cs = segs.flatten) (hn : segs.map List.length = ns) {ty : TypeId} {agg : Bool} {size : Nat}
    {rs : List (List Value)} {v : Value} (ha : ldAddr ops n tm = some (ty, .pointer (some ⟨b, o + f, none⟩))) (ht : tyInfo P ty = some (agg, size))
    (hp : pickSegs segs ns f size = some rs) (hv : segVal agg rs = some v) (h : WP P ops Q (n + 1) (putL tm (dstOf ops n) v) g) : WP P ops Q n tm g := by
  obtain ⟨hf, hl⟩ := pickSegs_ok segs ns f size rs hp hn
  refine WP.load_run ha (run_loadVar_cells ht hl (fun j u hu => ?_) (segVal_ld hv)) h
  rw [← hf, List.getElem?_take] at hu
  split at hu
  · rw [List.getElem?_drop] at hu
    rw [Nat.add_assoc]
    exact hV _ u (by rw [hcs]; exact hu)
  · cases hu

/-! ### New blocks -/

/-- A world with one more block, of a label. -/
def GW.new (g : GW) (l : Nat) (o : Obj) : GW := ⟨g.w.alloc o, fun k => if k = g.w.heap.size then l else g.L k⟩

theorem GW.new_step (g : GW) (l : Nat) (o : Obj) : Step NoM g (g.new l o) :=
  ⟨rfl, rfl, rfl, by simp [GW.new], fun k hk _ => by simp only [GW.new]; rw [if_neg (by omega)], fun k hk _ => heap_alloc_old g.w o k hk⟩

theorem GW.new_box (g : GW) (l : Nat) (T : TypeId) (cells : Array Value) (segs : List (List Value)) (ns : List Nat) (hc : cells = segs.flatten.toArray) (hn : segs.map List.length = ns) :
    Box (g.new l (.cells cells T)) l g.w.heap.size T segs ns := by
  subst hc
  exact ⟨heap_alloc_new g.w _, by simp [GW.new], hn⟩

def alAt (P : Program) (ops : List Oper) (n : Nat) (tm : List Value) : Option (TypeId × Array Value) :=
  match opNow ops n tm with
  | some o => match o.op with
    | .alloc T => match P.info? T with
      | some i => i.zero.map fun z => (T, z.cells)
      | none => none
    | .box T x => some (T, (ev tm x).cells)
    | _ => none
  | none => none

theorem WP.alloc (l : Nat) {T : TypeId} (segs : List (List Value)) (ns : List Nat) (ha : alAt P ops n tm = some (T, segs.flatten.toArray)) (hn : segs.map List.length = ns)
    (h : ∀ g' b, Step NoM g g' → Box g' l b T segs ns → WP P ops Q (n + 1) (putL tm (dstOf ops n) (.pointer (some ⟨b, 0, none⟩))) g') : WP P ops Q n tm g := by
  have key : ∃ o, opNow ops n tm = some o ∧ (execOp (ev tm) o).run P g.w = .ok (.value (.pointer (some ⟨g.w.heap.size, 0, none⟩))) (g.new l (.cells segs.flatten.toArray T)).w := by
    unfold alAt at ha
    split at ha
    · rename_i o ho
      refine ⟨o, ho, ?_⟩
      split at ha
      · rename_i T' hop
        cases hi : P.info? T' with
        | none => rw [hi] at ha; simp at ha
        | some i =>
          rw [hi] at ha
          simp only [Option.map_eq_some_iff, Prod.mk.injEq] at ha
          obtain ⟨z, hz, rfl, hcells⟩ := ha
          unfold execOp
          simp [hop, Instr.alloc, zeroValue, typeInfo, hi, hz, newVar, newRow, hcells, GW.new]
      · rename_i T' x hop
        simp only [Option.some.injEq, Prod.mk.injEq] at ha
        obtain ⟨rfl, hcells⟩ := ha
        unfold execOp
        simp [hop, Instr.box, newVar, newRow, hcells, GW.new]
      · cases ha
    · cases ha
  obtain ⟨o, ho, hr⟩ := key
  exact WP.val ho hr (h _ _ (GW.new_step g l _) (GW.new_box g l T _ segs ns rfl hn))

/-! ### Stores -/

def stAt (ops : List Oper) (n : Nat) (tm : List Value) : Option (TypeId × Value × Value) :=
  match opNow ops n tm with
  | some o => match o.op with | .store ty x y => some (ty, ev tm x, ev tm y) | _ => none
  | none => none

theorem stAt_op {ty : TypeId} {p q : Value} (h : stAt ops n tm = some (ty, p, q)) : ∃ o x y, opNow ops n tm = some o ∧ o.op = .store ty x y ∧ ev tm x = p ∧ ev tm y = q := by
  unfold stAt at h
  split at h
  · rename_i o ho
    split at h
    · rename_i ty' x i hx
      simp only [Option.some.injEq, Prod.mk.injEq] at h
      exact ⟨o, x, i, ho, by rw [hx, h.1], h.2⟩
    · cases h
  · cases h

def tySize (P : Program) (ty : TypeId) : Option Nat := (P.info? ty).map (·.size)

/-- Cells are written into a block. -/
theorem WP.store_run {ty : TypeId} {b off : Nat} {v : Value} (ha : stAt ops n tm = some (ty, .pointer (some ⟨b, off, none⟩), v)) {cur : Array Value} {T : TypeId}
    (hb : g.w.heap[b]? = some (.cells cur T (0, 0))) (hs : tySize P ty = some v.cells.size) (hfit : off + v.cells.size ≤ cur.size) (h1 : ∀ u ∈ v.cells.toList, u.oneCell' = true)
    (h : ∀ g', Step (fun x => x = g.L b) g g' → (∀ k, g'.L k = g.L k) →
      g'.w.heap[b]? = some (.cells (cur.toList.take off ++ v.cells.toList ++ cur.toList.drop (off + v.cells.size)).toArray T (0, 0)) →
      WP P ops Q (n + 1) (putL tm (dstOf ops n) undef) g') : WP P ops Q n tm g := by
  obtain ⟨o, x, y, ho, hop, hx, hy⟩ := stAt_op ha
  have hst := run_storeCells_at P b off T v.cells.toList 0 cur g.w hb (by simpa using hfit) h1
  simp only [Nat.add_zero, Array.length_toList] at hst
  generalize hw : g.w.setRow b (cur.toList.take off ++ v.cells.toList ++ cur.toList.drop (off + v.cells.size)).toArray = w' at hst
  have hr : (execOp (ev tm) o).run P g.w = .ok .skip w' := by
    unfold tySize at hs
    cases hi : P.info? ty with
    | none => rw [hi] at hs; simp at hs
    | some i =>
      rw [hi] at hs
      simp only [Option.map_some, Option.some.injEq] at hs
      unfold execOp
      simp [hop, hx, hy, Instr.storeAt, Instr.sureAddr, storeVar, sizeOf, typeInfo, hi, hs, hst]
  refine WP.unit (g' := ⟨w', g.L⟩) ho hr (h _ ?_ (fun _ => rfl) ?_)
  · subst hw
    refine ⟨rfl, rfl, rfl, by simp [World.setRow], fun _ _ _ => rfl, fun k hk hne => ?_⟩
    exact setRow_other g.w b k _ (fun e => hne (by simp [e]))
  · subst hw; exact setRow_heap g.w b cur _ T _ hb

/-- Each is a cell's value. -/
inductive OneS : List (List Value) → Prop
  | nil : OneS []
  | one {v : Value} {ss : List (List Value)} (h : v.oneCell' = true) (t : OneS ss) : OneS ([v] :: ss)
  | arr {n : Nat} {k : IntKind} {d : Arr Int n} {ss : List (List Value)} (t : OneS ss) : OneS (encA k d :: ss)
  | seg {s : List Value} {ss : List (List Value)} (h : ∀ u ∈ s, u.oneCell' = true) (t : OneS ss) : OneS (s :: ss)

theorem OneS.all : ∀ {ss : List (List Value)}, OneS ss → ∀ u ∈ ss.flatten, u.oneCell' = true
  | _, .nil => by simp
  | _, .one h t => by
    intro u hu
    simp only [List.flatten_cons, List.mem_append, List.mem_singleton] at hu
    rcases hu with rfl | hu
    · exact h
    · exact OneS.all t u hu
  | _, .arr (k := k) (d := d) t => by
    intro u hu
    simp only [List.flatten_cons, List.mem_append, encA, List.mem_map] at hu
    rcases hu with ⟨_, _, rfl⟩ | hu
    · rfl
    · exact OneS.all t u hu
  | _, .seg h t => by
    intro u hu
    simp only [List.flatten_cons, List.mem_append] at hu
    rcases hu with hu | hu
    · exact h u hu
    · exact OneS.all t u hu

/-- A store into a known block. -/
theorem WP.storeB {l b : Nat} {T : TypeId} {segs : List (List Value)} {ns : List Nat} (hB : Box g l b T segs ns) (rs : List (List Value)) (ms : List Nat) {ty : TypeId} {off : Nat} {v : Value}
    (ha : stAt ops n tm = some (ty, .pointer (some ⟨b, off, none⟩), v)) (hv : v.cells = rs.flatten.toArray) (hm : rs.map List.length = ms) (hs : tySize P ty = some ms.sum)
    (out : List (List Value)) (ho : putSegs segs ns off rs ms = some out) (h1 : OneS rs)
    (h : ∀ g', Step (WL [l]) g g' → Box g' l b T out ns → WP P ops Q (n + 1) (putL tm (dstOf ops n) undef) g') : WP P ops Q n tm g := by
  obtain ⟨hb, hl, hn⟩ := hB
  obtain ⟨e1, e2, e3⟩ := putSegs_ok segs ns off rs ms out ho hn hm
  have hsz : rs.flatten.length = ms.sum := by rw [List.length_flatten, hm]
  refine WP.store_run ha hb (by rw [hv, hs]; simp [hsz]) (by rw [hv]; simpa using e3) (by rw [hv]; simpa using h1.all) ?_
  intro g' st hlab hb'
  rw [hl] at st
  refine h g' (WL.toW st) ⟨?_, by rw [hlab, hl], e2⟩
  rw [hb', e1, hv]
  simp

/-- A store into an element of a slice that is owned. -/
theorem WP.storeO {α : Type} {kd : Kd α} {l : Nat} {e : TypeId} {a : Option Addr} {m c : Nat} {xs : List α} (hO : OwnS kd g l e a m c xs) (hl0 : l ≠ 0) {i : Nat} (hi : i < xs.length)
    {b off : Nat} (hp : a = some ⟨b, off, none⟩) {ty : TypeId} {v : Value} (ha : stAt ops n tm = some (ty, .pointer (some ⟨b, off + i * kd.sz, none⟩), v)) {x : α} (hx : kd.R g v.cells.toList x)
    (hs : tySize P ty = some kd.sz) (h : ∀ g', Step (WL [l]) g g' → OwnS kd g' l e a m c (xs.set i x) → WP P ops Q (n + 1) (putL tm (dstOf ops n) undef) g') : WP P ops Q n tm g := by
  obtain ⟨h0, cells, h1, h2, h3⟩ := hO
  subst h0
  subst hp
  rcases h2.2 with ⟨hv, _⟩ | ⟨b', cap, cur, hv, hbase, hb, hnc, hcm, hcs, htk⟩
  · cases hv
  simp only [Value.slice.injEq, Option.some.injEq, Addr.mk.injEq] at hv
  obtain ⟨⟨rfl, rfl, _⟩, _, rfl⟩ := hv
  simp only [Nat.zero_add] at ha
  have hL : g.L b = l := h3 b rfl
  have hlen := kd.len hx
  have hlen' : v.cells.size = kd.sz := by simpa using hlen
  have hfit : i * kd.sz + kd.sz ≤ xs.length * kd.sz := by
    have := Nat.mul_le_mul_right kd.sz (show i + 1 ≤ xs.length from hi)
    rwa [Nat.succ_mul] at this
  have hfit2 : xs.length * kd.sz ≤ c * kd.sz := Nat.mul_le_mul_right _ hnc
  refine WP.store_run ha hb (by rw [hs, hlen']) (by omega) (kd.one hx) ?_
  intro g' st hlab hb'
  rw [hL] at st
  have hm0 : ¬ (fun x => x = l) 0 := fun h => hl0 h.symm
  refine h g' (WL.toW st) ⟨by simp, _, (h1.mono st hm0).set hi (kd.mono st hm0 hx), ⟨?_, ?_⟩, ?_⟩
  · have := h1.len
    simp only [List.length_append, List.length_take, List.length_drop]
    omega
  · refine .inr ⟨b, c, _, rfl, Nat.zero_le _, hb', hnc, hcm, ?_, ?_⟩
    · simp only [List.size_toArray, List.length_append, List.length_take, List.length_drop, Array.length_toList, hlen']
      omega
    · rw [hlen']
      have hcl := h1.len
      have htl : cur.toList.take (xs.length * kd.sz) = cells := htk
      have hlt : cur.toList.length = c * kd.sz := by simpa using hcs
      have e1 : cells.take (i * kd.sz) = cur.toList.take (i * kd.sz) := by rw [← htl, List.take_take, Nat.min_eq_left (by omega)]
      have e2 : cells.drop (i * kd.sz + kd.sz) = (cur.toList.drop (i * kd.sz + kd.sz)).take (xs.length * kd.sz - (i * kd.sz + kd.sz)) := by rw [← htl, List.drop_take]
      rw [e1, e2]
      have l1 : (cur.toList.take (i * kd.sz)).length = i * kd.sz := by rw [List.length_take]; omega
      rw [take_app (s := cur.toList.take (i * kd.sz) ++ v.cells.toList) (by rw [List.length_append, l1, hlen]; omega)]
      rw [List.length_append, l1, hlen]
  · intro k hk
    rw [hlab]
    exact h3 k hk
end
end Go.Lab
