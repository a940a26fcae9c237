/-
  Rules: appends, new slices, calls, results, slicing.
-/
import Derived.Test.YtmdkjjdfbjgaoaaLabC
namespace Go.Lab
open Go.RowKit

section
variable {P : Program} {Q : Exit → Act → World → Prop} {tm tm' : List Value} {g : GW} {c c1 c2 : Code} {ops : List Oper} {n : Nat}

/-! ### Calls -/

/-- What a call comes to: it returns; what is not written is as it was. -/
def Ret (M : Nat → Prop) (g : GW) (F : Value → GW → Prop) : Ending → World → Prop :=
  fun e w' => ∃ v g', e = .returned v ∧ w' = g'.w ∧ Step M g g' ∧ F v g'

def callAt (P : Program) (ops : List Oper) (n : Nat) (tm : List Value) : Option (FuncId × Array Value) :=
  match opNow ops n tm with
  | some o => match evalS P (execOp (ev tm) o) with
    | some (.enter f args) => some (f, args)
    | _ => none
  | none => none

theorem WP.callC {f : FuncId} {args : Array Value} {M : Nat → Prop} {F : Value → GW → Prop} (hc : Calls P f args g.w (Ret M g F)) (hk : callAt P ops n tm = some (f, args))
    (h : ∀ v g', Step M g g' → F v g' → WP P ops Q (n + 1) (putL tm (dstOf ops n) v) g') : WP P ops Q n tm g := by
  unfold callAt at hk
  cases ho : opNow ops n tm with
  | none => rw [ho] at hk; simp at hk
  | some o =>
    rw [ho] at hk
    simp only [] at hk
    cases hs : evalS P (execOp (ev tm) o) with
    | none => rw [hs] at hk; simp at hk
    | some nx =>
      rw [hs] at hk
      cases nx <;> simp only [Option.some.injEq, Prod.mk.injEq, reduceCtorEq] at hk
      obtain ⟨rfl, rfl⟩ := hk
      refine WP.now ho ?_
      unfold Oper.wp
      rw [eval_eq, evalS_run hs g.w]
      simp only [Oper.upon]
      refine hc.mono ?_
      rintro e w' ⟨v, g', rfl, rfl, st, hF⟩
      simp only [put_eq]
      rw [← opNow_dst ho]
      exact h v g' st hF

/-- A function's contract, out of its body's walk. -/
theorem calls_of {f : FuncId} {fn : Func} {c : Code} {args : List Value} {M : Nat → Prop} {F : Value → GW → Prop} (hf : P.funcs[f]? = some fn) (hb : fn.body = some c) (m : Nat)
    (h : ∀ t, m < t → (∀ k, k < g.w.heap.size → g.L k < t) → ∃ tm, args ++ List.replicate (fn.ntmps - args.length) undef = tm ∧
      CP P c (bodyPost P fn (Ret M g F)) tm g) : Calls P f args.toArray g.w (Ret M g F) := by
  obtain ⟨t, h1, h2⟩ := fresh_label g (m + 1)
  obtain ⟨tm, rfl, hh⟩ := h t (by omega) h2
  exact calls_enter hf hb hh

/-! ### Results -/

def Res (P : Program) (fn : Func) (tm : List Value) (g : GW) (v : Value) : Prop := (results fn tm.toArray).run P g.w = .ok v g.w

theorem NX.fin {fn : Func} {M : Nat → Prop} {t : Nat} {g0 : GW} {F : Value → GW → Prop} {v : Value} (hr : Res P fn tm g v) (st : Step (fun l => M l ∨ t ≤ l) g0 g)
    (ht : ∀ k, k < g0.w.heap.size → g0.L k < t) (hF : F v g) : NX (bodyPost P fn (Ret M g0 F)) .ret tm g :=
  NX.body_ret hr ⟨v, g, rfl, rfl, st.tot ht, hF⟩
theorem NX.finE {fn : Func} {M : Nat → Prop} {t : Nat} {g0 : GW} {F : Value → GW → Prop} {v : Value} (hr : Res P fn tm g v) (st : Step (fun l => M l ∨ t ≤ l) g0 g)
    (ht : ∀ k, k < g0.w.heap.size → g0.L k < t) (hF : F v g) : NX (bodyPost P fn (Ret M g0 F)) .normal tm g :=
  NX.body_end hr ⟨v, g, rfl, rfl, st.tot ht, hF⟩

/-- Results that stand in slots alone. -/
theorem Res.still {fn : Func} {v : Value} (h : evalS P (results fn tm.toArray) = some v) : Res P fn tm g v := evalS_run h g.w

/-- One result's value: a slot's, or what a block holds. -/
def RV (P : Program) (tm : List Value) (g : GW) : ResultVar → Value → Prop
  | .tmp t, v => ev tm (.tmp t) = v
  | .cell a T, v => ∃ b, ev tm (.tmp a) = .pointer (some ⟨b, 0, none⟩) ∧ (loadVar T ⟨b, 0, none⟩).run P g.w = .ok v g.w

theorem RV.tmp {t : Nat} {v : Value} (h : ev tm (.tmp t) = v) : RV P tm g (.tmp t) v := h
theorem RV.box {a T : Nat} {v : Value} {l b : Nat} {T' : TypeId} {segs : List (List Value)} {ns : List Nat} (hB : Box g l b T' segs ns) (hp : ev tm (.tmp a) = .pointer (some ⟨b, 0, none⟩))
    {agg : Bool} {size : Nat} (ht : tyInfo P T = some (agg, size)) {rs : List (List Value)} (hk : pickSegs segs ns 0 size = some rs) (hv : segVal agg rs = some v) : RV P tm g (.cell a T) v := by
  have hc := hB.cells hk
  exact ⟨b, hp, run_loadVar_cells ht hc.1 hc.2 (segVal_ld hv)⟩

def rdRes (tm : List Value) : ResultVar → Sem Value
  | .tmp t => pure (tm.toArray.getD t undef)
  | .cell a t => do loadVar t (← asAddr (tm.toArray.getD a undef))

theorem RV.run {r : ResultVar} {v : Value} (h : RV P tm g r v) : (rdRes tm r).run P g.w = .ok v g.w := by
  cases r with
  | tmp t => simp only [RV, ev] at h; simp [rdRes, Array.getD_eq_getD_getElem?, h]
  | cell a T =>
    obtain ⟨b, h1, h2⟩ := h
    simp only [ev] at h1
    simp [rdRes, Array.getD_eq_getD_getElem?, h1, asAddr, h2]

def tupV (vs : Array Value) : Value := if h : vs.size = 1 then vs[0] else .tuple vs

theorem results_eq (fn : Func) (tm : List Value) : results fn tm.toArray = (do let vs ← fn.results.mapM (rdRes tm); pure (tupV vs)) := by
  unfold results
  congr 1

theorem Res.one {fn : Func} {r : ResultVar} {v : Value} (hf : fn.results = #[r]) (h : RV P tm g r v) : Res P fn tm g v := by
  unfold Res
  rw [results_eq, hf]
  simp [h.run, tupV]
theorem Res.two {fn : Func} {r1 r2 : ResultVar} {v1 v2 : Value} (hf : fn.results = #[r1, r2]) (h1 : RV P tm g r1 v1) (h2 : RV P tm g r2 v2) : Res P fn tm g (.tuple #[v1, v2]) := by
  unfold Res
  rw [results_eq, hf]
  simp [h1.run, h2.run, tupV]
theorem Res.three {fn : Func} {r1 r2 r3 : ResultVar} {v1 v2 v3 : Value} (hf : fn.results = #[r1, r2, r3]) (h1 : RV P tm g r1 v1) (h2 : RV P tm g r2 v2) (h3 : RV P tm g r3 v3) :
    Res P fn tm g (.tuple #[v1, v2, v3]) := by
  unfold Res
  rw [results_eq, hf]
  simp [h1.run, h2.run, h3.run, tupV]
theorem Res.four {fn : Func} {r1 r2 r3 r4 : ResultVar} {v1 v2 v3 v4 : Value} (hf : fn.results = #[r1, r2, r3, r4]) (h1 : RV P tm g r1 v1) (h2 : RV P tm g r2 v2) (h3 : RV P tm g r3 v3) (h4 : RV P tm g r4 v4) :
    Res P fn tm g (.tuple #[v1, v2, v3, v4]) := by
  unfold Res
  rw [results_eq, hf]
  simp [h1.run, h2.run, h3.run, h4.run, tupV]

/-! ### Appends -/

/-- What there is to know of a slice type: its elements' type, how many cells and bytes one has. -/
def slFull (P : Program) (t : TypeId) : Option (TypeId × Nat × Nat × Bool) :=
  match P.underlying t with
  | some (.slice e) => (P.info? e).map fun i => (e, i.size, i.bytes, match i.zero with | some z => z.cells.size == i.size | none => false)
  | _ => none

theorem slFull_eq {t e : TypeId} {size bytes : Nat} (h : slFull P t = some (e, size, bytes, true)) :
    P.underlying t = some (.slice e) ∧ ∃ i z, P.info? e = some i ∧ i.size = size ∧ i.bytes = bytes ∧ i.zero = some z ∧ z.cells.size = size := by
  unfold slFull at h
  split at h
  · rename_i e' hu
    cases hi : P.info? e' with
    | none => rw [hi] at h; simp at h
    | some i =>
      rw [hi] at h
      simp only [Option.map_some, Option.some.injEq, Prod.mk.injEq] at h
      obtain ⟨rfl, h1, h2, h3⟩ := h
      cases hz : i.zero with
      | none => rw [hz] at h3; simp at h3
      | some z =>
        rw [hz] at h3
        exact ⟨hu, i, z, hi, h1, h2, hz, by have := h3; simp only [beq_iff_eq] at this; omega⟩
  · cases h

def isAppend : Callee → Bool
  | .builtin .append => true
  | _ => false

def apAt (ops : List Oper) (n : Nat) (tm : List Value) : Option (TypeId × Value × Value) :=
  match opNow ops n tm with
  | some o => match o.op with
    | .call c => match isAppend c.callee, c.args.toList, c.argTypes.toList with
      | true, [s, x], [t, t'] => if t = t' then some (t, ev tm s, ev tm x) else none
      | _, _, _ => none
    | _ => none
  | none => none

theorem apAt_op {t : TypeId} {s x : Value} (h : apAt ops n tm = some (t, s, x)) :
    ∃ o p q, opNow ops n tm = some o ∧ o.op = .call { callee := .builtin .append, args := #[p, q], argTypes := #[t, t] } ∧ ev tm p = s ∧ ev tm q = x := by
  unfold apAt at h
  split at h
  · rename_i o ho
    split at h
    · rename_i c hop
      split at h
      · rename_i p q t1 t2 hb hargs htys
        split at h
        · rename_i e
          subst e
          simp only [Option.some.injEq, Prod.mk.injEq] at h
          obtain ⟨rfl, h1, h2⟩ := h
          refine ⟨o, p, q, ho, ?_, h1, h2⟩
          obtain ⟨cal, args, tys⟩ := c
          simp only at hb hargs htys
          rw [hop]
          have ea : args = #[p, q] := by rw [← Array.toArray_toList (xs := args), hargs]
          have et : tys = #[t1, t1] := by rw [← Array.toArray_toList (xs := tys), htys]
          have ec : cal = .builtin .append := by
            unfold isAppend at hb
            split at hb
            · rfl
            · cases hb
          rw [ea, et, ec]
        · cases h
      · cases h
    · cases h
  · cases h

/-- A new row is owned. -/
theorem own_new {α : Type} {kd : Kd α} {g g' : GW} {l : Nat} {e : TypeId} {cs : List Value} {zs : List α} {m cap : Nat} {arr : Array Value} (hz : zs.length = m) (he : Enc kd g cs zs)
    (hw : g'.w.heap[g.w.heap.size]? = some (.cells arr e (0, 0))) (hl : g'.L g.w.heap.size = l) (st : Step NoM g g') (h1 : m ≤ cap) (h2 : cap ≤ maxLen)
    (h3 : arr.size = cap * kd.sz) (h4 : arr.toList.take (m * kd.sz) = cs) : OwnS kd g' l e (some ⟨g.w.heap.size, 0, none⟩) m cap zs :=
  ⟨hz, cs, he.mono st (fun x => x), ⟨by rw [he.len, hz], .inr ⟨_, cap, arr, rfl, Nat.zero_le _, hw, h1, h2, h3, h4⟩⟩, fun k hk => by
    simp only [Value.ownBlock, Option.some.injEq] at hk
    subst hk
    exact hl⟩

/-- A draw, and a new block. -/
def GW.newD (g : GW) (l : Nat) (o : Obj) : GW := ⟨g.w.drew.alloc o, fun k => if k = g.w.heap.size then l else g.L k⟩
theorem GW.newD_step (g : GW) (l : Nat) (o : Obj) : Step NoM g (g.newD l o) :=
  ⟨rfl, rfl, rfl, by simp [GW.newD], fun k hk _ => by simp only [GW.newD]; rw [if_neg (by omega)], fun k hk _ => heap_alloc_old g.w.drew o k hk⟩
theorem GW.newD_blk (g : GW) (l : Nat) (o : Obj) : (g.newD l o).w.heap[g.w.heap.size]? = some o := heap_alloc_new g.w.drew o

theorem take_grown {α : Type} {l r : List α} {k : Nat} (h : l.length = k) : (l ++ r).take k = l := by rw [← h, List.take_left]

theorem WP.append {α : Type} {kd : Kd α} {l : Nat} {t e : TypeId} {bytes : Nat} {a a2 : Option Addr} {m m2 cp c2 : Nat} {xs ys : List α} (hO : OwnS kd g l e a m cp xs) (hS : SrcS kd g a2 ys) (hm2 : ys.length = m2)
    (ha : apAt ops n tm = some (t, .slice a m cp, .slice a2 m2 c2)) (ht : slFull P t = some (e, kd.sz, bytes, true)) (hl0 : l ≠ 0)
    (hlen : xs.length + ys.length ≤ maxLen) (hby : (xs.length + ys.length) * bytes ≤ 140737488355328)
    (h : ∀ g' a' c', Step (WL [l]) g g' → OwnS kd g' l e a' (m + m2) c' (xs ++ ys) → WP P ops Q (n + 1) (putL tm (dstOf ops n) (.slice a' (m + m2) c')) g') : WP P ops Q n tm g := by
  obtain ⟨hu, i, z, hi, h1, h2, hz, hzs⟩ := slFull_eq ht
  obtain ⟨h0, cells, e1, e2, e3⟩ := hO
  subst h0
  subst hm2
  obtain ⟨news, f1, f2⟩ := hS
  obtain ⟨o, p, q, ho, hop, hp, hq⟩ := apAt_op ha
  have hm0 : ¬ (fun x => x = l) 0 := fun h => hl0 h.symm
  have hll : (xs ++ ys).length = xs.length + ys.length := List.length_append
  have h63 : ((xs.length + ys.length : Nat) : Int) ≤ 9223372036854775807 := by simp only [maxLen] at hlen; omega
  have he : Enc kd g (cells ++ news) (xs ++ ys) := e1.append f1
  have hrun : ∀ v' w', (Builtin.append_ #[t, t] o.type #[.slice a xs.length cp, .slice a2 ys.length c2]).run P g.w = .ok v' w' →
      (execOp (ev tm) o).run P g.w = .ok (.value v') w' := by
    intro v' w' hr
    unfold execOp
    simp only [hop, resolve, invoke, builtin, Sem.run_bind, Sem.run_pure, Result.andThen_ok, List.map_toArray, List.map_cons, List.map_nil, hp, hq, hr]
  have same : (Builtin.append_ #[t, t] o.type #[.slice a xs.length cp, .slice a2 ys.length c2]).run P g.w = .ok (.slice a xs.length cp) g.w → ys = [] → WP P ops Q n tm g := by
    intro hr hy
    subst hy
    refine WP.val ho (hrun _ _ hr) ?_
    have := h g a cp (Step.refl _ _) (by simpa using ⟨rfl, cells, e1, e2, e3⟩)
    simpa using this
  by_cases hy : ys = []
  · refine same ?_ hy
    subst hy
    rcases e2.2 with ⟨hv, hn⟩ | ⟨b, cap, cur, hv, _, hb, hnc, _⟩
    · simp only [Value.slice.injEq] at hv
      obtain ⟨rfl, _, rfl⟩ := hv
      rw [hn]
      cases a2 with
      | none => simp [Builtin.append_, run_underlying hu, sizeOf, typeInfo, hi, Builtin.lenOf, Builtin.firstCells]
      | some ad => simp [Builtin.append_, run_underlying hu, sizeOf, typeInfo, hi, Builtin.lenOf, Builtin.firstCells, loadCells, loadCellsFrom]
    · simp only [Value.slice.injEq] at hv
      obtain ⟨rfl, _, rfl⟩ := hv
      cases a2 with
      | none => simp [Builtin.append_, run_underlying hu, sizeOf, typeInfo, hi, Builtin.lenOf, Builtin.firstCells, hnc, storeCells]
      | some ad => simp [Builtin.append_, run_underlying hu, sizeOf, typeInfo, hi, Builtin.lenOf, Builtin.firstCells, loadCells, loadCellsFrom, hnc, storeCells]
  rcases f2 with ⟨_, hnil⟩ | ⟨ad, rfl, hc⟩
  · exact absurd hnil hy
  have hypos : 0 < ys.length := List.length_pos_iff.2 hy
  have hnl : news.length = ys.length * i.size := by rw [f1.len, h1]
  have fresh : ∀ (old : Nat) (hr : (Builtin.append_ #[t, t] o.type #[.slice a xs.length cp, .slice (some ad) ys.length c2]).run P g.w =
      .ok (.slice (some ⟨g.w.heap.size, 0, none⟩) (xs.length + ys.length) (grownCap g.w (xs.length + ys.length) old e))
        (g.w.drew.alloc (.cells (cells.toArray ++ news.toArray ++ Builtin.zeroCells z.cells (grownCap g.w (xs.length + ys.length) old e - (xs.length + ys.length))) e))), WP P ops Q n tm g := by
    intro old hr
    have hge := grownCap_ge g.w (xs.length + ys.length) old e
    have hcm := grownCap_le_maxLen g.w (xs.length + ys.length) old e hlen
    have st := GW.newD_step g l (.cells (cells.toArray ++ news.toArray ++ Builtin.zeroCells z.cells (grownCap g.w (xs.length + ys.length) old e - (xs.length + ys.length))) e)
    refine WP.val (g' := g.newD l (.cells (cells.toArray ++ news.toArray ++ Builtin.zeroCells z.cells (grownCap g.w (xs.length + ys.length) old e - (xs.length + ys.length))) e)) ho (hrun _ _ hr) ?_
    refine h _ (some ⟨g.w.heap.size, 0, none⟩) (grownCap g.w (xs.length + ys.length) old e) st.pure (own_new hll he (GW.newD_blk g l _) (by simp [GW.newD]) st (by omega) hcm ?_ ?_)
    · simp only [Array.size_append, List.size_toArray, size_zeroCells, hzs, e1.len, f1.len, ← Nat.add_mul]
      congr 1
      omega
    · simp only [Array.toList_append, List.append_assoc]
      rw [← List.append_assoc]
      exact take_grown (by rw [List.length_append, e1.len, f1.len, Nat.add_mul])
  rcases e2.2 with ⟨hv, hn⟩ | ⟨b, cap, cur, hv, _, hb, hnc, hcm, hcs, htk⟩
  · simp only [Value.slice.injEq] at hv
    obtain ⟨rfl, _, rfl⟩ := hv
    have hx : xs = [] := List.eq_nil_of_length_eq_zero hn
    subst hx
    have hcl : cells = [] := e1
    subst hcl
    have hr := run_append_nil (P := P) g.w t o.type e i z hu hi hz ad ys.length c2 news hnl hc hypos (by simpa using h63) (by rw [h2]; simp only [List.length_nil, Nat.zero_add] at hby; omega)
    refine fresh 0 ?_
    simpa using hr
  · simp only [Value.slice.injEq] at hv
    obtain ⟨rfl, _, rfl⟩ := hv
    have hL : g.L b = l := e3 b rfl
    by_cases hroom : xs.length + ys.length ≤ cp
    · have hfit : xs.length * i.size + news.length ≤ cur.size := by
        rw [hnl, hcs, h1, ← Nat.add_mul]; exact Nat.mul_le_mul_right _ hroom
      have hr := run_append_room (P := P) g.w t o.type e i hu hi b xs.length cp cur hb ad ys.length c2 news hnl hc f1.one hroom hfit
      generalize hw' : g.w.setRow b (cur.toList.take (xs.length * i.size) ++ news ++ cur.toList.drop (xs.length * i.size + news.length)).toArray = w' at hr
      have hb' : w'.heap[b]? = some (.cells (cur.toList.take (xs.length * i.size) ++ news ++ cur.toList.drop (xs.length * i.size + news.length)).toArray e (0, 0)) := by
        subst hw'; exact setRow_heap g.w b cur _ e _ hb
      have st : Step (fun x => x = l) g ⟨w', g.L⟩ := by
        subst hw'
        exact ⟨rfl, rfl, rfl, by simp [World.setRow], fun _ _ _ => rfl, fun k _ hne => setRow_other g.w b k _ (fun e => hne (show g.L k = l by rw [e, hL]))⟩
      refine WP.val (g' := ⟨w', g.L⟩) ho (hrun _ _ hr) ?_
      refine h ⟨w', g.L⟩ (some ⟨b, 0, none⟩) cp (WL.toW st) ⟨hll, cells ++ news, he.mono st hm0, ⟨?_, .inr ⟨b, cp, _, rfl, Nat.zero_le _, hb', hroom, hcm, ?_, ?_⟩⟩, ?_⟩
      · rw [List.length_append, e1.len, f1.len, Nat.add_mul]
      · simp only [List.size_toArray, List.length_append, List.length_take, List.length_drop, Array.length_toList]
        omega
      · rw [h1, htk]
        exact take_grown (by rw [List.length_append, e1.len, f1.len, Nat.add_mul])
      · intro k hk
        simp only [Value.ownBlock, Option.some.injEq] at hk
        subst hk
        exact hL
    · have hr := run_append_grow (P := P) g.w t o.type e i z hu hi hz ⟨b, 0, none⟩ xs.length cp cells (by rw [e1.len, h1]) (e2.cells (g := b) rfl) ad ys.length c2 news hnl hc (by omega) h63
        (growslice_fits (by omega) (by rw [h2]; exact hby))
      exact fresh cp hr

/-! ### Shifts by a count that is not known -/

def shAt (ops : List Oper) (n : Nat) (tm : List Value) : Option (Bool × Value × Value) :=
  match opNow ops n tm with
  | some o => match o.op with
    | .binOp .shl _ x y _ => some (true, ev tm x, ev tm y)
    | .binOp .shr _ x y _ => some (false, ev tm x, ev tm y)
    | _ => none
  | none => none


theorem WP.shift {left : Bool} {k yk : IntKind} {x y : Int} (ha : shAt ops n tm = some (left, .int k x, .int yk y)) (h0 : 0 ≤ y)
    (h : WP P ops Q (n + 1) (putL tm (dstOf ops n) (.int k (shV left k x y))) g) : WP P ops Q n tm g := by
  unfold shAt at ha
  have hn : ¬ y < 0 := by omega
  split at ha
  · rename_i o ho
    split at ha
    · rename_i t p q t' hop
      simp only [Option.some.injEq, Prod.mk.injEq] at ha
      obtain ⟨rfl, hp, hq⟩ := ha
      refine WP.val ho ?_ h
      unfold execOp
      simp [hop, eqGuard, hp, hq, binOp, Op.shift, hn, shV]
    · rename_i t p q t' hop
      simp only [Option.some.injEq, Prod.mk.injEq] at ha
      obtain ⟨rfl, hp, hq⟩ := ha
      refine WP.val ho ?_ h
      unfold execOp
      simp [hop, eqGuard, hp, hq, binOp, Op.shift, hn, shV]
    · cases ha
  · cases ha
end
end Go.Lab
