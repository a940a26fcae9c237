/-
  Rules for maps.
-/
import Derived.Test.YtmdkjjdfbjgaoaaLabM
import Derived.MapKept
import Derived.Lib.AppendZeros
namespace Go.Lab
open Go.RowKit
set_option linter.unusedVariables false

theorem Arr.ex8 (d : Arr Int 8) : ∃ a0 a1 a2 a3 a4 a5 a6 a7, d = ⟨[a0, a1, a2, a3, a4, a5, a6, a7], rfl⟩ := by
  obtain ⟨l, h⟩ := d
  match l, h with
  | [a0, a1, a2, a3, a4, a5, a6, a7], _ => exact ⟨a0, a1, a2, a3, a4, a5, a6, a7, rfl⟩

theorem sameBits_ints (n : Nat) (cs : List Value) (h : ∀ c ∈ cs, ∃ k x, c = Value.int k x) : Instr.sameBits (n + 1) (.agg cs.toArray) (.agg cs.toArray) = true := by
  unfold Instr.sameBits
  simp only [BEq.rfl, Bool.true_and, List.all_eq_true]
  intro p hp
  obtain ⟨x, y⟩ := p
  have hz : ∀ (l : List Value) (q : Value × Value), q ∈ l.zip l → q.1 = q.2 ∧ q.1 ∈ l := by
    intro l
    induction l with
    | nil => intro q hq; simp at hq
    | cons a l ih =>
      intro q hq
      simp only [List.zip_cons_cons, List.mem_cons] at hq
      rcases hq with rfl | hq
      · exact ⟨rfl, by simp⟩
      · obtain ⟨h1, h2⟩ := ih q hq
        exact ⟨h1, by simp [h2]⟩
  obtain ⟨h1, h2⟩ := hz cs (x, y) (by simpa using hp)
  simp only [] at h1 h2
  subst h1
  obtain ⟨k, z, rfl⟩ := h x h2
  cases n <;> simp [Instr.sameBits]

theorem AG_one (x : List Value) : (AG [x]).cells.toList = x := by simp [AG, Value.cells]

/-- Where a key stands in a map, and with what. -/
def mapAt {α β : Type} (eq : α → α → Bool) : List (α × β) → α → Option (Nat × β)
  | [], _ => none
  | p :: r, k => if eq k p.1 = true then some (0, p.2) else (mapAt eq r k).map fun q => (q.1 + 1, q.2)
def mapGet {α β : Type} (eq : α → α → Bool) (z : β) (m : List (α × β)) (k : α) : β × Bool :=
  match mapAt eq m k with
  | some q => (q.2, true)
  | none => (z, false)
def mapSet {α β : Type} (eq : α → α → Bool) (m : List (α × β)) (k : α) (v : β) : List (α × β) :=
  match mapAt eq m k with
  | some q => m.set q.1 (k, v)
  | none => m ++ [(k, v)]

/-- A block that is a map. -/
def MapB {α β : Type} (g : GW) (l b : Nat) (kv : α → Value) (vv : β → Value) (m : List (α × β)) : Prop :=
  ∃ es clock, g.w.heap[b]? = some (.map es clock) ∧ g.L b = l ∧ es.toList.map (fun e => (e.key, e.val)) = m.map (fun p => (kv p.1, vv p.2))

section
variable {α β : Type} {kv : α → Value} {vv : β → Value} {m : List (α × β)} {eq : α → α → Bool}

theorem MapB.mono {M : Nat → Prop} {g g' : GW} {l b : Nat} (h : MapB g l b kv vv m) (hs : Step M g g') (hl : ¬ M l) : MapB g' l b kv vv m := by
  obtain ⟨es, clock, h1, h2, h3⟩ := h
  obtain ⟨h1', h2'⟩ := hs.blk hl h2 h1
  exact ⟨es, clock, h1', h2', h3⟩

theorem MapB.relab {g : GW} {l b : Nat} (h : MapB g l b kv vv m) (l' : Nat) : ∃ g', g'.w = g.w ∧ Step (WL [l]) g g' ∧ MapB g' l' b kv vv m := by
  obtain ⟨es, clock, h1, h2, h3⟩ := h
  refine ⟨g.relab l l', rfl, g.relab_step l l', es, clock, h1, ?_, h3⟩
  show (if g.L b = l then l' else g.L b) = l'
  rw [if_pos h2]

/-- Keys that are compared so. -/
structure KeyOk (P : Program) (kt : TypeId) (kv : α → Value) (eq : α → α → Bool) : Prop where
  eqv : ∀ x y, EqV P 10000 kt (kv x) (kv y) (eq x y)
  chk : ∀ w b x, (Instr.checkKey b 10000 kt (kv x)).run P w = .ok () w
  inj : ∀ x y, eq x y = true → kv y = kv x
  bits : ∀ x, Instr.sameBits 10000 (kv x) (kv x) = true
  now : ∃ d, P.underlying kt = some d ∧ ∀ x y, Instr.sameNow d (kv x) (kv y) = none

variable {P : Program} {kt : TypeId}

theorem KeyOk.asking (K : KeyOk P kt kv eq) (w : World) (k : α) : ∀ (es : List MapEntry) (m : List (α × β)) (i : Nat), es.map (fun e => (e.key, e.val)) = m.map (fun p => (kv p.1, vv p.2)) →
    (Instr.findAsking kt (kv k) es i).run P w = .ok ((mapAt eq m k).map fun q => (i + q.1, vv q.2)) w
  | [], m, i, h => by
    cases m with
    | nil => simp [Instr.findAsking, mapAt, Sem.run]
    | cons p r => simp at h
  | e :: es, m, i, h => by
    cases m with
    | nil => simp at h
    | cons p r =>
      simp only [List.map_cons, List.cons.injEq, Prod.mk.injEq] at h
      obtain ⟨⟨h1, h2⟩, h3⟩ := h
      have he : (Op.equal kt (kv k) e.key).run P w = .ok (eq k p.1) w := by rw [h1]; exact K.eqv k p.1 w
      unfold Instr.findAsking mapAt
      rw [Sem.run_bind, he]
      by_cases hq : eq k p.1 = true
      · simp [hq, Result.andThen, h2]
      · have hf : eq k p.1 = false := by simpa using hq
        have ih := KeyOk.asking K w k es r (i + 1) h3
        simp only [hf, Result.andThen, Bool.false_eq_true, if_false]
        rw [ih, Option.map_map]
        congr 2
        funext q
        simp only [Function.comp_apply]
        congr 1; omega

theorem KeyOk.find (K : KeyOk P kt kv eq) (w : World) (k : α) {es : List MapEntry} {m : List (α × β)} (h : es.map (fun e => (e.key, e.val)) = m.map (fun p => (kv p.1, vv p.2))) :
    (Instr.findKey kt (kv k) es).run P w = .ok ((mapAt eq m k).map fun q => (q.1, vv q.2)) w := by
  obtain ⟨d, hd, hn⟩ := K.now
  have ha := K.asking w k es m 0 h
  simp only [Nat.zero_add] at ha
  unfold Instr.findKey
  rw [Sem.run_bind, run_underlying hd]
  simp only [Result.andThen]
  cases es with
  | nil =>
    cases m with
    | nil => simp [Instr.findNow, mapAt, Sem.run]
    | cons p r => simp at h
  | cons e es =>
    cases m with
    | nil => simp at h
    | cons p r =>
      simp only [List.map_cons, List.cons.injEq, Prod.mk.injEq] at h
      have : Instr.findNow d (kv k) (e :: es) 0 = none := by
        unfold Instr.findNow
        rw [h.1.1, hn]
      rw [this]
      exact ha

variable {Q : Exit → Act → World → Prop} {tm : List Value} {g : GW} {ops : List Oper} {n : Nat}

def mmAt (ops : List Oper) (n : Nat) (tm : List Value) : Bool :=
  match opNow ops n tm with
  | some o => match o.op with | .makeMap _ none => true | _ => false
  | none => false

theorem WP.mkMap (l : Nat) (kv : α → Value) (vv : β → Value) (ha : mmAt ops n tm = true)
    (h : ∀ g' b, Step NoM g g' → MapB g' l b kv vv [] → WP P ops Q (n + 1) (putL tm (dstOf ops n) (.map (some b))) g') : WP P ops Q n tm g := by
  unfold mmAt at ha
  split at ha
  · rename_i o ho
    split at ha
    · rename_i t hop
      refine WP.val (g' := g.new l (.map #[] 0)) (v := .map (some g.w.heap.size)) ho ?_ (h _ _ (GW.new_step g l _) ⟨#[], 0, ?_, ?_, rfl⟩)
      · unfold execOp
        simp [hop, Instr.makeMap, GW.new]
      · exact heap_alloc_new g.w _
      · simp [GW.new]
    · cases ha
  · cases ha

def lkAt (P : Program) (ops : List Oper) (n : Nat) (tm : List Value) : Option (TypeId × TypeId × Value × Value × Bool) :=
  match opNow ops n tm with
  | some o => match o.op with
    | .lookup t x i ok => match P.underlying t with
      | some (.map k e) => some (k, e, ev tm x, ev tm i, ok)
      | _ => none
    | _ => none
  | none => none

theorem WP.mapGet {et : TypeId} {l b : Nat} {k : α} {z : β} (hM : MapB g l b kv vv m) (K : KeyOk P kt kv eq) (ha : lkAt P ops n tm = some (kt, et, .map (some b), kv k, true))
    (hz : evalS P (zeroValue et) = some (vv z))
    (h : WP P ops Q (n + 1) (putL tm (dstOf ops n) (.tuple #[vv (mapGet eq z m k).1, .bool (mapGet eq z m k).2])) g) : WP P ops Q n tm g := by
  obtain ⟨es, clock, h1, h2, h3⟩ := hM
  unfold lkAt at ha
  split at ha
  · rename_i o ho
    split at ha
    · rename_i t x i ok hop
      split at ha
      · rename_i k' e' ht
        simp only [Option.some.injEq, Prod.mk.injEq] at ha
        obtain ⟨rfl, rfl, hx, hi, rfl⟩ := ha
        refine WP.val (g' := g) ho ?_ h
        have hf := K.find g.w k h3
        have hr : (Instr.lookup t (.map (some b)) (kv k) true).run P g.w = .ok (.tuple #[vv (mapGet eq z m k).1, .bool (mapGet eq z m k).2]) g.w := by
          unfold Go.Lab.mapGet
          cases hm : mapAt eq m k with
          | none =>
            rw [hm] at hf
            simp only [Option.map_none] at hf
            simp [Instr.lookup, run_underlying ht, MapKept.run_getObj_map h1, K.chk, hf, evalS_run hz g.w, Result.andThen]
          | some q =>
            rw [hm] at hf
            simp only [Option.map_some] at hf
            simp [Instr.lookup, run_underlying ht, MapKept.run_getObj_map h1, K.chk, hf, Result.andThen]
        unfold execOp
        simp only [hop, hx, hi, Sem.run_bind, hr]
        rfl
      · cases ha
    · cases ha
  · cases ha

def muAt (P : Program) (ops : List Oper) (n : Nat) (tm : List Value) : Option (TypeId × Value × Value × Value) :=
  match opNow ops n tm with
  | some o => match o.op with
    | .mapUpdate t x i y => match P.underlying t with
      | some (.map k _) => some (k, ev tm x, ev tm i, ev tm y)
      | _ => none
    | _ => none
  | none => none

theorem WP.mapSet {l b : Nat} {k : α} {v : β} (hM : MapB g l b kv vv m) (K : KeyOk P kt kv eq) (ha : muAt P ops n tm = some (kt, .map (some b), kv k, vv v))
    (h : ∀ g', Step (WL [l]) g g' → MapB g' l b kv vv (mapSet eq m k v) → WP P ops Q (n + 1) (putL tm (dstOf ops n) undef) g') : WP P ops Q n tm g := by
  obtain ⟨es, clock, h1, h2, h3⟩ := hM
  have hlt : b < g.w.heap.size := (Array.getElem?_eq_some_iff.1 h1).1
  unfold muAt at ha
  split at ha
  · rename_i o ho
    split at ha
    · rename_i t x i y hop
      split at ha
      · rename_i k' e' ht
        simp only [Option.some.injEq, Prod.mk.injEq] at ha
        obtain ⟨rfl, hx, hi, hy⟩ := ha
        have key : ∃ es' clock', (Instr.mapUpdate t (.map (some b)) (kv k) (vv v)).run P g.w = .ok () { g.w with heap := g.w.heap.setIfInBounds b (.map es' clock') } ∧
            es'.toList.map (fun e => (e.key, e.val)) = (Go.Lab.mapSet eq m k v).map (fun p => (kv p.1, vv p.2)) := by
          have hf := K.find g.w k h3
          unfold Go.Lab.mapSet
          cases hm : mapAt eq m k with
          | none =>
            rw [hm] at hf
            simp only [Option.map_none] at hf
            refine ⟨es.push { key := kv k, val := vv v, born := clock }, clock + 1, ?_, ?_⟩
            · simp [Instr.mapUpdate, run_underlying ht, MapKept.run_getObj_map h1, K.chk, hf, MapKept.run_setObj_map _ h1, Result.andThen]
            · simp [h3]
          | some q =>
            rw [hm] at hf
            simp only [Option.map_some] at hf
            have hat : ∀ (m : List (α × β)) (q : Nat × β), mapAt eq m k = some q → ∃ p, m[q.1]? = some p ∧ eq k p.1 = true := by
              intro m
              induction m with
              | nil => intro q hq; simp [mapAt] at hq
              | cons p r ih =>
                intro q hq
                unfold mapAt at hq
                split at hq
                · rename_i he
                  cases hq
                  exact ⟨p, rfl, he⟩
                · cases hr : mapAt eq r k with
                  | none => rw [hr] at hq; cases hq
                  | some s =>
                    rw [hr] at hq
                    simp only [Option.map_some, Option.some.injEq] at hq
                    subst hq
                    obtain ⟨p', hp, he⟩ := ih s hr
                    exact ⟨p', by simpa using hp, he⟩
            obtain ⟨p, hp, he⟩ := hat m q hm
            have hkey := K.inj k p.1 he
            have hes : (es.toList.map (fun e => (e.key, e.val)))[q.1]? = some (kv p.1, vv p.2) := by rw [h3, List.getElem?_map, hp]; rfl
            rw [List.getElem?_map] at hes
            cases hj : es.toList[q.1]? with
            | none => rw [hj] at hes; cases hes
            | some e0 =>
              rw [hj] at hes
              simp only [Option.map_some, Option.some.injEq, Prod.mk.injEq] at hes
              have hj' : es[q.1]? = some e0 := by simpa using hj
              have hst : (Instr.keyThatStays (kv k) (kv k)).run P g.w = .ok (kv k) g.w := by
                unfold Instr.keyThatStays
                rw [K.bits, if_pos rfl]; rfl
              refine ⟨es.modify q.1 fun e => { e with key := kv k, val := vv v }, clock, ?_, ?_⟩
              · simp [Instr.mapUpdate, run_underlying ht, MapKept.run_getObj_map h1, K.chk, hf, hj', hes.1, hkey, hst, MapKept.run_setObj_map _ h1, Result.andThen]
              · rw [Array.toList_modify]
                apply List.ext_getElem?
                intro j
                have h3j : (es.toList[j]?).map (fun e => (e.key, e.val)) = (m[j]?).map (fun p => (kv p.1, vv p.2)) := by rw [← List.getElem?_map, h3, List.getElem?_map]
                rw [List.getElem?_map, List.getElem?_map, List.getElem?_modify, List.getElem?_set]
                by_cases hjq : q.1 = j
                · subst hjq
                  rw [hj]
                  have hlm : q.1 < m.length := (List.getElem?_eq_some_iff.1 hp).1
                  simp [hlm]
                · simp only [hjq, if_false]
                  rw [← h3j]
                  cases es.toList[j]? <;> simp
        obtain ⟨es', clock', hr, h3'⟩ := key
        refine WP.unit (g' := ⟨{ g.w with heap := g.w.heap.setIfInBounds b (.map es' clock') }, g.L⟩) ho ?_ (h _ ?_ ⟨es', clock', ?_, h2, h3'⟩)
        · unfold execOp
          simp only [hop, hx, hi, hy, Sem.run_bind, hr]
          rfl
        · refine ⟨rfl, rfl, rfl, by simp, fun _ _ _ => rfl, fun j hj hne => ?_⟩
          have : b ≠ j := fun e => hne (by simp [WL, ← e, h2])
          show (g.w.heap.setIfInBounds b (.map es' clock'))[j]? = _
          rw [Array.getElem?_setIfInBounds]; simp [this]
        · show (g.w.heap.setIfInBounds b (.map es' clock'))[b]? = _
          rw [Array.getElem?_setIfInBounds]; simp [hlt]
      · cases ha
    · cases ha
  · cases ha
end

/-! ### An element of an array that is a value -/

def igAt (P : Program) (ops : List Oper) (n : Nat) (tm : List Value) : Option (TypeId × Nat × Value × Value) :=
  match opNow ops n tm with
  | some o => match o.op with
    | .index t x i => match P.underlying t with
      | some (.array len e) => some (e, len, ev tm x, ev tm i)
      | _ => none
    | _ => none
  | none => none

def fldOf (e off : Nat) : Field := ⟨"", e, off, false, "", "", 0⟩

theorem WP.indexG {P : Program} {Q : Exit → Act → World → Prop} {tm : List Value} {g : GW} {ops : List Oper} {n : Nat} {e : TypeId} {len size : Nat} {k : IntKind} {i : Int} {segs : List (List Value)} {ns : List Nat} {v : Value} (j : Nat) (hj : i = (j : Int)) (hl : j < len)
    (hn : segs.map List.length = ns) (ha : igAt P ops n tm = some (e, len, AG segs, .int k i)) (hz : tySize P e = some size)
    (hv : fldSeg P segs ns (fldOf e (j * size)) = some v) (h : WP P ops Q (n + 1) (putL tm (dstOf ops n) v) g) : WP P ops Q n tm g := by
  subst hj
  unfold igAt at ha
  split at ha
  · rename_i o ho
    split at ha
    · rename_i t x y hop
      split at ha
      · rename_i len' e' hu
        simp only [Option.some.injEq, Prod.mk.injEq] at ha
        obtain ⟨rfl, rfl, hx, hy⟩ := ha
        have hr : (part e' segs.flatten.toArray (j * size)).run P g.w = .ok v g.w := fldSeg_run hv hn g.w
        have hi : ∃ info, P.info? e' = some info ∧ info.size = size := by
          unfold tySize at hz
          cases hq : P.info? e' with
          | none => rw [hq] at hz; cases hz
          | some info => rw [hq] at hz; exact ⟨info, rfl, by simpa using hz⟩
        obtain ⟨info, hi, hs⟩ := hi
        refine WP.val ho ?_ h
        unfold execOp
        simp only [hop, hx, hy, Instr.index, asIntOf, Sem.run_bind, Sem.run_pure, Result.andThen_ok, run_underlying hu, AG]
        rw [if_pos ⟨by omega, by omega⟩]
        simp only [Sem.run_bind, sizeOf, typeInfo, run_program, Sem.run_pure, Result.andThen_ok, hi, hs, Int.toNat_natCast, hr]
      · cases ha
    · cases ha
  · cases ha

/-! ### The front of what is owned, with all its room -/

theorem OwnS.takeN {α : Type} {kd : Kd α} {g : GW} {l : Nat} {e : TypeId} {a : Option Addr} {m cp : Nat} {xs : List α} (h : OwnS kd g l e a m cp xs) {j : Nat} (hj : j ≤ m) :
    OwnS kd g l e a j cp (xs.take j) := by
  obtain ⟨h0, cells, h1, h2, h3⟩ := h
  refine ⟨by rw [List.length_take]; omega, cells.take (j * kd.sz), h1.take j, ⟨?_, ?_⟩, ?_⟩
  · rw [List.length_take, h2.1]
    have := Nat.mul_le_mul_right kd.sz hj
    omega
  · rcases h2.2 with ⟨hv, hn⟩ | ⟨b, cap, cur, hv, hb, hg, hc, hcm, hcs, ht⟩
    · simp only [Value.slice.injEq] at hv
      exact .inl ⟨by rw [hv.1, hv.2.2, show j = 0 by omega], by omega⟩
    · simp only [Value.slice.injEq] at hv
      refine .inr ⟨b, cap, cur, by rw [hv.1, hv.2.2], hb, hg, by omega, hcm, hcs, ?_⟩
      rw [← ht, List.take_take]
      congr 1
      have := Nat.mul_le_mul_right kd.sz hj
      omega
  · intro k hk
    refine h3 k ?_
    cases a with
    | none => cases hk
    | some a => exact hk

theorem WP.sliceK {P : Program} {Q : Exit → Act → World → Prop} {tm : List Value} {g : GW} {ops : List Oper} {n : Nat} {α : Type} {kd : Kd α} {l : Nat} {e : TypeId} {a : Option Addr} {m cp : Nat} {xs : List α} (hO : OwnS kd g l e a m cp xs) {k : IntKind} {j : Int}
    (ha : slAt P ops n tm = some (e, kd.sz, .slice a m cp, none, some (.int k j))) (hb : 0 ≤ j ∧ j ≤ (xs.length : Int))
    (h : OwnS kd g l e a j.toNat cp (xs.take j.toNat) → WP P ops Q (n + 1) (putL tm (dstOf ops n) (.slice a j.toNat cp)) g) : WP P ops Q n tm g := by
  obtain ⟨o, t, x, lo', hi', inf, ho, hop, hu, hinf, hsz, hx, hl, hh⟩ := slAt_op ha
  have hlen := hO.len
  have hcap := hO.cap
  have hbounds : (Instr.sliceBounds true m cp none (some (.int k j)) none).run P g.w = .ok (0, j.toNat, cp) g.w := by
    have := sliceBound_ok (P := P) (k := k) (i := j) (y := cp) (code := .sliceAcap) (w := g.w) (by omega)
    simp [Instr.sliceBounds, this]
  have hr : (execOp (ev tm) o).run P g.w = .ok (.value (.slice a j.toNat cp)) g.w := by
    unfold execOp
    simp only [hop, Instr.sliceAt, Sem.run_bind, run_underlying hu, Result.andThen_ok, Instr.slice, hx, hl, hh, Option.map_none]
    have e0 : (if cp = 0 then a else a.map (·.add (0 * kd.sz))) = a := by
      split
      · rfl
      · cases a with
        | none => rfl
        | some a =>
          obtain ⟨_, _, _, h2, _⟩ := hO
          rcases h2.2 with ⟨hv, _⟩ | ⟨b, _, _, hv, _⟩
          · simp at hv
          · simp only [Value.slice.injEq, Option.some.injEq] at hv
            rw [hv.1]; simp [add_lit0]
    simp [hbounds, sizeOf, typeInfo, hinf, hsz]
    simpa using e0
  exact WP.val ho hr (h (hO.takeN (by omega)))

theorem WP.sliceNil {P : Program} {Q : Exit → Act → World → Prop} {tm : List Value} {g : GW} {ops : List Oper} {n : Nat} {e : TypeId} {size : Nat} {k : IntKind}
    (ha : slAt P ops n tm = some (e, size, .slice none 0 0, none, some (.int k 0))) (h : WP P ops Q (n + 1) (putL tm (dstOf ops n) (.slice none 0 0)) g) : WP P ops Q n tm g := by
  obtain ⟨o, t, x, lo', hi', inf, ho, hop, hu, hinf, hsz, hx, hl, hh⟩ := slAt_op ha
  have hbounds : (Instr.sliceBounds true 0 0 none (some (.int k 0)) none).run P g.w = .ok (0, 0, 0) g.w := by
    have := sliceBound_ok (P := P) (k := k) (i := 0) (y := 0) (code := .sliceAcap) (w := g.w) (by omega)
    simp at this
    simp [Instr.sliceBounds, this]
  refine WP.val ho ?_ h
  unfold execOp
  simp only [hop, Instr.sliceAt, Sem.run_bind, run_underlying hu, Result.andThen_ok, Instr.slice, hx, hl, hh, Option.map_none]
  simp [hbounds, sizeOf, typeInfo, hinf, hsz]

def capAt (P : Program) (ops : List Oper) (n : Nat) (tm : List Value) : Option Value :=
  match opNow ops n tm with
  | some o => match o.op with
    | .call c => match c.callee, c.args.toList, c.argTypes.toList with
      | .builtin .cap, [s], [t] => match P.underlying t with
        | some (.slice _) => some (ev tm s)
        | _ => none
      | _, _, _ => none
    | _ => none
  | none => none

theorem WP.cap {P : Program} {Q : Exit → Act → World → Prop} {tm : List Value} {g : GW} {ops : List Oper} {n : Nat} {a : Option Addr} {m cp : Nat} (ha : capAt P ops n tm = some (.slice a m cp))
    (h : WP P ops Q (n + 1) (putL tm (dstOf ops n) (.int .i64 (cp : Int))) g) : WP P ops Q n tm g := by
  unfold capAt at ha
  split at ha
  · rename_i o ho
    split at ha
    · rename_i c hop
      split at ha
      · rename_i s t hcal hargs htys
        split at ha
        · rename_i e hu
          simp only [Option.some.injEq] at ha
          refine WP.val ho ?_ h
          obtain ⟨cal, args, tys⟩ := c
          simp only at hcal hargs htys
          have ea : args = #[s] := by rw [← Array.toArray_toList (xs := args), hargs]
          have et : tys = #[t] := by rw [← Array.toArray_toList (xs := tys), htys]
          subst hcal ea et
          unfold execOp
          simp [hop, resolve, invoke, builtin, Builtin.cap_, run_underlying hu, ha, goInt]
        · cases ha
      · cases ha
    · cases ha
  · cases ha

/-! ### So many zeros behind nothing -/

def azAt (P : Program) (ops : List Oper) (n : Nat) (tm : List Value) : Option (TypeId × Bool × Value × Value) :=
  match opNow ops n tm with
  | some o => match o.op with
    | .call c => match c.callee, c.args.toList, c.argTypes.toList with
      | .builtin .append, [p, q], [t, tn] => match P.underlying tn with
        | some (.int _) => some (t, true, ev tm p, ev tm q)
        | _ => none
      | _, _, _ => none
    | _ => none
  | none => none

theorem WP.appendZ {P : Program} {Q : Exit → Act → World → Prop} {tm : List Value} {g : GW} {ops : List Oper} {n : Nat} {α : Type} {kd : Kd α} (l : Nat) {t e : TypeId} {bytes : Nat} {k : IntKind} {i : Int}
    (ha : azAt P ops n tm = some (t, true, .slice none 0 0, .int k i)) (ht : slFull P t = some (e, kd.sz, bytes, true)) (hs : 0 < kd.sz) (h0 : 0 < i) (hby : (bytes : Int) * i ≤ 140737488355328) (h63 : i ≤ 140737488355328) {z : α}
    (hz : ∀ zv, (P.info? e).bind (·.zero) = some zv → kd.R g zv.cells.toList z)
    (h : ∀ g' a' c', Step NoM g g' → OwnS kd g' l e a' i.toNat c' (List.replicate i.toNat z) → WP P ops Q (n + 1) (putL tm (dstOf ops n) (.slice a' i.toNat c')) g') : WP P ops Q n tm g := by
  obtain ⟨hu, inf, zv, hi, h1, h2, hzv, hzs⟩ := slFull_eq ht
  obtain ⟨m, rfl⟩ := Int.eq_ofNat_of_zero_le (Int.le_of_lt h0)
  unfold azAt at ha
  split at ha
  · rename_i o ho
    split at ha
    · rename_i c hop
      split at ha
      · rename_i p q t' tn hcal hargs htys
        split at ha
        · rename_i kn hun
          simp only [Option.some.injEq, Prod.mk.injEq, true_and] at ha
          obtain ⟨rfl, hp, hq⟩ := ha
          obtain ⟨cal, args, tys⟩ := c
          simp only at hcal hargs htys
          have ea : args = #[p, q] := by rw [← Array.toArray_toList (xs := args), hargs]
          have et : tys = #[t', tn] := by rw [← Array.toArray_toList (xs := tys), htys]
          subst hcal ea et
          have hmb : m * inf.bytes ≤ 281474976710656 := by
            have : ((m * inf.bytes : Nat) : Int) ≤ 140737488355328 := by rw [h2]; push_cast; rw [Int.mul_comm]; exact hby
            omega
          have hr := Go.Lib.run_append_nil_zeros (P := P) g.w t' tn o.type e inf zv k kn hu hun hi hzv m (by omega) (by omega) (by omega) hmb
          have hge := grownCap_ge g.w m 0 e
          have hcm := grownCap_le_maxLen g.w m 0 e (by simp only [maxLen]; omega)
          have hzR := hz zv (by simp [hi, hzv])
          have hsz : kd.sz = zv.cells.size := hzs.symm
          generalize hcap : grownCap g.w m 0 e = cap at hr hge hcm
          have st := GW.newD_step g l (.cells (Builtin.zeroCells zv.cells m ++ Builtin.zeroCells zv.cells (cap - m)) e)
          have hflat : ∀ j, (Builtin.zeroCells zv.cells j).toList = (List.replicate j zv.cells.toList).flatten := fun j => made_flat zv.cells j
          refine WP.val (g' := g.newD l (.cells (Builtin.zeroCells zv.cells m ++ Builtin.zeroCells zv.cells (cap - m)) e)) ho ?_ (h _ (some ⟨g.w.heap.size, 0, none⟩) cap st ?_)
          · unfold execOp
            simp only [hop, resolve, invoke, builtin, Sem.run_bind, Sem.run_pure, Result.andThen_ok, List.map_toArray, List.map_cons, List.map_nil, hp, hq, hr]
            rfl
          · refine own_new (by simp) (Enc.replicate hzR m) (GW.newD_blk g l _) (by simp [GW.newD]) st hge hcm ?_ ?_
            · simp only [Array.size_append, size_zeroCells, hsz, ← Nat.add_mul]
              congr 1
              omega
            · rw [Array.toList_append, hflat m, List.take_left']
              have := (Enc.replicate hzR m).len
              simp only [List.length_replicate] at this
              rw [this]; simp
        · cases ha
      · cases ha
    · cases ha
  · cases ha

/-! ### A part of a text -/

def stAtS (P : Program) (ops : List Oper) (n : Nat) (tm : List Value) : Option (Value × Option Value × Option Value) :=
  match opNow ops n tm with
  | some o => match o.op with
    | .slice t x lo hi none => match P.underlying t with
      | some .string => some (ev tm x, lo.map (ev tm), hi.map (ev tm))
      | _ => none
    | _ => none
  | none => none

theorem WP.sliceS {P : Program} {Q : Exit → Act → World → Prop} {tm : List Value} {g : GW} {ops : List Oper} {n : Nat} {s : ByteArray} {lo hi : Option Value} (i j : Int)
    (ha : stAtS P ops n tm = some (.string s, lo, hi)) (hlo : (lo = none ∧ i = 0) ∨ ∃ k, lo = some (.int k i)) (hhi : (hi = none ∧ j = (s.size : Int)) ∨ ∃ k, hi = some (.int k j))
    (hb : 0 ≤ i ∧ i ≤ j ∧ j ≤ (s.size : Int))
    (h : WP P ops Q (n + 1) (putL tm (dstOf ops n) (.string (s.extract i.toNat j.toNat))) g) : WP P ops Q n tm g := by
  unfold stAtS at ha
  split at ha
  · rename_i o ho
    split at ha
    · rename_i t x lo' hi' hop
      split at ha
      · rename_i hu
        simp only [Option.some.injEq, Prod.mk.injEq] at ha
        obtain ⟨hx, hl, hh⟩ := ha
        have hbounds : ∃ m, (Instr.sliceBounds false s.size s.size lo hi none).run P g.w = .ok (i.toNat, j.toNat, m) g.w := by
          rcases hlo with ⟨rfl, rfl⟩ | ⟨k, rfl⟩ <;> rcases hhi with ⟨rfl, rfl⟩ | ⟨k2, rfl⟩
          · exact ⟨s.size, by simp [Instr.sliceBounds]⟩
          · have := sliceBound_ok (P := P) (k := k2) (i := j) (y := s.size) (code := .sliceAlen) (w := g.w) (by omega)
            exact ⟨s.size, by simp [Instr.sliceBounds, this]⟩
          · have := sliceBound_ok (P := P) (k := k) (i := i) (y := s.size) (code := .sliceB) (w := g.w) (by omega)
            exact ⟨s.size, by simp [Instr.sliceBounds, this]⟩
          · have h1 := sliceBound_ok (P := P) (k := k2) (i := j) (y := s.size) (code := .sliceAlen) (w := g.w) (by omega)
            have h2 := sliceBound_ok (P := P) (k := k) (i := i) (y := j.toNat) (code := .sliceB) (w := g.w) (by omega)
            exact ⟨s.size, by simp [Instr.sliceBounds, h1, h2]⟩
        obtain ⟨m, hbounds⟩ := hbounds
        refine WP.val ho ?_ h
        unfold execOp
        simp only [hop, Instr.sliceAt, Sem.run_bind, run_underlying hu, Result.andThen_ok, Instr.slice, hx, hl, hh, Option.map_none]
        simp [hbounds]
      · cases ha
    · cases ha
  · cases ha
end Go.Lab
