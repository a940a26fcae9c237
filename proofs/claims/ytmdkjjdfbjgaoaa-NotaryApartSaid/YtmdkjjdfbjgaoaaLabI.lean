/-
  Rules: arrays of numbers in blocks, values out of parts, equality of arrays and structs, texts and bytes, slices of arrays, lending of several slices.
-/
import Derived.Test.YtmdkjjdfbjgaoaaLabH
import Derived.ChangeKeysEq
import Derived.Laws.StructEq
import Derived.Laws.BytesString
namespace Go.Lab
set_option linter.unusedVariables false
open Go.RowKit

section
variable {P : Program} {Q : Exit → Act → World → Prop} {tm tm' : List Value} {g g' : GW} {c c1 c2 : Code} {ops : List Oper} {n : Nat}

/-! ### Arrays of numbers in blocks -/

def arElem (P : Program) (t : TypeId) : Option (Nat × TypeId × Nat) :=
  match P.underlying t with
  | some (.array m e) => (P.info? e).map fun i => (m, e, i.size)
  | _ => none

theorem arElem_eq {t e : TypeId} {m size : Nat} (h : arElem P t = some (m, e, size)) : P.underlying t = some (.array m e) ∧ ∃ i, P.info? e = some i ∧ i.size = size := by
  unfold arElem at h
  split at h
  · rename_i m' e' hu
    cases hi : P.info? e' with
    | none => rw [hi] at h; simp at h
    | some i =>
      rw [hi] at h
      simp only [Option.map_some, Option.some.injEq, Prod.mk.injEq] at h
      obtain ⟨rfl, rfl, h2⟩ := h
      exact ⟨hu, i, hi, h2⟩
  · cases h

theorem WP.ixBox {t e : TypeId} {m size b off : Nat} {k : IntKind} {i : Int} (hi : ixAt ops n tm = some (t, .pointer (some ⟨b, off, none⟩), .int k i)) (ht : arElem P t = some (m, e, size))
    (h0 : 0 ≤ i ∧ i < (m : Int)) (h : WP P ops Q (n + 1) (putL tm (dstOf ops n) (.pointer (some ⟨b, off + i.toNat * size, none⟩))) g) : WP P ops Q n tm g := by
  obtain ⟨o, x, y, ho, hop, hx, hy⟩ := ixAt_op hi
  obtain ⟨hu, info, hin, hsz⟩ := arElem_eq ht
  refine WP.val ho ?_ h
  unfold execOp
  simp only [hop, hx, hy, Instr.indexAt, asIntOf, Sem.run_bind, Sem.run_pure, Result.andThen_ok, run_underlying hu, Instr.sureAddr]
  rw [if_pos h0]
  simp [Sem.run_bind, sizeOf, typeInfo, hin, hsz, add_lit0]

theorem encA_get {m : Nat} {k : IntKind} {d : Arr Int m} {i : Int} (hi : 0 ≤ i ∧ i < (m : Int)) : (encA k d)[i.toNat]? = some (.int k (aget d i)) := by
  obtain ⟨l, hl⟩ := d
  have hlt : i.toNat < l.length := by omega
  simp [encA, aget, List.getElem?_map, List.getElem?_eq_getElem hlt]

theorem encA_set {m : Nat} {k : IntKind} {d : Arr Int m} {i x : Int} : encA k (aset d i x) = (encA k d).set i.toNat (.int k x) := by
  simp [encA, aset, List.map_set]

theorem WP.loadE {l b : Nat} {T : TypeId} {segs : List (List Value)} {ns : List Nat} (hB : Box g l b T segs ns) {o m : Nat} {k : IntKind} {d : Arr Int m} (hp : pickSegs segs ns o m = some [encA k d])
    {i : Int} (hi : 0 ≤ i ∧ i < (m : Int)) {ty : TypeId} (ha : ldAddr ops n tm = some (ty, .pointer (some ⟨b, o + i.toNat * 1, none⟩))) (ht : tyInfo P ty = some (false, 1))
    (h : WP P ops Q (n + 1) (putL tm (dstOf ops n) (.int k (aget d i))) g) : WP P ops Q n tm g := by
  refine WP.load_run ha (run_loadVar_cells (cs := [.int k (aget d i)]) ht rfl (fun j u hu => ?_) rfl) h
  have hj : j = 0 := by
    cases j with
    | zero => rfl
    | succ j => simp at hu
  subst hj
  simp only [List.getElem?_cons_zero, Option.some.injEq] at hu
  subst hu
  rw [Nat.add_zero, Nat.mul_one]
  refine (hB.cells hp).2 _ _ ?_
  simpa using encA_get hi

theorem set_mid {α : Type} {p A q : List α} {i : Nat} {v : α} (hi : i < A.length) :
    (p ++ A ++ q).take (p.length + i) ++ [v] ++ (p ++ A ++ q).drop (p.length + i + 1) = p ++ A.set i v ++ q := by
  rw [List.append_assoc p A q, take_app (by omega), drop_app (by omega), show p.length + i - p.length = i by omega, show p.length + i + 1 - p.length = i + 1 by omega,
    List.take_append_of_le_length (by omega), List.drop_append_of_le_length (by omega), List.set_eq_take_append_cons_drop, if_pos hi]
  simp [List.append_assoc]

theorem WP.storeE {l b : Nat} {T : TypeId} {segs : List (List Value)} {ns : List Nat} (hB : Box g l b T segs ns) {o m : Nat} {k : IntKind} {d : Arr Int m} (hp : pickSegs segs ns o m = some [encA k d])
    {i x : Int} (hi : 0 ≤ i ∧ i < (m : Int)) {ty : TypeId} (ha : stAt ops n tm = some (ty, .pointer (some ⟨b, o + i.toNat * 1, none⟩), .int k x)) (hs : tySize P ty = some 1)
    (out : List (List Value)) (ho : putSegs segs ns o [encA k (aset d i x)] [m] = some out)
    (h : ∀ g', Step (WL [l]) g g' → Box g' l b T out ns → WP P ops Q (n + 1) (putL tm (dstOf ops n) undef) g') : WP P ops Q n tm g := by
  obtain ⟨hb, hl, hn⟩ := hB
  obtain ⟨e1, e2, e3⟩ := putSegs_ok segs ns o _ [m] out ho hn (by simp [len_encA])
  obtain ⟨p1, p2⟩ := pickSegs_ok segs ns o m _ hp hn
  simp only [List.flatten_cons, List.flatten_nil, List.append_nil, len_encA] at e1 e3 p1 p2
  have hlt : i.toNat < m := by omega
  refine WP.store_run ha hb (by rw [hs]; rfl) (show o + i.toNat * 1 + 1 ≤ segs.flatten.toArray.size by rw [List.size_toArray]; omega) (by intro u hu; simp [Value.cells] at hu; subst hu; rfl) ?_
  intro g' st hlab hb'
  rw [hl] at st
  refine h g' (WL.toW st) ⟨?_, by rw [hlab, hl], e2⟩
  rw [hb', e1, encA_set, ← p1]
  congr 2
  simp only [Value.cells, Nat.mul_one, Array.size_singleton]
  congr 1
  have hfit : o + m ≤ segs.flatten.length := e3
  generalize segs.flatten = L at hfit ⊢
  generalize hA : List.take m (List.drop o L) = A
  have hAl : A.length = m := by rw [← hA, List.length_take, List.length_drop]; omega
  have hL : L.take o ++ A ++ L.drop (o + m) = L := by
    rw [← hA, ← List.drop_drop, List.append_assoc, List.take_append_drop, List.take_append_drop]
  have hol : (L.take o).length = o := by rw [List.length_take]; omega
  have key := set_mid (p := L.take o) (A := A) (q := L.drop (o + m)) (i := i.toNat) (v := Value.int k x) (by omega)
  rw [hL, hol] at key
  exact key

/-! ### Values out of parts -/

theorem foldl_set (off : Nat) : ∀ (l : List Value) (j : Nat) (cs : Array Value), off + j + l.length ≤ cs.size →
    (l.zipIdx j).foldl (fun cs (p : Value × Nat) => cs.setIfInBounds (off + p.2) p.1) cs = (cs.toList.take (off + j) ++ l ++ cs.toList.drop (off + j + l.length)).toArray := by
  intro l
  induction l with
  | nil => intro j cs _; simp
  | cons x l ih =>
    intro j cs hle
    simp only [List.length_cons] at hle
    simp only [List.zipIdx_cons, List.foldl_cons]
    rw [ih (j + 1) _ (by simp; omega)]
    have hset : (cs.setIfInBounds (off + j) x).toList = cs.toList.take (off + j) ++ x :: cs.toList.drop (off + j + 1) := by
      rw [Array.toList_setIfInBounds, List.set_eq_take_append_cons_drop, if_pos (by simp; omega)]
    have hlt : (cs.toList.take (off + j)).length = off + j := by rw [List.length_take]; simp; omega
    apply Array.toList_inj.1
    simp only [hset, List.length_cons]
    rw [take_app (by rw [hlt]; omega), drop_app (by rw [hlt]; omega), hlt, show off + (j + 1) - (off + j) = 1 by omega,
      show off + (j + 1) + l.length - (off + j) = 1 + l.length by omega]
    simp only [List.take_succ_cons, List.take_zero, List.append_assoc, List.cons_append, List.nil_append, Nat.add_comm 1, List.drop_succ_cons, List.drop_drop]
    congr 3
    congr 1
    omega

/-- Parts put into their places. -/
inductive BdL (place : Nat → Option (Nat × Nat)) (ns : List Nat) : List (List Value) → List (Nat × Value) → List (List Value) → Prop
  | nil {segs : List (List Value)} : BdL place ns segs [] segs
  | cons {i off : Nat} {v : Value} {rest : List (Nat × Value)} {segs mid out : List (List Value)} (rs : List (List Value)) (ms : List Nat) (hp : place i = some (off, ms.sum)) (hv : v.cells = rs.flatten.toArray)
      (hm : rs.map List.length = ms) (ho : putSegs segs ns off rs ms = some mid) (t : BdL place ns mid rest out) : BdL place ns segs ((i, v) :: rest) out

theorem BdL.fill {place : Nat → Option (Nat × Nat)} {ns : List Nat} {segs out : List (List Value)} {parts : List (Nat × Value)} (h : BdL place ns segs parts out) (hn : segs.map List.length = ns) :
    Instr.fill place segs.flatten.toArray parts = some out.flatten.toArray := by
  induction h with
  | nil => rfl
  | cons rs ms hp hv hm ho t ih =>
    rename_i i off v rest segs mid out
    obtain ⟨e1, e2, e3⟩ := putSegs_ok segs ns off rs ms mid ho hn hm
    have hsz : rs.flatten.length = ms.sum := by rw [List.length_flatten, hm]
    have hvs : v.cells.size = ms.sum := by rw [hv]; simp [hsz]
    simp only [Instr.fill, hp]
    rw [hsz] at e3
    rw [if_neg (by rw [hvs, List.size_toArray]; simp only [ne_eq, not_true_eq_false, decide_false, Bool.false_or, decide_eq_true_eq]; omega)]
    have key := foldl_set off v.cells.toList 0 segs.flatten.toArray (by simp only [List.size_toArray, Array.length_toList, hvs]; omega)
    have hcv : (v.cells.zipIdx.foldl (fun cs (c, j) => cs.setIfInBounds (off + j) c) segs.flatten.toArray) = mid.flatten.toArray := by
      rw [e1]
      simp only [Nat.add_zero, Array.length_toList] at key
      rw [hv] at key ⊢
      simp only [List.size_toArray] at key
      rw [← key, ← Array.foldl_toList]
      congr 1
      simp
    rw [hcv]
    exact ih e2

def bdAt (ops : List Oper) (n : Nat) (tm : List Value) : Option (TypeId × List (Nat × Value)) :=
  match opNow ops n tm with
  | some o => match o.op with
    | .build t parts => some (t, parts.toList.map fun p => (p.1, ev tm p.2))
    | _ => none
  | none => none

theorem bdAt_op {t : TypeId} {ps : List (Nat × Value)} (h : bdAt ops n tm = some (t, ps)) :
    ∃ o parts, opNow ops n tm = some o ∧ o.op = .build t parts ∧ (parts.map fun (p : Nat × Operand) => (p.1, ev tm p.2)).toList = ps := by
  unfold bdAt at h
  split at h
  · rename_i o ho
    split at h
    · rename_i t' parts hop
      simp only [Option.some.injEq, Prod.mk.injEq] at h
      obtain ⟨rfl, hp⟩ := h
      exact ⟨o, parts, ho, hop, by rw [Array.toList_map]; exact hp⟩
    · cases h
  · cases h

/-- A type's zero cells. -/
def zeroC (P : Program) (t : TypeId) : Option (Array Value) := (P.info? t).bind fun i => i.zero.map (·.cells)

theorem zeroC_run {t : TypeId} {cs : Array Value} (h : zeroC P t = some cs) (w : World) : ∃ z, (zeroValue t).run P w = .ok z w ∧ z.cells = cs := by
  unfold zeroC at h
  obtain ⟨i, hi, hz⟩ := Option.bind_eq_some_iff.1 h
  simp only [Option.map_eq_some_iff] at hz
  obtain ⟨z, hz, rfl⟩ := hz
  exact ⟨z, by simp [zeroValue, typeInfo, hi, hz], rfl⟩

/-- The places of a struct's fields. -/
def stPlaces (P : Program) (t : TypeId) : Option (Array (Nat × Nat)) :=
  match P.underlying t with
  | some (.struct fields) => evalS P (fields.mapM fun f => do pure (f.offset, ← sizeOf f.type))
  | _ => none

theorem WP.buildS {t : TypeId} {ps : List (Nat × Value)} (segs : List (List Value)) (ns : List Nat) {out : List (List Value)} (ha : bdAt ops n tm = some (t, ps)) (hz : zeroC P t = some segs.flatten.toArray)
    (hn : segs.map List.length = ns) {places : Array (Nat × Nat)} (hp : stPlaces P t = some places) (hb : BdL (places[·]?) ns segs ps out)
    (h : WP P ops Q (n + 1) (putL tm (dstOf ops n) (AG out)) g) : WP P ops Q n tm g := by
  obtain ⟨o, parts, ho, hop, hpl⟩ := bdAt_op ha
  obtain ⟨z, hzr, hzc⟩ := zeroC_run hz g.w
  refine WP.val ho ?_ h
  unfold stPlaces at hp
  split at hp
  · rename_i fields hu
    have hpr := evalS_run hp g.w
    unfold execOp
    simp only [hop, Instr.build, Sem.run_bind, hzr, Result.andThen_ok, run_underlying hu, hpr, hzc, hpl, hb.fill hn, Sem.run_pure]
    rfl
  · cases hp

theorem WP.buildA {t e : TypeId} {m size : Nat} {ps : List (Nat × Value)} (segs : List (List Value)) (ns : List Nat) {out : List (List Value)} (ha : bdAt ops n tm = some (t, ps)) (hz : zeroC P t = some segs.flatten.toArray)
    (hn : segs.map List.length = ns) (hp : arElem P t = some (m, e, size)) (hb : BdL (fun i => some (i * size, size)) ns segs ps out)
    (h : WP P ops Q (n + 1) (putL tm (dstOf ops n) (AG out)) g) : WP P ops Q n tm g := by
  obtain ⟨o, parts, ho, hop, hpl⟩ := bdAt_op ha
  obtain ⟨z, hzr, hzc⟩ := zeroC_run hz g.w
  obtain ⟨hu, info, hin, hsz⟩ := arElem_eq hp
  refine WP.val ho ?_ h
  unfold execOp
  have hs : (sizeOf e).run P g.w = .ok size g.w := by simp [sizeOf, typeInfo, hin, hsz]
  simp only [hop, Instr.build, Sem.run_bind, hzr, Result.andThen_ok, run_underlying hu, hs, hzc, hpl, hb.fill hn, Sem.run_pure]
  rfl

/-! ### Slices of arrays -/

theorem Enc.ints {k : IntKind} : ∀ (l : List Int), Enc (Kd.int k) g (l.map (Value.int k)) l
  | [] => rfl
  | x :: l => ⟨[.int k x], _, by simp, rfl, Enc.ints l⟩

theorem Box.relab {l b : Nat} {T : TypeId} {segs : List (List Value)} {ns : List Nat} (h : Box g l b T segs ns) (l' : Nat) : ∃ g', g'.w = g.w ∧ Step (WL [l]) g g' ∧ Box g' l' b T segs ns := by
  obtain ⟨h1, h2, h3⟩ := h
  refine ⟨g.relab l l', rfl, g.relab_step l l', h1, ?_, h3⟩
  show (if g.L b = l then l' else g.L b) = l'
  rw [if_pos h2]

theorem Box.rd {b : Nat} {T : TypeId} {segs : List (List Value)} {ns : List Nat} (hB : Box g 0 b T segs ns) {o m : Nat} {k : IntKind} {d : Arr Int m} (hp : pickSegs segs ns o m = some [encA k d]) (e : TypeId) :
    RdS (Kd.int k) g e (some ⟨b, o, none⟩) m m d.1 := by
  obtain ⟨hb, hl, hn⟩ := hB
  obtain ⟨p1, p2⟩ := pickSegs_ok segs ns o m _ hp hn
  refine ⟨d.2, encA k d, Enc.ints d.1, Nat.le_refl _, .inr ⟨_, rfl, .inr ⟨b, o, _, T, (0, 0), rfl, hl, hb, ?_⟩⟩⟩
  rw [len_encA]
  simpa using p1

def sbAt (P : Program) (ops : List Oper) (n : Nat) (tm : List Value) : Option (Nat × TypeId × Nat × Value × Option Value × Option Value) :=
  match opNow ops n tm with
  | some o => match o.op with
    | .slice t x lo hi none => (arElem P t).map fun q => (q.1, q.2.1, q.2.2, ev tm x, lo.map (ev tm), hi.map (ev tm))
    | _ => none
  | none => none

theorem sbAt_op {m e size : Nat} {v : Value} {lo hi : Option Value} (h : sbAt P ops n tm = some (m, e, size, v, lo, hi)) :
    ∃ o t x lo' hi' i, opNow ops n tm = some o ∧ o.op = .slice t x lo' hi' none ∧ P.underlying t = some (.array m e) ∧ P.info? e = some i ∧ i.size = size ∧ ev tm x = v ∧ lo'.map (ev tm) = lo ∧ hi'.map (ev tm) = hi := by
  unfold sbAt at h
  split at h
  · rename_i o ho
    split at h
    · rename_i t x lo' hi' hop
      simp only [Option.map_eq_some_iff, Prod.mk.injEq] at h
      obtain ⟨⟨m', e', s'⟩, hq, rfl, rfl, rfl, rfl, rfl, rfl⟩ := h
      obtain ⟨hu, i, hi, hsz⟩ := arElem_eq hq
      exact ⟨o, t, x, lo', hi', i, ho, hop, hu, hi, hsz, rfl, rfl, rfl⟩
    · cases h
  · cases h

/-- 'd[i:j]' of an array that nobody writes any more. -/
theorem WP.sliceZ {b : Nat} {T : TypeId} {segs : List (List Value)} {ns : List Nat} (hB : Box g 0 b T segs ns) {o m : Nat} {k : IntKind} {d : Arr Int m} (hp : pickSegs segs ns o m = some [encA k d])
    {e : TypeId} {lo hi : Option Value} (i j : Int) (ha : sbAt P ops n tm = some (m, e, 1, .pointer (some ⟨b, o, none⟩), lo, hi)) (hlo : (lo = none ∧ i = 0) ∨ ∃ k, lo = some (.int k i))
    (hhi : (hi = none ∧ j = (m : Int)) ∨ ∃ k, hi = some (.int k j)) (hb : 0 ≤ i ∧ i ≤ j ∧ j ≤ (m : Int))
    (h : ∀ a', RdS (Kd.int k) g e a' (j.toNat - i.toNat) (m - i.toNat) (sliceI d.1 i j) → WP P ops Q (n + 1) (putL tm (dstOf ops n) (.slice a' (j.toNat - i.toNat) (m - i.toNat))) g) : WP P ops Q n tm g := by
  obtain ⟨o', t, x, lo', hi', inf, ho, hop, hu, hinf, hsz, hx, hl, hh⟩ := sbAt_op ha
  have hbounds : (Instr.sliceBounds false m m lo hi none).run P g.w = .ok (i.toNat, j.toNat, m) g.w := by
    rcases hlo with ⟨rfl, rfl⟩ | ⟨k, rfl⟩ <;> rcases hhi with ⟨rfl, rfl⟩ | ⟨k2, rfl⟩
    · simp [Instr.sliceBounds]
    · have := sliceBound_ok (P := P) (k := k2) (i := j) (y := m) (code := .sliceAlen) (w := g.w) (by omega)
      simp [Instr.sliceBounds, this]
    · have := sliceBound_ok (P := P) (k := k) (i := i) (y := m) (code := .sliceB) (w := g.w) (by omega)
      simp [Instr.sliceBounds, this]
    · have h1 := sliceBound_ok (P := P) (k := k2) (i := j) (y := m) (code := .sliceAlen) (w := g.w) (by omega)
      have h2 := sliceBound_ok (P := P) (k := k) (i := i) (y := j.toNat) (code := .sliceB) (w := g.w) (by omega)
      simp [Instr.sliceBounds, h1, h2]
  have hcut := (hB.rd hp e).cut (i := i.toNat) (j := j.toNat) (by omega) (by omega)
  have hkz : (Kd.int k).sz = 1 := rfl
  have hr : (execOp (ev tm) o').run P g.w = .ok (.value (.slice (if m = i.toNat then some ⟨b, o, none⟩ else (some (⟨b, o, none⟩ : Addr)).map (·.add (i.toNat * (Kd.int k).sz))) (j.toNat - i.toNat) (m - i.toNat))) g.w := by
    unfold execOp
    simp only [hop, Instr.sliceAt, Sem.run_bind, run_underlying hu, Result.andThen_ok, hx, hl, hh, Option.map_none, Instr.sureAddr, Sem.run_pure, hbounds]
    simp [sizeOf, typeInfo, hinf, hsz, hkz]
    split <;> simp_all
  exact WP.val ho hr (h _ hcut)

theorem sliceI_all {m : Nat} {d : Arr Int m} {j : Int} (hj : j.toNat = m) : sliceI d.1 0 j = d.1 := by
  unfold sliceI
  rw [hj]
  exact List.take_of_length_le (by simp [d.2])

/-! ### A text's bytes, and texts of bytes -/

def ivAt (P : Program) (ops : List Oper) (n : Nat) (tm : List Value) : Option (Value × Value) :=
  match opNow ops n tm with
  | some o => match o.op with
    | .index t x i => match P.underlying t with
      | some .string => some (ev tm x, ev tm i)
      | _ => none
    | _ => none
  | none => none

theorem strBytes_get {s : ByteArray} {i : Int} (h : 0 ≤ i ∧ i < (s.size : Int)) : ∃ b, s[i.toNat]? = some b ∧ (b.toNat : Int) = getI (strBytes s) i := by
  obtain ⟨⟨l⟩⟩ := s
  have hlt : i.toNat < l.length := by have : (ByteArray.mk ⟨l⟩).size = l.length := rfl; omega
  refine ⟨l[i.toNat], ?_, ?_⟩
  · rw [getElem?_pos (ByteArray.mk ⟨l⟩) i.toNat (show i.toNat < (ByteArray.mk ⟨l⟩).size from hlt)]; rfl
  · unfold getI strBytes
    rw [List.getD_eq_getElem?_getD]
    simp [List.getElem?_eq_getElem hlt]

theorem WP.indexS {s : ByteArray} {k : IntKind} {i : Int} (ha : ivAt P ops n tm = some (.string s, .int k i)) (h0 : 0 ≤ i ∧ i < (s.size : Int))
    (h : WP P ops Q (n + 1) (putL tm (dstOf ops n) (.int .u8 (getI (strBytes s) i))) g) : WP P ops Q n tm g := by
  unfold ivAt at ha
  split at ha
  · rename_i o ho
    split at ha
    · rename_i t x y hop
      split at ha
      · rename_i hu
        simp only [Option.some.injEq, Prod.mk.injEq] at ha
        obtain ⟨b, hb1, hb2⟩ := strBytes_get h0
        refine WP.val ho ?_ h
        unfold execOp
        simp [hop, ha.1, ha.2, Instr.index, asIntOf, run_underlying hu, h0.1, hb1, ← hb2]
      · cases ha
    · cases ha
  · cases ha

def cvAt (P : Program) (ops : List Oper) (n : Nat) (tm : List Value) : Option (Bool × Value) :=
  match opNow ops n tm with
  | some o => match o.op with
    | .convert src dst x => match P.underlying src, P.underlying dst with
      | some (.slice e), some .string => match P.underlying e with
        | some (.int .u8) => some (true, ev tm x)
        | _ => none
      | _, _ => none
    | _ => none
  | none => none

theorem push_all : ∀ (l : List Int) (s : ByteArray), l.foldl (fun r n => r.push (UInt8.ofNat n.toNat)) s = ⟨s.data ++ (l.map fun x => UInt8.ofNat x.toNat).toArray⟩
  | [], s => by simp
  | x :: l, s => by
    simp only [List.foldl_cons, List.map_cons]
    rw [push_all l]
    simp [ByteArray.push]

theorem WP.toStr {a : Option Addr} {m cp : Nat} {xs : List Int} (hS : SrcS (Kd.int .u8) g a xs) (hm : xs.length = m) (ha : cvAt P ops n tm = some (true, .slice a m cp))
    (h : WP P ops Q (n + 1) (putL tm (dstOf ops n) (.string (bytesStr xs))) g) : WP P ops Q n tm g := by
  subst hm
  unfold cvAt at ha
  split at ha
  · rename_i o ho
    split at ha
    · rename_i src dst x hop
      split at ha
      · rename_i e hs hd
        split at ha
        · rename_i he
          simp only [Option.some.injEq, Prod.mk.injEq, true_and] at ha
          refine WP.val ho ?_ h
          unfold execOp
          simp only [hop, ha, Sem.run_bind, run_convert_bytes_string g.w src dst e a xs.length cp hs he hd]
          obtain ⟨cells, h1, h2⟩ := hS
          have henc : ∀ (xs : List Int) (cells : List Value), Enc (Kd.int .u8) g cells xs → cells = xs.map (Value.int .u8) := by
            intro xs
            induction xs with
            | nil => intro cells h; exact h
            | cons x xs ih =>
              rintro cells ⟨c1, c2, rfl, hc1, hc2⟩
              have hc1' : c1 = [.int .u8 x] := hc1
              rw [hc1', ih _ hc2]; rfl
          have hce := henc _ _ h1
          subst hce
          rcases h2 with ⟨rfl, hnil⟩ | ⟨p, rfl, hc⟩
          · subst hnil; simp [Conv.bytesToString, bytesStr]; rfl
          · have hload := run_loadCells_list (P := P) g.w p (xs.map (Value.int .u8)) hc
            rw [List.length_map] at hload
            rw [run_bytesToString g.w p xs.length cp xs hload, push_all]
            simp [bytesStr]
        · cases ha
      · cases ha
    · cases ha
  · cases ha

/-! ### Equality of arrays and structs -/

def eqAt (ops : List Oper) (n : Nat) (tm : List Value) : Option (Bool × TypeId × Value × Value) :=
  match opNow ops n tm with
  | some o => match o.op with
    | .binOp .eql t x y _ => some (true, t, ev tm x, ev tm y)
    | .binOp .neq t x y _ => some (false, t, ev tm x, ev tm y)
    | _ => none
  | none => none

/-- Two values of a type are the same: b. -/
def EqV (P : Program) (d : Nat) (t : TypeId) (x y : Value) (b : Bool) : Prop := ∀ w, (Op.equalIn d t x y).run P w = .ok b w

theorem EqV.int {d : Nat} {t : TypeId} {k k' : IntKind} {a b : Int} (h : P.underlying t = some (.int k')) : EqV P (d + 1) t (.int k a) (.int k b) (a == b) := fun w => run_equalIn_int w d t k k' a b h
theorem EqV.bool {d : Nat} {t : TypeId} {a b : Bool} (h : P.underlying t = some .bool) : EqV P (d + 1) t (.bool a) (.bool b) (a == b) := fun w => run_equalIn_bool' w d t a b h
theorem EqV.str {d : Nat} {t : TypeId} {a b : ByteArray} (h : P.underlying t = some .string) : EqV P (d + 1) t (.string a) (.string b) (a.toList == b.toList) := fun w => run_equalIn_string w d t a b h

theorem beq_drop {l1 l2 : List Int} {i : Nat} (h1 : i < l1.length) (h2 : i < l2.length) : (l1.drop i == l2.drop i) = ((l1[i] == l2[i]) && (l1.drop (i + 1) == l2.drop (i + 1))) := by
  rw [List.drop_eq_getElem_cons h1, List.drop_eq_getElem_cons h2]; rfl

theorem EqV.arr {d : Nat} {t e : TypeId} {m : Nat} {k : IntKind} {x y : Arr Int m} (ht : arElem P t = some (m, e, 1)) (he : P.underlying e = some (.int k)) :
    EqV P (d + 2) t (AG [encA k x]) (AG [encA k y]) (x.1 == y.1) := by
  intro w
  obtain ⟨hu, info, hin, hsz⟩ := arElem_eq ht
  unfold AG
  rw [run_equalIn_array w (d + 1) _ _ hu hin]
  have hco : P.cellsOf e = 1 := by simp [Program.cellsOf, hin, hsz]
  rw [hco]
  obtain ⟨l1, hl1⟩ := x
  obtain ⟨l2, hl2⟩ := y
  have key : ∀ (r i : Nat), i + r = m → (Op.eqItems (d + 1) e 1 [encA k ⟨l1, hl1⟩].flatten.toArray [encA k ⟨l2, hl2⟩].flatten.toArray (List.range' i r)).run P w = .ok (l1.drop i == l2.drop i) w := by
    intro r
    induction r with
    | zero =>
      intro i hi
      rw [List.drop_eq_nil_of_le (by omega), List.drop_eq_nil_of_le (by omega)]
      simp [Op.eqItems]
    | succ r ih =>
      intro i hi
      have hp : ∀ (l : List Int) (hl : l.length = m) (hlt : i < l.length), (part e [encA k (⟨l, hl⟩ : Arr Int m)].flatten.toArray (i * 1)).run P w = .ok (.int k l[i]) w := by
        intro l hl hlt
        unfold part
        have hag : (isAgg e).run P w = .ok false w := by unfold isAgg; rw [Sem.run_bind, run_underlying he w]; rfl
        rw [Sem.run_bind, hag]
        simp [encA, List.getElem?_eq_getElem hlt]
      simp only [List.range'_succ, Op.eqItems, Sem.run_bind, hp l1 hl1 (by omega), hp l2 hl2 (by omega), Result.andThen_ok, run_equalIn_int w d e k k _ _ he]
      rw [beq_drop (by omega) (by omega)]
      have hih := ih (i + 1) (by omega)
      cases hb : (l1[i] == l2[i])
      · simp
      · simpa using hih
  have := key m 0 (by omega)
  rw [← List.range_eq_range'] at this
  simpa using this

/-- Fields from number i on. -/
def EqFi (P : Program) (d : Nat) (t : TypeId) (xs ys : List (List Value)) (i : Nat) (b : Bool) : Prop :=
  ∀ w, (Op.eqFields d xs.flatten.toArray ys.flatten.toArray ((P.fieldsOf t).toList.drop i)).run P w = .ok b w

/-- A field's value out of segments. -/
def fldSeg (P : Program) (segs : List (List Value)) (ns : List Nat) (f : Field) : Option Value :=
  match tyInfo P f.type with
  | some (agg, size) => (pickSegs segs ns f.offset size).bind (segVal agg)
  | none => none

theorem fldSeg_run {segs : List (List Value)} {ns : List Nat} {f : Field} {v : Value} (h : fldSeg P segs ns f = some v) (hn : segs.map List.length = ns) (w : World) :
    (part f.type segs.flatten.toArray f.offset).run P w = .ok v w := by
  unfold fldSeg at h
  split at h
  · rename_i agg size ht
    obtain ⟨rs, hp, hs⟩ := Option.bind_eq_some_iff.1 h
    obtain ⟨p1, p2⟩ := pickSegs_ok segs ns _ _ _ hp hn
    unfold tyInfo at ht
    cases hu : P.underlying f.type with
    | none => rw [hu] at ht; simp at ht
    | some d =>
      cases hi : P.info? f.type with
      | none => rw [hu, hi] at ht; simp at ht
      | some i =>
        rw [hu, hi] at ht
        simp only [Option.some.injEq, Prod.mk.injEq] at ht
        obtain ⟨hd, hsz⟩ := ht
        have hagg : (isAgg f.type).run P w = .ok agg w := by
          unfold isAgg
          rw [Sem.run_bind, run_underlying hu w, ← hd]
          cases d <;> rfl
        have hl := segVal_ld hs
        unfold part
        rw [Sem.run_bind, hagg]
        cases agg with
        | true =>
          simp only [ldVal, if_true, Option.some.injEq] at hl
          subst hl
          simp only [Result.andThen_ok, if_true, Sem.run_bind, sizeOf, typeInfo, run_program, Sem.run_pure, hi, hsz]
          rw [← p1]
          simp
        | false =>
          simp only [ldVal] at hl
          rw [if_neg (by simp)] at hl
          split at hl
          · rename_i u hu2
            simp only [Option.some.injEq] at hl
            subst hl
            rw [hu2] at p1
            have h0 := congrArg (fun l => l[0]?) p1
            simp only [List.getElem?_take, List.getElem?_drop, Nat.add_zero, List.getElem?_cons_zero] at h0
            have hsp : 0 < size := by rw [hu2] at p2; simp at p2; omega
            rw [if_pos hsp] at h0
            simp [h0]
          · cases hl
  · cases h

def fldAt (P : Program) (t : TypeId) (segs : List (List Value)) (ns : List Nat) (i : Nat) : Option (Bool × TypeId × Value) :=
  match (P.fieldsOf t).toList[i]? with
  | some f => (fldSeg P segs ns f).map fun v => (f.name != "_", f.type, v)
  | none => none

theorem fldAt_eq {t t' : TypeId} {segs : List (List Value)} {ns : List Nat} {i : Nat} {v : Value} (h : fldAt P t segs ns i = some (true, t', v)) :
    ∃ f, (P.fieldsOf t).toList[i]? = some f ∧ f.name ≠ "_" ∧ f.type = t' ∧ fldSeg P segs ns f = some v := by
  unfold fldAt at h
  split at h
  · rename_i f hf
    simp only [Option.map_eq_some_iff, Prod.mk.injEq] at h
    obtain ⟨u, hu, h1, rfl, rfl⟩ := h
    exact ⟨f, hf, by simpa using h1, rfl, hu⟩
  · cases h

theorem EqFi.nil {d : Nat} {t : TypeId} {xs ys : List (List Value)} {i : Nat} (h : (P.fieldsOf t).toList.length ≤ i) : EqFi P d t xs ys i true := fun w => by
  rw [List.drop_eq_nil_of_le h]; simp [Op.eqFields]

theorem EqFi.cons {d : Nat} {t t' : TypeId} {xs ys : List (List Value)} {ns ms : List Nat} {i : Nat} {x y : Value} {a b : Bool} (hn : xs.map List.length = ns) (hm : ys.map List.length = ms)
    (hx : fldAt P t xs ns i = some (true, t', x)) (hy : fldAt P t ys ms i = some (true, t', y)) (he : EqV P d t' x y a) (hr : EqFi P d t xs ys (i + 1) b) : EqFi P d t xs ys i (a && b) := by
  intro w
  obtain ⟨f, hf, hne, rfl, hfx⟩ := fldAt_eq hx
  obtain ⟨f', hf', _, _, hfy⟩ := fldAt_eq hy
  rw [hf] at hf'
  obtain rfl := Option.some.inj hf'
  have hlt : i < (P.fieldsOf t).toList.length := (List.getElem?_eq_some_iff.1 hf).1
  rw [List.drop_eq_getElem_cons hlt, (List.getElem?_eq_some_iff.1 hf).2]
  simp only [Op.eqFields]
  rw [if_pos hne]
  simp only [Sem.run_bind, fldSeg_run hfx hn w, fldSeg_run hfy hm w, Result.andThen_ok, he w]
  cases a
  · simp
  · simpa using hr w

theorem EqFi.one {d : Nat} {t t' : TypeId} {xs ys : List (List Value)} {ns ms : List Nat} {i : Nat} {x y : Value} {a : Bool} (hn : xs.map List.length = ns) (hm : ys.map List.length = ms)
    (hx : fldAt P t xs ns i = some (true, t', x)) (hy : fldAt P t ys ms i = some (true, t', y)) (he : EqV P d t' x y a) (hr : (P.fieldsOf t).toList.length ≤ i + 1) : EqFi P d t xs ys i a := by
  have := EqFi.cons hn hm hx hy he (EqFi.nil hr)
  rwa [Bool.and_true] at this

theorem EqV.struct {d : Nat} {t : TypeId} {xs ys : List (List Value)} {b : Bool} (hu : P.underlying t = some (.struct (P.fieldsOf t))) (hp : P.stoodInHeld t = false)
    (h : EqFi P d t xs ys 0 b) : EqV P (d + 1) t (AG xs) (AG ys) b := by
  intro w
  unfold AG
  rw [run_equalIn_struct w d t _ _ hu hp]
  exact h w

theorem WP.eqV {t : TypeId} {xs ys : List (List Value)} {b : Bool} (ha : eqAt ops n tm = some (true, t, AG xs, AG ys)) (hg : P.eqGuardType P.depth t = false) (he : EqV P 10000 t (AG xs) (AG ys) b)
    (h : WP P ops Q (n + 1) (putL tm (dstOf ops n) (.bool b)) g) : WP P ops Q n tm g := by
  unfold eqAt at ha
  split at ha
  · rename_i o ho
    split at ha
    · rename_i t' x y t2 hop
      simp only [Option.some.injEq, Prod.mk.injEq, true_and] at ha
      obtain ⟨rfl, hx, hy⟩ := ha
      refine WP.val ho ?_ h
      unfold execOp
      unfold AG at hx hy he
      simp only [hop, hx, hy, Sem.run_bind, run_eqGuard_agg g.w .eql _ x y _ _ hg, Result.andThen_ok, run_eql_struct, he g.w, Sem.run_pure]
    · simp at ha
    · cases ha
  · cases ha

theorem WP.neV {t : TypeId} {xs ys : List (List Value)} {b : Bool} (ha : eqAt ops n tm = some (false, t, AG xs, AG ys)) (hg : P.eqGuardType P.depth t = false) (he : EqV P 10000 t (AG xs) (AG ys) b)
    (h : WP P ops Q (n + 1) (putL tm (dstOf ops n) (.bool (!b))) g) : WP P ops Q n tm g := by
  unfold eqAt at ha
  split at ha
  · rename_i o ho
    split at ha
    · simp at ha
    · rename_i t' x y t2 hop
      simp only [Option.some.injEq, Prod.mk.injEq, true_and] at ha
      obtain ⟨rfl, hx, hy⟩ := ha
      refine WP.val ho ?_ h
      unfold execOp
      unfold AG at hx hy he
      simp only [hop, hx, hy, Sem.run_bind, run_eqGuard_agg g.w .neq _ x y _ _ hg, Result.andThen_ok, run_neq_struct, he g.w, Sem.run_pure]
    · cases ha
  · cases ha

/-! ### Parts of values -/

def slA : Value → Option Addr
  | .slice a _ _ => a
  | _ => none
def slC : Value → Nat
  | .slice _ _ c => c
  | _ => 0
def slN : Value → Nat
  | .slice _ n _ => n
  | _ => 0
def ptB : Value → Nat
  | .pointer (some a) => a.block
  | _ => 0

/-! ### Functions as data -/

/-- A function's number, as data. -/
abbrev FnNo := Nat
def Kd.fn : Kd FnNo := ⟨1, fun _ cs f => cs = [.func (.func f) #[] #[]], fun h => by rw [h]; rfl, fun h u hu => by rw [h] at hu; simp at hu; subst hu; rfl, fun _ _ h => h⟩
theorem Kd.o_fn {cs : List Value} {f : FnNo} (h : Kd.fn.R g cs f) : cs = [[.func (.func f) #[] #[]]].flatten := h
end

/-! ### Several slices are lent -/

def GW.lend (g : GW) (S : List Nat) : GW := ⟨g.w, fun k => if g.L k ∈ S then 0 else g.L k⟩
theorem GW.lend_step (g : GW) (S : List Nat) : Step (WL S) g (g.lend S) := ⟨rfl, rfl, rfl, Nat.le_refl _, fun k _ hk => if_neg hk, fun k _ _ => rfl⟩

theorem OwnS.lendTo {α : Type} {kd : Kd α} {g : GW} {l : Nat} {e : TypeId} {a : Option Addr} {n c : Nat} {xs : List α} (h : OwnS kd g l e a n c xs) {S : List Nat} (hS : 0 ∉ S) (hl : l ∈ S) : RdS kd (g.lend S) e a n c xs := by
  obtain ⟨h0, cells, h1, h2, h3⟩ := h
  refine ⟨h0, cells, h1.mono (g.lend_step S) hS, ?_⟩
  rcases h2.2 with ⟨hv, hn⟩ | ⟨b, cap, cur, hv, hb, hg, hnc, _, hcs, htk⟩
  · simp only [Value.slice.injEq] at hv
    obtain ⟨rfl, hz, rfl⟩ := hv
    exact ⟨by omega, .inl ⟨rfl, rfl⟩⟩
  · simp only [Value.slice.injEq] at hv
    obtain ⟨rfl, _, rfl⟩ := hv
    refine ⟨hnc, .inr ⟨_, rfl, .inr ⟨b, 0, cur, e, (0, 0), rfl, ?_, hg, ?_⟩⟩⟩
    · show (if g.L b ∈ S then 0 else g.L b) = 0
      rw [if_pos (by rw [h3 b rfl]; exact hl)]
    · rw [List.drop_zero, h1.len, h0]; exact htk

def GW.back (g g2 : GW) (S : List Nat) : GW := ⟨g2.w, fun k => if k < g.w.heap.size ∧ g.L k ∈ S then g.L k else g2.L k⟩

theorem GW.back_step {g g2 : GW} {S : List Nat} {M : Nat → Prop} (st : Step M (g.lend S) g2) : Step (fun x => x ∈ S ∨ M x) g (g.back g2 S) := by
  refine ⟨st.os, st.tape, st.output, st.size, fun k hk hn => ?_, fun k hk hn => ?_⟩
  · have hkl : g.L k ∉ S := fun e => hn (.inl e)
    have e1 : (g.lend S).L k = g.L k := if_neg hkl
    show (if k < g.w.heap.size ∧ g.L k ∈ S then g.L k else g2.L k) = g.L k
    rw [if_neg (fun e => hkl e.2), st.lab k hk (by rw [e1]; exact fun e => hn (.inr e)), e1]
  · have hkl : g.L k ∉ S := fun e => hn (.inl e)
    have e1 : (g.lend S).L k = g.L k := if_neg hkl
    exact st.old k hk (by rw [e1]; exact fun e => hn (.inr e))

theorem OwnS.backTo {α : Type} {kd : Kd α} {g g2 : GW} {l : Nat} {e : TypeId} {a : Option Addr} {n c : Nat} {xs : List α} (h : OwnS kd g l e a n c xs) {S : List Nat} (hS : 0 ∉ S) (hl : l ∈ S)
    {M : Nat → Prop} (st : Step M (g.lend S) g2) (hM : ¬ M 0) : OwnS kd (g.back g2 S) l e a n c xs := by
  have st3 := GW.back_step st
  obtain ⟨h0, cells, h1, h2, h3⟩ := h
  have hm0 : ¬ (fun x => x ∈ S ∨ M x) 0 := fun e => e.elim hS hM
  refine ⟨h0, cells, h1.mono st3 hm0, ⟨h2.1, ?_⟩, ?_⟩
  · rcases h2.2 with hn | ⟨b, cap, cur, hv, hb, hg, rest⟩
    · exact .inl hn
    · refine .inr ⟨b, cap, cur, hv, hb, ?_, rest⟩
      have hlt : b < g.w.heap.size := (Array.getElem?_eq_some_iff.1 hg).1
      have hLb : g.L b = l := h3 b (by rw [hv]; rfl)
      have e1 : (g.lend S).L b = 0 := if_pos (by rw [hLb]; exact hl)
      show g2.w.heap[b]? = _
      rw [st.old b hlt (by rw [e1]; exact hM)]
      exact hg
  · intro k hk
    have hlt := (h2.lt k hk).2
    show (if k < g.w.heap.size ∧ g.L k ∈ S then g.L k else g2.L k) = l
    rw [if_pos ⟨hlt, by rw [h3 k hk]; exact hl⟩, h3 k hk]

theorem Step.both {A B : List Nat} {a b c : GW} (h : Step (WL A) a b) (k : Step (WL B) b c) : Step (WL (A ++ B)) a c :=
  (h.mono fun _ hx => List.mem_append_left _ hx).trans (k.mono fun _ hx => List.mem_append_right _ hx)

theorem Step.lentS {S : List Nat} {a b : GW} (h : Step (fun x => x ∈ S ∨ NoM x) a b) : Step (WL S) a b := h.mono fun x hx => hx.elim id fun hx => hx.elim

end Go.Lab
