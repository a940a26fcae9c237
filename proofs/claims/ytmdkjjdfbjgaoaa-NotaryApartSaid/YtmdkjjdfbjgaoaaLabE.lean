/-
  Rules: lengths, new slices, slicing, division; kinds laid open.
-/
import Derived.Test.YtmdkjjdfbjgaoaaLabD
namespace Go.Lab
open Go.RowKit

section
variable {P : Program} {Q : Exit → Act → World → Prop} {tm tm' : List Value} {g g' : GW} {c c1 c2 : Code} {ops : List Oper} {n : Nat}

theorem NX.regw {e : Exit} (hw : g'.w = g.w) (h : NX Q e tm g') : NX Q e tm g := by unfold NX at *; rw [← hw]; exact h
theorem CP.regw (hw : g'.w = g.w) (h : CP P c Q tm g') : CP P c Q tm g := by unfold CP at *; rw [← hw]; exact h
theorem WP.regw (hw : g'.w = g.w) (h : WP P ops Q n tm g') : WP P ops Q n tm g := by unfold WP at *; rw [← hw]; exact h

/-- Of the frame no more is kept than what lives. -/
theorem CP.refr (m : Nat) (live : List (Nat × Value)) (hl : tm.length = m) (h : live.map (fun p => tm[p.1]?) = live.map (fun p => some p.2)) (k : ∀ ds, CP P c Q (bld m live ds) g) : CP P c Q tm g := by
  obtain ⟨ds, rfl⟩ := Fr.open (⟨hl, h⟩ : Fr m live tm)
  exact k ds

def lenAt (P : Program) (ops : List Oper) (n : Nat) (tm : List Value) : Option Value :=
  match opNow ops n tm with
  | some o => match o.op with
    | .call c => match c.callee, c.args.toList, c.argTypes.toList with
      | .builtin .len, [s], [t] => match P.underlying t with
        | some (.slice _) => some (ev tm s)
        | _ => none
      | _, _, _ => none
    | _ => none
  | none => none

theorem WP.len {α : Type} {a : Option Addr} {m cp : Nat} {xs : List α} (hx : xs.length = m) (ha : lenAt P ops n tm = some (.slice a m cp))
    (h : WP P ops Q (n + 1) (putL tm (dstOf ops n) (.int .i64 (xs.length : Int))) g) : WP P ops Q n tm g := by
  subst hx
  unfold lenAt at ha
  split at ha
  · rename_i o ho
    split at ha
    · rename_i c hop
      split at ha
      · rename_i s t hcal hargs htys
        split at ha
        · rename_i e hu
          simp only [Option.some.injEq] at ha
          refine WP.val ho ?_ h
          obtain ⟨cal, args, tys⟩ := c
          simp only at hcal hargs htys
          have ea : args = #[s] := by rw [← Array.toArray_toList (xs := args), hargs]
          have et : tys = #[t] := by rw [← Array.toArray_toList (xs := tys), htys]
          subst hcal ea et
          unfold execOp
          simp [hop, resolve, invoke, builtin, Builtin.len_, run_underlying hu, ha, goInt]
        · cases ha
      · cases ha
    · cases ha
  · cases ha

/-- A whole row out of its parts, in order. -/
theorem fill_all (size : Nat) : ∀ (vs : List Value) (done : List Value) (k : Nat) (cells : Array Value), (∀ v ∈ vs, v.cells.size = size) → done.length = k * size →
    cells.toList.take (k * size) = done → cells.size = (k + vs.length) * size →
    Instr.fill (fun i => some (i * size, size)) cells (vs.zipIdx k |>.map fun p => (p.2, p.1)) = some (done ++ vs.flatMap fun v => v.cells.toList).toArray
  | [], done, k, cells, _, hd, ht, hs => by
    simp only [List.zipIdx_nil, List.map_nil, Instr.fill, List.flatMap_nil, List.append_nil, Option.some.injEq]
    have : cells.toList = done := by rw [← ht, List.take_of_length_le]; simp at hs; simp [hs]
    rw [← this]
  | v :: vs, done, k, cells, hv, hd, ht, hs => by
    have hsz := hv v (by simp)
    simp only [List.zipIdx_cons, List.map_cons, Instr.fill]
    have hroom : k * size + size ≤ cells.size := by
      rw [hs, List.length_cons]
      have : k * size + size = (k + 1) * size := by rw [Nat.succ_mul]
      rw [this]; exact Nat.mul_le_mul_right _ (by omega)
    rw [if_neg (by rw [hsz]; simp; omega)]
    have key : ∀ (l : List Value) (j : Nat) (cs : Array Value), k * size + j + l.length ≤ cs.size →
        (l.zipIdx j).foldl (fun cs (p : Value × Nat) => cs.setIfInBounds (k * size + p.2) p.1) cs =
          (cs.toList.take (k * size + j) ++ l ++ cs.toList.drop (k * size + j + l.length)).toArray := by
      intro l
      induction l with
      | nil => intro j cs _; simp
      | cons x l ih =>
        intro j cs hle
        simp only [List.length_cons] at hle
        simp only [List.zipIdx_cons, List.foldl_cons]
        rw [ih (j + 1) _ (by simp; omega)]
        have hset : (cs.setIfInBounds (k * size + j) x).toList = cs.toList.take (k * size + j) ++ x :: cs.toList.drop (k * size + j + 1) := by
          rw [Array.toList_setIfInBounds, List.set_eq_take_append_cons_drop, if_pos (by simp; omega)]
        have hlt : (cs.toList.take (k * size + j)).length = k * size + j := by rw [List.length_take]; simp; omega
        apply Array.toList_inj.1
        simp only [hset, List.length_cons]
        rw [take_app (by rw [hlt]; omega), drop_app (by rw [hlt]; omega), hlt, show k * size + (j + 1) - (k * size + j) = 1 by omega,
          show k * size + (j + 1) + l.length - (k * size + j) = 1 + l.length by omega]
        simp only [List.take_succ_cons, List.take_zero, List.append_assoc, List.cons_append, List.nil_append, Nat.add_comm 1, List.drop_succ_cons, List.drop_drop]
        congr 3
        congr 1
        omega
    have hcv : (v.cells.zipIdx.foldl (fun cs (c, j) => cs.setIfInBounds (k * size + j) c) cells) =
        (cells.toList.take (k * size) ++ v.cells.toList ++ cells.toList.drop (k * size + v.cells.toList.length)).toArray := by
      have := key v.cells.toList 0 cells (by simp [hsz]; omega)
      simp only [Nat.add_zero] at this
      rw [← this, ← Array.foldl_toList]
      congr 1
      simp
    rw [hcv, ht]
    have hl : v.cells.toList.length = size := by simpa using hsz
    have := fill_all size vs (done ++ v.cells.toList) (k + 1) (done ++ v.cells.toList ++ cells.toList.drop (k * size + v.cells.toList.length)).toArray
      (fun u hu => hv u (by simp [hu])) (by rw [List.length_append, hd, hl, Nat.succ_mul]) ?_ ?_
    · rw [this]
      simp
    · rw [Nat.succ_mul, ← hd, ← hl, ← List.length_append]
      exact List.take_left
    · simp only [List.size_toArray, List.length_append, List.length_drop, hl, hd, Array.length_toList]
      rw [List.length_cons] at hs
      have e1 : (k + 1 + vs.length) * size = (k + (vs.length + 1)) * size := by congr 1; omega
      rw [e1, ← hs]
      omega

def bsAt (ops : List Oper) (n : Nat) (tm : List Value) : Option (TypeId × Nat × List (Nat × Value)) :=
  match opNow ops n tm with
  | some o => match o.op with
    | .buildSlice t len parts => some (t, len, parts.toList.map fun p => (p.1, ev tm p.2))
    | _ => none
  | none => none

theorem WP.mkSl {α : Type} {kd : Kd α} (l : Nat) {t e : TypeId} {bytes : Nat} (vs : List Value) (xs : List α) (ha : bsAt ops n tm = some (t, vs.length, vs.zipIdx.map fun p => (p.2, p.1)))
    (ht : slFull P t = some (e, kd.sz, bytes, true)) (hsmall : vs.length * kd.sz ≤ 16777216) (hpos : 0 < kd.sz) (hm : ∀ v ∈ vs, v.cells.size = kd.sz) (hE : Enc kd g (vs.flatMap fun v => v.cells.toList) xs) (hx : xs.length = vs.length)
    (h : ∀ g' a', Step NoM g g' → OwnS kd g' l e a' vs.length vs.length xs → WP P ops Q (n + 1) (putL tm (dstOf ops n) (.slice a' vs.length vs.length)) g') : WP P ops Q n tm g := by
  obtain ⟨hu, i, z, hi, h1, h2, hz, hzs⟩ := slFull_eq ht
  unfold bsAt at ha
  split at ha
  · rename_i o ho
    split at ha
    · rename_i t' len parts hop
      simp only [Option.some.injEq, Prod.mk.injEq] at ha
      obtain ⟨rfl, rfl, hp⟩ := ha
      have hpl : (parts.map fun (p : Nat × Operand) => (p.1, ev tm p.2)).toList = vs.zipIdx.map fun p => (p.2, p.1) := by rw [Array.toList_map]; exact hp
      have hlen : (vs.flatMap fun v => v.cells.toList).length = vs.length * kd.sz := by rw [hE.len, hx]
      have hr : (execOp (ev tm) o).run P g.w = .ok (.value (.slice (some ⟨g.w.heap.size, 0, none⟩) vs.length vs.length)) (g.new l (.cells (vs.flatMap fun v => v.cells.toList).toArray e)).w := by
        have hfill : ∀ arr : Array Value, arr.size = vs.length * kd.sz → Instr.fill (fun i => some (i * kd.sz, kd.sz)) arr (parts.map fun (p : Nat × Operand) => (p.1, ev tm p.2)).toList = some (vs.flatMap fun v => v.cells.toList).toArray := by
          intro arr harr
          rw [hpl]
          have := fill_all kd.sz vs [] 0 arr hm (by simp) (by simp) (by simpa using harr)
          simpa using this
        have hns : ¬ (vs.length * kd.sz > 2 ^ 24) := by omega
        unfold execOp
        simp only [hop, Instr.buildSlice, Sem.run_bind, run_underlying hu, Result.andThen_ok]
        simp only [sizeOf, typeInfo, Sem.run_bind]
        by_cases hz0 : vs.length * kd.sz = 0
        · have hf := hfill #[] (by simp [hz0])
          have hf2 := hfill ((Array.range (vs.length * kd.sz)).map (#[][· % (#[] : Array Value).size]!)) (by simp)
          simp [hi, h1, hz0, newRow, GW.new] at hf2 ⊢
          rw [hf2]
          simp
        · have hf := hfill ((Array.range (vs.length * kd.sz)).map (z.cells[· % z.cells.size]!)) (by simp)
          have hns' : ¬ (16777216 < vs.length * kd.sz) := by omega
          simp [hi, h1, hz0, hns', zeroValue, typeInfo, hz, newRow, GW.new] at hf ⊢
          rw [hf]
          simp
      refine WP.val ho hr (h _ _ (g.new_step l _) ?_)
      refine own_new hx hE (heap_alloc_new g.w _) (by simp [GW.new]) (g.new_step l _) (Nat.le_refl _) ?_ ?_ ?_
      · have : vs.length ≤ vs.length * kd.sz := Nat.le_mul_of_pos_right _ hpos
        simp only [maxLen]; omega
      · simpa using hlen
      · rw [List.take_of_length_le]
        simp [hlen]
    · cases ha
  · cases ha

def mkAt (ops : List Oper) (n : Nat) (tm : List Value) : Option (TypeId × Value × Value) :=
  match opNow ops n tm with
  | some o => match o.op with
    | .makeSlice t l c => some (t, ev tm l, ev tm c)
    | _ => none
  | none => none

theorem mkAt_op {t : TypeId} {p q : Value} (h : mkAt ops n tm = some (t, p, q)) : ∃ o x y, opNow ops n tm = some o ∧ o.op = .makeSlice t x y ∧ ev tm x = p ∧ ev tm y = q := by
  unfold mkAt at h
  split at h
  · rename_i o ho
    split at h
    · rename_i ty' x i hx
      simp only [Option.some.injEq, Prod.mk.injEq] at h
      exact ⟨o, x, i, ho, by rw [hx, h.1], h.2⟩
    · cases h
  · cases h

theorem Enc.replicate {α : Type} {kd : Kd α} {zs : List Value} {z : α} (hz : kd.R g zs z) : ∀ (m : Nat), Enc kd g (List.replicate m zs).flatten (List.replicate m z)
  | 0 => rfl
  | m + 1 => ⟨zs, _, by simp [List.replicate_succ], hz, Enc.replicate hz m⟩

theorem made_flat (z : Array Value) (m : Nat) : (madeCells z (m * z.size)).toList = (List.replicate m z.toList).flatten := by
  induction m with
  | zero => simp [madeCells]
  | succ m ih =>
    have e : madeCells z ((m + 1) * z.size) = madeCells z (m * z.size) ++ z := by
      apply Array.ext
      · simp [madeCells, Nat.succ_mul]
      · intro i h1 h2
        simp only [madeCells, Array.getElem_map, Array.getElem_range]
        by_cases hi : i < m * z.size
        · rw [Array.getElem_append_left (by simpa [madeCells] using hi)]
          simp
        · have hsz : (madeCells z (m * z.size)).size = m * z.size := by simp [madeCells]
          simp only [madeCells, Array.size_map, Array.size_range] at h1
          have hlt : i - m * z.size < z.size := by rw [Nat.succ_mul] at h1; omega
          rw [Array.getElem_append_right (by simp; omega)]
          have hmod : i % z.size = i - m * z.size := by
            have : i = (i - m * z.size) + m * z.size := by omega
            rw [this, Nat.add_mul_mod_self_right, Nat.mod_eq_of_lt hlt]
            omega
          rw [hmod, getElem!_pos z _ hlt]
          congr 1
          simp
    rw [e, Array.toList_append, ih, ← List.flatten_concat, ← List.replicate_succ']

/-- 'make([]T, n)'. -/
theorem WP.make {α : Type} {kd : Kd α} (l : Nat) {t e : TypeId} {bytes : Nat} {kl kc : IntKind} {i : Int} (ha : mkAt ops n tm = some (t, .int kl i, .int kc i))
    (ht : slFull P t = some (e, kd.sz, bytes, true)) (h0 : 0 ≤ i) (hby : (bytes : Int) * i ≤ 140737488355328) (h63 : i ≤ 9223372036854775807) {z : α}
    (hz : ∀ zv, (P.info? e).bind (·.zero) = some zv → kd.R g zv.cells.toList z)
    (h : ∀ g' a', Step NoM g g' → OwnS kd g' l e a' i.toNat i.toNat (List.replicate i.toNat z) → WP P ops Q (n + 1) (putL tm (dstOf ops n) (.slice a' i.toNat i.toNat)) g') : WP P ops Q n tm g := by
  obtain ⟨hu, inf, zv, hi, h1, h2, hzv, hzs⟩ := slFull_eq ht
  obtain ⟨o, x, y, ho, hop, hx, hy⟩ := mkAt_op ha
  have hr0 := run_make (P := P) g.w t e inf zv hu hi hzv kl kc i i h0 (Int.le_refl _) (by rw [h2]; omega) h63
  have hr : (execOp (ev tm) o).run P g.w = .ok (.value (.slice (some ⟨g.w.heap.size, 0, none⟩) i.toNat i.toNat)) (g.new l (.cells (madeCells zv.cells (i.toNat * inf.size)) e)).w := by
    unfold execOp
    simp [hop, hx, hy, hr0, GW.new]
  have hzR := hz zv (by simp [hi, hzv])
  have hzl := kd.len hzR
  refine WP.val ho hr (h _ _ (g.new_step l _) ?_)
  have hsz : inf.size = zv.cells.size := by rw [h1, hzs]
  refine own_new (by simp) (Enc.replicate hzR i.toNat) (heap_alloc_new g.w _) (by simp [GW.new]) (g.new_step l _) (Nat.le_refl _) ?_ ?_ ?_
  · simp only [maxLen]; omega
  · rw [size_madeCells, h1]
  · rw [hsz, made_flat, List.take_of_length_le]
    have := (Enc.replicate hzR i.toNat).len
    simp only [List.length_replicate] at this
    omega

/-- 'make([]T, 0, n)'. -/
theorem WP.make0 {α : Type} (kd : Kd α) (l : Nat) {t e : TypeId} {bytes : Nat} {kl kc : IntKind} {i : Int} (ha : mkAt ops n tm = some (t, .int kl 0, .int kc i))
    (ht : slFull P t = some (e, kd.sz, bytes, true)) (h0 : 0 ≤ i) (hby : (bytes : Int) * i ≤ 140737488355328) (h63 : i ≤ 9223372036854775807)
    (h : ∀ g' a', Step NoM g g' → OwnS kd g' l e a' 0 i.toNat [] → WP P ops Q (n + 1) (putL tm (dstOf ops n) (.slice a' 0 i.toNat)) g') : WP P ops Q n tm g := by
  obtain ⟨hu, inf, zv, hi, h1, h2, hzv, hzs⟩ := slFull_eq ht
  obtain ⟨o, x, y, ho, hop, hx, hy⟩ := mkAt_op ha
  have hr0 := run_make (P := P) g.w t e inf zv hu hi hzv kl kc 0 i (Int.le_refl _) h0 (by rw [h2]; omega) h63
  have hr : (execOp (ev tm) o).run P g.w = .ok (.value (.slice (some ⟨g.w.heap.size, 0, none⟩) 0 i.toNat)) (g.new l (.cells (madeCells zv.cells (i.toNat * inf.size)) e)).w := by
    unfold execOp
    simp [hop, hx, hy, hr0, GW.new]
  refine WP.val ho hr (h _ _ (g.new_step l _) ?_)
  refine own_new (cs := []) rfl rfl (heap_alloc_new g.w _) (by simp [GW.new]) (g.new_step l _) (Nat.zero_le _) ?_ ?_ ?_
  · simp only [maxLen]; omega
  · rw [size_madeCells, h1]
  · simp

/-! ### Slicing -/

def slAt (P : Program) (ops : List Oper) (n : Nat) (tm : List Value) : Option (TypeId × Nat × Value × Option Value × Option Value) :=
  match opNow ops n tm with
  | some o => match o.op with
    | .slice t x lo hi none => match P.underlying t with
      | some (.slice e) => (P.info? e).map fun i => (e, i.size, ev tm x, lo.map (ev tm), hi.map (ev tm))
      | _ => none
    | _ => none
  | none => none

theorem sliceBound_ok {k : IntKind} {i : Int} {y : Nat} {code : BoundsCode} {w : World} (h : 0 ≤ i ∧ i ≤ y) : (Instr.sliceBound (.int k i) y code).run P w = .ok i.toNat w := by
  simp [Instr.sliceBound, asIntOf, h]

theorem slAt_op {e size : Nat} {v : Value} {lo hi : Option Value} (h : slAt P ops n tm = some (e, size, v, lo, hi)) :
    ∃ o t x lo' hi' i, opNow ops n tm = some o ∧ o.op = .slice t x lo' hi' none ∧ P.underlying t = some (.slice e) ∧ P.info? e = some i ∧ i.size = size ∧ ev tm x = v ∧ lo'.map (ev tm) = lo ∧ hi'.map (ev tm) = hi := by
  unfold slAt at h
  split at h
  · rename_i o ho
    split at h
    · rename_i t x lo' hi' hop
      split at h
      · rename_i e' hu
        cases hi : P.info? e' with
        | none => rw [hi] at h; simp at h
        | some i =>
          rw [hi] at h
          simp only [Option.map_some, Option.some.injEq, Prod.mk.injEq] at h
          obtain ⟨rfl, rfl, rfl, rfl, rfl⟩ := h
          exact ⟨o, t, x, lo', hi', i, ho, hop, hu, hi, rfl, rfl, rfl, rfl⟩
      · cases h
    · cases h
  · cases h

theorem RdS.cut {α : Type} {kd : Kd α} {e : TypeId} {a : Option Addr} {m cp : Nat} {xs : List α} (hR : RdS kd g e a m cp xs) {i j : Nat} (hij : i ≤ j) (hj : j ≤ m) :
    RdS kd g e (if cp = i then a else a.map (·.add (i * kd.sz))) (j - i) (cp - i) ((xs.drop i).take (j - i)) := by
  obtain ⟨h0, cells, h1, h2, h3⟩ := hR
  have hlen : ((xs.drop i).take (j - i)).length = j - i := by rw [List.length_take, List.length_drop]; omega
  refine ⟨hlen, _, (h1.drop i).take (j - i), by omega, ?_⟩
  rcases h3 with ⟨rfl, hc⟩ | ⟨p, rfl, h3 | ⟨b, off, cur, e', fr, rfl, hl, hb, hcur⟩⟩
  · exact .inl ⟨by simp, by omega⟩
  · refine .inr ⟨if cp = i then p else p.add (i * kd.sz), by split <;> rfl, .inl (by omega)⟩
  · by_cases hci : cp = i
    · refine .inr ⟨_, by rw [if_pos hci], .inl (by omega)⟩
    · refine .inr ⟨_, by rw [if_neg hci]; simp only [Option.map_some, add_lit0], .inr ⟨b, off + i * kd.sz, cur, e', fr, rfl, hl, hb, ?_⟩⟩
      rw [← List.drop_drop]
      have h4 := congrArg (fun l => (l.drop (i * kd.sz)).take ((j - i) * kd.sz)) hcur
      simp only [List.drop_take, List.take_take] at h4
      rw [← h4]
      rw [List.length_take]
      generalize min ((j - i) * kd.sz) (cells.length - i * kd.sz) = q
      rw [Nat.min_def]
      split
      · rfl
      · rw [List.take_of_length_le (Nat.le_refl _), List.take_of_length_le (by omega)]

/-- 's[i:j]' of a slice that is read. -/
theorem WP.sliceR {α : Type} {kd : Kd α} {e : TypeId} {a : Option Addr} {m cp : Nat} {xs : List α} (hR : RdS kd g e a m cp xs) {lo hi : Option Value} (i j : Int)
    (ha : slAt P ops n tm = some (e, kd.sz, .slice a m cp, lo, hi)) (hlo : (lo = none ∧ i = 0) ∨ ∃ k, lo = some (.int k i)) (hhi : (hi = none ∧ j = (xs.length : Int)) ∨ ∃ k, hi = some (.int k j))
    (hb : 0 ≤ i ∧ i ≤ j ∧ j ≤ (xs.length : Int))
    (h : ∀ a' c', RdS kd g e a' (j.toNat - i.toNat) c' (sliceI xs i j) → WP P ops Q (n + 1) (putL tm (dstOf ops n) (.slice a' (j.toNat - i.toNat) c')) g) : WP P ops Q n tm g := by
  obtain ⟨o, t, x, lo', hi', inf, ho, hop, hu, hinf, hsz, hx, hl, hh⟩ := slAt_op ha
  have hlen := hR.len
  have hcap : m ≤ cp := by obtain ⟨_, _, _, h2, _⟩ := hR; exact h2
  have hbounds : (Instr.sliceBounds true m cp lo hi none).run P g.w = .ok (i.toNat, j.toNat, cp) g.w := by
    have hj1 : (Instr.sliceBound (.int .i64 j) cp .sliceAcap).run P g.w = .ok j.toNat g.w := sliceBound_ok (by omega)
    rcases hlo with ⟨rfl, rfl⟩ | ⟨k, rfl⟩ <;> rcases hhi with ⟨rfl, rfl⟩ | ⟨k2, rfl⟩
    · simp [Instr.sliceBounds, hlen]
    · have := sliceBound_ok (P := P) (k := k2) (i := j) (y := cp) (code := .sliceAcap) (w := g.w) (by omega)
      simp [Instr.sliceBounds, this]
    · have := sliceBound_ok (P := P) (k := k) (i := i) (y := m) (code := .sliceB) (w := g.w) (by omega)
      simp [Instr.sliceBounds, this, hlen]
    · have h1 := sliceBound_ok (P := P) (k := k2) (i := j) (y := cp) (code := .sliceAcap) (w := g.w) (by omega)
      have h2 := sliceBound_ok (P := P) (k := k) (i := i) (y := j.toNat) (code := .sliceB) (w := g.w) (by omega)
      simp [Instr.sliceBounds, h1, h2]
  have hr : (execOp (ev tm) o).run P g.w = .ok (.value (.slice (if cp = i.toNat then a else a.map (·.add (i.toNat * kd.sz))) (j.toNat - i.toNat) (cp - i.toNat))) g.w := by
    unfold execOp
    simp only [hop, Instr.sliceAt, Sem.run_bind, run_underlying hu, Result.andThen_ok, Instr.slice, hx, hl, hh, Option.map_none]
    simp [hbounds, sizeOf, typeInfo, hinf, hsz]
  refine WP.val ho hr (h _ _ ?_)
  have := hR.cut (i := i.toNat) (j := j.toNat) (by omega) (by omega)
  exact this

/-! ### Division -/

def qrAt (ops : List Oper) (n : Nat) (tm : List Value) : Option (Bool × Value × Value) :=
  match opNow ops n tm with
  | some o => match o.op with
    | .binOp .quo _ x y _ => some (true, ev tm x, ev tm y)
    | .binOp .rem _ x y _ => some (false, ev tm x, ev tm y)
    | _ => none
  | none => none

theorem WP.quo {k : IntKind} {x y : Int} (ha : qrAt ops n tm = some (true, .int k x, .int k y)) (h0 : y ≠ 0)
    (h : WP P ops Q (n + 1) (putL tm (dstOf ops n) (.int k (k.wrap (x.tdiv y)))) g) : WP P ops Q n tm g := by
  unfold qrAt at ha
  split at ha
  · rename_i o ho
    split at ha
    · rename_i t p q t' hop
      simp only [Option.some.injEq, Prod.mk.injEq, true_and] at ha
      obtain ⟨hp, hq⟩ := ha
      refine WP.val ho ?_ h
      unfold execOp
      simp [hop, eqGuard, hp, hq, binOp, Op.intDiv, h0]
    · simp at ha
    · cases ha
  · cases ha
theorem WP.rem {k : IntKind} {x y : Int} (ha : qrAt ops n tm = some (false, .int k x, .int k y)) (h0 : y ≠ 0)
    (h : WP P ops Q (n + 1) (putL tm (dstOf ops n) (.int k (x.tmod y))) g) : WP P ops Q n tm g := by
  unfold qrAt at ha
  split at ha
  · rename_i o ho
    split at ha
    · simp at ha
    · rename_i t p q t' hop
      simp only [Option.some.injEq, Prod.mk.injEq, true_and] at ha
      obtain ⟨hp, hq⟩ := ha
      refine WP.val ho ?_ h
      unfold execOp
      simp [hop, eqGuard, hp, hq, binOp, Op.intDiv, h0]
    · cases ha
  · cases ha
end
end Go.Lab
