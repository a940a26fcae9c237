/-
  Rules: appends to what is full, a slice's parts cut out in place.
-/
import Derived.Test.YtmdkjjdfbjgaoaaLabI
import Derived.Laws.AppendOwn
namespace Go.Lab
open Go.RowKit
set_option linter.unusedVariables false

section
variable {P : Program} {Q : Exit → Act → World → Prop} {tm tm' : List Value} {g g' : GW} {c c1 c2 : Code} {ops : List Oper} {n : Nat}

/-- A slice that may be appended to: it is owned, or it is full. -/
def AppS {α : Type} (kd : Kd α) (g : GW) (l : Nat) (e : TypeId) (a : Option Addr) (n c : Nat) (xs : List α) : Prop :=
  OwnS kd g l e a n c xs ∨ ((∃ p, a = some p) ∧ RdS kd g e a n c xs ∧ n = c)

theorem AppS.len {α : Type} {kd : Kd α} {l : Nat} {e : TypeId} {a : Option Addr} {n c : Nat} {xs : List α} (h : AppS kd g l e a n c xs) : xs.length = n := h.elim (·.len) (·.2.1.len)
theorem OwnS.app {α : Type} {kd : Kd α} {l : Nat} {e : TypeId} {a : Option Addr} {n c : Nat} {xs : List α} (h : OwnS kd g l e a n c xs) : AppS kd g l e a n c xs := .inl h
theorem RdS.app {α : Type} {kd : Kd α} {e : TypeId} {a : Option Addr} {n c : Nat} {xs : List α} (l : Nat) (h : RdS kd g e a n c xs) (hn : n = c) : AppS kd g l e a n c xs := by
  rcases h.nilOr with ⟨rfl, rfl, rfl, rfl⟩ | hp
  · exact .inl (OwnS.nil kd g l e)
  · exact .inr ⟨hp, h, hn⟩
theorem AppS.mono {α : Type} {kd : Kd α} {M : Nat → Prop} {l : Nat} {e : TypeId} {a : Option Addr} {n c : Nat} {xs : List α} (h : AppS kd g l e a n c xs) (hs : Step M g g') (hm : ¬ M 0) (hl : ¬ M l) :
    AppS kd g' l e a n c xs := h.elim (fun h => .inl (h.mono hs hm hl)) fun ⟨hp, h, hn⟩ => .inr ⟨hp, h.mono hs hm, hn⟩
theorem AppS.freeze {α : Type} {kd : Kd α} {l : Nat} {e : TypeId} {a : Option Addr} {n c : Nat} {xs : List α} (h : AppS kd g l e a n c xs) (hl : l ≠ 0) :
    ∃ g', g'.w = g.w ∧ Step (WL [l]) g g' ∧ RdS kd g' e a n c xs := by
  rcases h with h | ⟨hp, h, hn⟩
  · exact h.freeze hl
  · exact ⟨g, rfl, Step.refl _ _, h⟩
theorem AppS.relab {α : Type} {kd : Kd α} {l : Nat} {e : TypeId} {a : Option Addr} {n c : Nat} {xs : List α} (h : AppS kd g l e a n c xs) (hl : l ≠ 0) (l' : Nat) :
    ∃ g', g'.w = g.w ∧ Step (WL [l]) g g' ∧ AppS kd g' l' e a n c xs := by
  rcases h with h | ⟨hp, h, hn⟩
  · obtain ⟨g', hw, st, h⟩ := h.relab hl l'; exact ⟨g', hw, st, .inl h⟩
  · exact ⟨g, rfl, Step.refl _ _, .inr ⟨hp, h, hn⟩⟩

theorem WP.appendA {α : Type} {kd : Kd α} {l : Nat} {t e : TypeId} {bytes : Nat} {a a2 : Option Addr} {m m2 cp c2 : Nat} {xs ys : List α} (hA : AppS kd g l e a m cp xs) (hS : SrcS kd g a2 ys) (hm2 : ys.length = m2)
    (hpos : 0 < ys.length) (ha : apAt ops n tm = some (t, .slice a m cp, .slice a2 m2 c2)) (ht : slFull P t = some (e, kd.sz, bytes, true)) (hl0 : l ≠ 0)
    (hlen : xs.length + ys.length ≤ maxLen) (hby : (xs.length + ys.length) * bytes ≤ 140737488355328)
    (h : ∀ g' a' c', Step (WL [l]) g g' → OwnS kd g' l e a' (m + m2) c' (xs ++ ys) → WP P ops Q (n + 1) (putL tm (dstOf ops n) (.slice a' (m + m2) c')) g') : WP P ops Q n tm g := by
  rcases hA with hO | ⟨⟨p, rfl⟩, hR, rfl⟩
  · exact WP.append hO hS hm2 ha ht hl0 hlen hby h
  · obtain ⟨hu, i, z, hi, h1, h2, hz, hzs⟩ := slFull_eq ht
    have h0 := hR.len
    obtain ⟨cells, e1, hc0⟩ := hR.src
    subst h0
    subst hm2
    obtain ⟨news, f1, f2⟩ := hS
    obtain ⟨o, q1, q2, ho, hop, hp, hq⟩ := apAt_op ha
    have hll : (xs ++ ys).length = xs.length + ys.length := List.length_append
    have h63 : ((xs.length + ys.length : Nat) : Int) ≤ 9223372036854775807 := by simp only [maxLen] at hlen; omega
    have he : Enc kd g (cells ++ news) (xs ++ ys) := e1.append f1
    have hnl : news.length = ys.length * i.size := by rw [f1.len, h1]
    rcases hc0 with ⟨hno, _⟩ | ⟨p', hp', hcx⟩
    · cases hno
    obtain rfl := Option.some.inj hp'
    rcases f2 with ⟨_, hnil⟩ | ⟨ad, rfl, hc⟩
    · rw [hnil] at hpos; exact absurd hpos (by simp)
    have hr := run_append_grow (P := P) g.w t o.type e i z hu hi hz p xs.length xs.length cells (by rw [e1.len, h1]) hcx ad ys.length c2 news hnl hc (by omega) h63
      (growslice_fits (by omega) (by rw [h2]; exact hby))
    have hge := grownCap_ge g.w (xs.length + ys.length) xs.length e
    have hcm := grownCap_le_maxLen g.w (xs.length + ys.length) xs.length e hlen
    have st := GW.newD_step g l (.cells (cells.toArray ++ news.toArray ++ Builtin.zeroCells z.cells (grownCap g.w (xs.length + ys.length) xs.length e - (xs.length + ys.length))) e)
    refine WP.val (g' := g.newD l (.cells (cells.toArray ++ news.toArray ++ Builtin.zeroCells z.cells (grownCap g.w (xs.length + ys.length) xs.length e - (xs.length + ys.length))) e))
      (v := .slice (some ⟨g.w.heap.size, 0, none⟩) (xs.length + ys.length) (grownCap g.w (xs.length + ys.length) xs.length e)) ho ?_ ?_
    · unfold execOp
      simp only [hop, resolve, invoke, builtin, Sem.run_bind, Sem.run_pure, Result.andThen_ok, List.map_toArray, List.map_cons, List.map_nil, hp, hq, hr]
      rfl
    refine h _ (some ⟨g.w.heap.size, 0, none⟩) (grownCap g.w (xs.length + ys.length) xs.length e) st.pure (own_new hll he (GW.newD_blk g l _) (by simp [GW.newD]) st (by omega) hcm ?_ ?_)
    · simp only [Array.size_append, List.size_toArray, size_zeroCells, hzs, e1.len, f1.len, ← Nat.add_mul]
      congr 1
      omega
    · simp only [Array.toList_append, List.append_assoc]
      rw [← List.append_assoc]
      exact take_grown (by rw [List.length_append, e1.len, f1.len, Nat.add_mul])

/-! ### Parts of what is owned -/

def fiAt (ops : List Oper) (n : Nat) (tm : List Value) : Option (TypeId × Value × Nat) :=
  match opNow ops n tm with
  | some o => match o.op with
    | .field t x i => some (t, ev tm x, i)
    | _ => none
  | none => none

/-- A field of a value out of segments. -/
def fiVal (P : Program) (ops : List Oper) (n : Nat) (tm : List Value) (segs : List (List Value)) (ns : List Nat) : Option Value :=
  match fiAt ops n tm with
  | some (t, _, i) => match P.underlying t with
    | some (.struct fs) => (fs[i]?).bind (fldSeg P segs ns)
    | _ => none
  | none => none

theorem WP.field {t : TypeId} {segs : List (List Value)} {ns : List Nat} {v : Value} (hn : segs.map List.length = ns) (ha : (fiAt ops n tm).map (fun x => (x.1, x.2.1)) = some (t, AG segs)) (hv : fiVal P ops n tm segs ns = some v)
    (h : WP P ops Q (n + 1) (putL tm (dstOf ops n) v) g) : WP P ops Q n tm g := by
  unfold fiVal at hv
  cases hf : fiAt ops n tm with
  | none => rw [hf] at hv; cases hv
  | some q =>
    obtain ⟨t', y, i⟩ := q
    rw [hf] at ha hv
    simp only [Option.map_some, Option.some.injEq, Prod.mk.injEq] at ha
    obtain ⟨rfl, rfl⟩ := ha
    simp only [] at hv
    split at hv
    · rename_i fs hu
      obtain ⟨f, hfi, hfs⟩ := Option.bind_eq_some_iff.1 hv
      unfold fiAt at hf
      split at hf
      · rename_i o ho
        split at hf
        · rename_i t2 x i2 hop
          simp only [Option.some.injEq, Prod.mk.injEq] at hf
          obtain ⟨rfl, hx, rfl⟩ := hf
          refine WP.val ho ?_ h
          have hr := fldSeg_run hfs hn g.w
          unfold execOp
          simp only [hop, Instr.field, Sem.run_bind, run_underlying hu, Result.andThen_ok, hfi, hx, AG, asAgg, Sem.run_pure, hr]
        · cases hf
      · cases hf
    · cases hv

def slP (a : Option Addr) (k i size : Nat) : Option Addr := if k = i then a else a.map (·.add (i * size))

def svAt (P : Program) (ops : List Oper) (n : Nat) (tm : List Value) : Option (TypeId × Nat × Value × Option Value × Option Value × Option Value) :=
  match opNow ops n tm with
  | some o => match o.op with
    | .slice t x lo hi mx => match P.underlying t with
      | some (.slice e) => (P.info? e).map fun i => (e, i.size, ev tm x, lo.map (ev tm), hi.map (ev tm), mx.map (ev tm))
      | _ => none
    | _ => none
  | none => none

theorem WP.sliceV {e size : Nat} {a : Option Addr} {m cp : Nat} {lo hi mx : Option Value} (i j : Int) (k : Nat) (ha : svAt P ops n tm = some (e, size, .slice a m cp, lo, hi, mx))
    (hlo : (lo = none ∧ i = 0) ∨ ∃ q, lo = some (.int q i)) (hhi : (hi = none ∧ mx = none ∧ j = (m : Int)) ∨ ∃ q, hi = some (.int q j)) (hmx : (mx = none ∧ k = cp) ∨ ∃ q, mx = some (.int q (k : Int)))
    (hb : 0 ≤ i ∧ i ≤ j ∧ j ≤ (k : Int) ∧ k ≤ cp)
    (h : WP P ops Q (n + 1) (putL tm (dstOf ops n) (.slice (slP a k i.toNat size) (j.toNat - i.toNat) (k - i.toNat))) g) : WP P ops Q n tm g := by
  unfold svAt at ha
  split at ha
  · rename_i o ho
    split at ha
    · rename_i t x lo' hi' mx' hop
      split at ha
      · rename_i e' hu
        cases hinf : P.info? e' with
        | none => rw [hinf] at ha; simp at ha
        | some inf =>
          rw [hinf] at ha
          simp only [Option.map_some, Option.some.injEq, Prod.mk.injEq] at ha
          obtain ⟨rfl, rfl, hx, hl, hh, hm⟩ := ha
          refine WP.val ho ?_ h
          have b1 : ∀ (q : IntKind) (z : Int) (y : Nat) (code : BoundsCode), 0 ≤ z ∧ z ≤ (y : Int) → (Instr.sliceBound (.int q z) y code).run P g.w = .ok z.toNat g.w := fun q z y code hz => sliceBound_ok hz
          have hbounds : (Instr.sliceBounds true m cp lo hi mx).run P g.w = .ok (i.toNat, j.toNat, k) g.w := by
            rcases hmx with ⟨rfl, rfl⟩ | ⟨q3, rfl⟩ <;> rcases hhi with ⟨rfl, hmn, rfl⟩ | ⟨q2, rfl⟩ <;> rcases hlo with ⟨rfl, rfl⟩ | ⟨q1, rfl⟩
            · simp [Instr.sliceBounds]
            · simp [Instr.sliceBounds, b1 q1 i m .sliceB (by omega)]
            · simp [Instr.sliceBounds, b1 q2 j k .sliceAcap (by omega)]
            · simp [Instr.sliceBounds, b1 q2 j k .sliceAcap (by omega), b1 q1 i j.toNat .sliceB (by omega)]
            · cases hmn
            · cases hmn
            · simp [Instr.sliceBounds, b1 q3 k cp .slice3Acap (by omega), b1 q2 j k .slice3B (by omega)]
            · simp [Instr.sliceBounds, b1 q3 k cp .slice3Acap (by omega), b1 q2 j k .slice3B (by omega), b1 q1 i j.toNat .slice3C (by omega)]
          unfold execOp
          simp only [hop, Instr.sliceAt, Sem.run_bind, run_underlying hu, Result.andThen_ok, Instr.slice, hx, hl, hh, hm, hbounds]
          simp [sizeOf, typeInfo, hinf, slP]
      · cases ha
    · cases ha
  · cases ha

theorem OwnS.cap {α : Type} {kd : Kd α} {l : Nat} {e : TypeId} {a : Option Addr} {m cp : Nat} {xs : List α} (h : OwnS kd g l e a m cp xs) : m ≤ cp := by
  obtain ⟨h0, cells, h1, h2, h3⟩ := h
  rcases h2.2 with ⟨hv, hn⟩ | ⟨b, cap, cur, hv, _, hg, hnc, _⟩
  · omega
  · simp only [Value.slice.injEq] at hv
    obtain ⟨_, _, rfl⟩ := hv
    exact hnc

/-- What lies between i and j goes: 'append(s[:i], s[j:]...)'. -/
theorem WP.appendDel {α : Type} {kd : Kd α} {l : Nat} {t e : TypeId} {bytes : Nat} {a : Option Addr} {m cp : Nat} {xs : List α} (hO : OwnS kd g l e a m cp xs) (hl0 : l ≠ 0) {i j : Nat} (hij : i < j) (hj : j ≤ xs.length)
    (ha : apAt ops n tm = some (t, .slice (slP a cp 0 kd.sz) (i - 0) (cp - 0), .slice (slP a cp j kd.sz) (m - j) (cp - j))) (ht : slFull P t = some (e, kd.sz, bytes, true))
    (h : ∀ g', Step (WL [l]) g g' → OwnS kd g' l e a (i + (m - j)) cp (xs.take i ++ xs.drop j) → WP P ops Q (n + 1) (putL tm (dstOf ops n) (.slice a (i + (m - j)) cp)) g') : WP P ops Q n tm g := by
  obtain ⟨hu, inf, z, hi, h1, h2, hz, hzs⟩ := slFull_eq ht
  obtain ⟨h0, cells, e1, e2, e3⟩ := hO
  subst h0
  obtain ⟨o, p, q, ho, hop, hp, hq⟩ := apAt_op ha
  have hm0 : ¬ (fun x => x = l) 0 := fun h => hl0 h.symm
  have hcl := e1.len
  rcases e2.2 with ⟨_, hn⟩ | ⟨b, cap, cur, hv, _, hb, hnc, hcm, hcs, htk⟩
  · omega
  simp only [Value.slice.injEq] at hv
  obtain ⟨rfl, _, rfl⟩ := hv
  have hL : g.L b = l := e3 b rfl
  have hp0 : slP (some ⟨b, 0, none⟩) cp 0 kd.sz = some ⟨b, 0, none⟩ := by unfold slP; split <;> simp [Addr.add]
  rw [hp0, Nat.sub_zero, Nat.sub_zero] at hp
  obtain ⟨ad, had, hsrc⟩ : ∃ ad, slP (some ⟨b, 0, none⟩) cp j kd.sz = some ad ∧ ∀ k u, (cells.drop (j * kd.sz))[k]? = some u → g.w.cell? (ad.add k) = some u := by
    unfold slP
    by_cases hc : cp = j
    · refine ⟨⟨b, 0, none⟩, by rw [if_pos hc], fun k u hu => ?_⟩
      rw [List.drop_eq_nil_of_le (by rw [hcl]; exact Nat.mul_le_mul_right _ (by omega))] at hu
      simp at hu
    · refine ⟨⟨b, j * kd.sz, none⟩, by rw [if_neg hc]; simp [add_lit0], fun k u hu => ?_⟩
      rw [List.getElem?_drop] at hu
      have := e2.cells (g := b) rfl _ u hu
      simpa [add_lit0] using this
  rw [had] at hq
  have hnl : (cells.drop (j * kd.sz)).length = (xs.length - j) * inf.size := by rw [List.length_drop, hcl, h1, Nat.sub_mul]
  have hone : ∀ u ∈ cells.drop (j * kd.sz), u.oneCell' = true := fun u hu => e1.one u (List.mem_of_mem_drop hu)
  have hle : i * kd.sz + (cells.drop (j * kd.sz)).length ≤ xs.length * kd.sz := by
    rw [hnl, h1, ← Nat.add_mul]; exact Nat.mul_le_mul_right _ (by omega)
  have hle2 : xs.length * kd.sz ≤ cur.size := by rw [hcs]; exact Nat.mul_le_mul_right _ hnc
  have hr := run_append_room (P := P) g.w t o.type e inf hu hi b i cp cur hb ad (xs.length - j) (cp - j) (cells.drop (j * kd.sz)) hnl hsrc hone (by omega) (by rw [h1]; omega)
  rw [h1] at hr
  generalize hw' : g.w.setRow b (cur.toList.take (i * kd.sz) ++ cells.drop (j * kd.sz) ++ cur.toList.drop (i * kd.sz + (cells.drop (j * kd.sz)).length)).toArray = w' at hr
  have hb' : w'.heap[b]? = some (.cells (cur.toList.take (i * kd.sz) ++ cells.drop (j * kd.sz) ++ cur.toList.drop (i * kd.sz + (cells.drop (j * kd.sz)).length)).toArray e (0, 0)) := by
    subst hw'; exact setRow_heap g.w b cur _ e _ hb
  have st : Step (fun x => x = l) g ⟨w', g.L⟩ := by
    subst hw'
    exact ⟨rfl, rfl, rfl, by simp [World.setRow], fun _ _ _ => rfl, fun k _ hne => setRow_other g.w b k _ (fun e => hne (show g.L k = l by rw [e, hL]))⟩
  have hll : (xs.take i ++ xs.drop j).length = i + (xs.length - j) := by rw [List.length_append, List.length_take, List.length_drop]; omega
  have htc : cur.toList.take (i * kd.sz) = cells.take (i * kd.sz) := by
    have h9 : cur.toList.take (xs.length * kd.sz) = cells := htk
    rw [← h9, List.take_take, Nat.min_eq_left (Nat.mul_le_mul_right _ (by omega))]
  have hit : (cells.take (i * kd.sz)).length = i * kd.sz := by rw [List.length_take, hcl]; exact Nat.min_eq_left (Nat.mul_le_mul_right _ (by omega))
  refine WP.val (g' := ⟨w', g.L⟩) (v := .slice (some ⟨b, 0, none⟩) (i + (xs.length - j)) cp) ho ?_ ?_
  · unfold execOp
    simp only [hop, resolve, invoke, builtin, Sem.run_bind, Sem.run_pure, Result.andThen_ok, List.map_toArray, List.map_cons, List.map_nil, hp, hq, hr]
  refine h ⟨w', g.L⟩ (WL.toW st) ⟨hll, cells.take (i * kd.sz) ++ cells.drop (j * kd.sz), ((e1.take i).append (e1.drop j)).mono st hm0, ⟨?_, .inr ⟨b, cp, _, rfl, Nat.zero_le _, hb', by omega, hcm, ?_, ?_⟩⟩, ?_⟩
  · rw [List.length_append, hit, hnl, h1, Nat.add_mul]
  · simp only [List.size_toArray, List.length_append, List.length_take, List.length_drop, Array.length_toList]
    rw [List.length_drop] at hle
    omega
  · rw [htc]
    exact take_grown (by rw [List.length_append, hit, hnl, h1, Nat.add_mul])
  · intro k hk
    simp only [Value.ownBlock, Option.some.injEq] at hk
    subst hk
    exact hL

def clAt (ops : List Oper) (n : Nat) (tm : List Value) : Option (TypeId × Value) :=
  match opNow ops n tm with
  | some o => match o.op with
    | .call c => match c.callee, c.args.toList, c.argTypes.toList with
      | .builtin .clear, [s], [t] => some (t, ev tm s)
      | _, _, _ => none
    | _ => none
  | none => none

/-- 'clear' of what lies behind a slice's end. -/
theorem WP.clearT {α : Type} {kd : Kd α} {l : Nat} {t e : TypeId} {bytes : Nat} {a : Option Addr} {m cp : Nat} {xs : List α} (hO : OwnS kd g l e a m cp xs) (hl0 : l ≠ 0) {i j : Nat} (hi : i = m) (hj : i ≤ j ∧ j ≤ cp)
    (ha : clAt ops n tm = some (t, .slice (slP a cp i kd.sz) (j - i) (cp - i))) (ht : slFull P t = some (e, kd.sz, bytes, true)) (hone : ∀ z, zeroC P e = some z → (z.toList.all fun u => u.oneCell') = true)
    (h : ∀ g', Step (WL [l]) g g' → OwnS kd g' l e a m cp xs → WP P ops Q (n + 1) (putL tm (dstOf ops n) (.tuple #[])) g') : WP P ops Q n tm g := by
  subst hi
  obtain ⟨hu, inf, z, hinf, h1, h2, hz, hzs⟩ := slFull_eq ht
  have hzr : (zeroValue e).run P g.w = .ok z g.w := by simp [zeroValue, typeInfo, hinf, hz]
  have hzc : zeroC P e = some z.cells := by simp [zeroC, hinf, hz]
  unfold clAt at ha
  split at ha
  · rename_i o ho
    split at ha
    · rename_i c hop
      split at ha
      · rename_i s t' hcal hargs htys
        simp only [Option.some.injEq, Prod.mk.injEq] at ha
        obtain ⟨rfl, hv⟩ := ha
        obtain ⟨cal, args, tys⟩ := c
        simp only at hcal hargs htys
        have ea : args = #[s] := by rw [← Array.toArray_toList (xs := args), hargs]
        have et : tys = #[t'] := by rw [← Array.toArray_toList (xs := tys), htys]
        subst hcal ea et
        have same : (Builtin.clear_ #[t'] o.type #[.slice (slP a cp i kd.sz) (j - i) (cp - i)]).run P g.w = .ok (.tuple #[]) g.w → WP P ops Q n tm g := by
          intro hr
          refine WP.val ho ?_ (h g (Step.refl _ _) hO)
          unfold execOp
          simp only [hop, resolve, invoke, builtin, Sem.run_bind, Sem.run_pure, Result.andThen_ok, List.map_toArray, List.map_cons, List.map_nil, hv, hr]
        obtain ⟨h0, cells, e1, e2, e3⟩ := hO
        subst h0
        have hcl := e1.len
        by_cases hq : j - xs.length = 0
        · refine same ?_
          rw [hq]
          unfold Builtin.clear_
          cases slP a cp xs.length kd.sz <;> simp [run_underlying hu]
        rcases e2.2 with ⟨hv2, hn⟩ | ⟨b, cap, cur, hv2, _, hb, hnc, hcm, hcs, htk⟩
        · simp only [Value.slice.injEq] at hv2
          omega
        simp only [Value.slice.injEq] at hv2
        obtain ⟨rfl, _, rfl⟩ := hv2
        have hL : g.L b = l := e3 b rfl
        have hm0 : ¬ (fun x => x = l) 0 := fun h => hl0 h.symm
        have hne : cp ≠ xs.length := by omega
        have hpt : slP (some ⟨b, 0, none⟩) cp xs.length kd.sz = some ⟨b, xs.length * kd.sz, none⟩ := by
          unfold slP; rw [if_neg hne]; simp [add_lit0]
        have hzl : (Builtin.zeroCells z.cells (j - xs.length)).toList.length = (j - xs.length) * kd.sz := by simp [size_zeroCells, hzs]
        have hz1 : ∀ u ∈ (Builtin.zeroCells z.cells (j - xs.length)).toList, u.oneCell' = true := by
          intro u hu
          have hall := hone _ hzc
          rw [List.all_eq_true] at hall
          simp only [Builtin.zeroCells, Array.toList_map, List.mem_map] at hu
          obtain ⟨k, hk, rfl⟩ := hu
          refine hall _ ?_
          simp only [Array.toList_range, List.mem_range] at hk
          have hpos : 0 < z.cells.size := by
            rcases Nat.eq_zero_or_pos z.cells.size with h | h
            · rw [h, Nat.mul_zero] at hk; omega
            · exact h
          rw [getElem!_pos z.cells _ (Nat.mod_lt _ hpos), Array.mem_toList_iff]
          exact Array.getElem_mem _
        have hfit : xs.length * kd.sz + (j - xs.length) * kd.sz ≤ cur.size := by
          rw [hcs, ← Nat.add_mul]; exact Nat.mul_le_mul_right _ (by omega)
        have hst := run_storeCells_at P b (xs.length * kd.sz) e (Builtin.zeroCells z.cells (j - xs.length)).toList 0 cur g.w hb (by rw [hzl]; omega) hz1
        rw [Nat.add_zero, hzl] at hst
        generalize hw' : g.w.setRow b (cur.toList.take (xs.length * kd.sz) ++ (Builtin.zeroCells z.cells (j - xs.length)).toList ++ cur.toList.drop (xs.length * kd.sz + (j - xs.length) * kd.sz)).toArray = w' at hst
        have hb' : w'.heap[b]? = some (.cells (cur.toList.take (xs.length * kd.sz) ++ (Builtin.zeroCells z.cells (j - xs.length)).toList ++ cur.toList.drop (xs.length * kd.sz + (j - xs.length) * kd.sz)).toArray e (0, 0)) := by
          subst hw'; exact setRow_heap g.w b cur _ e _ hb
        have st : Step (fun x => x = l) g ⟨w', g.L⟩ := by
          subst hw'
          exact ⟨rfl, rfl, rfl, by simp [World.setRow], fun _ _ _ => rfl, fun k _ hne => setRow_other g.w b k _ (fun e => hne (show g.L k = l by rw [e, hL]))⟩
        have hr : (Builtin.clear_ #[t'] o.type #[.slice (slP (some ⟨b, 0, none⟩) cp xs.length kd.sz) (j - xs.length) (cp - xs.length)]).run P g.w = .ok (.tuple #[]) w' := by
          rw [hpt]
          unfold Builtin.clear_
          obtain ⟨q, hq'⟩ : ∃ q, j - xs.length = q + 1 := ⟨j - xs.length - 1, by omega⟩
          rw [hq'] at hst ⊢
          simp [run_underlying hu, hzr, hst]
        refine WP.val (g' := ⟨w', g.L⟩) (v := .tuple #[]) ho ?_ ?_
        · unfold execOp
          simp only [hop, resolve, invoke, builtin, Sem.run_bind, Sem.run_pure, Result.andThen_ok, List.map_toArray, List.map_cons, List.map_nil, hv, hr]
        have hfit0 : xs.length * kd.sz ≤ cur.size := by rw [hcs]; exact Nat.mul_le_mul_right _ hnc
        have hlt : (cur.toList.take (xs.length * kd.sz)).length = xs.length * kd.sz := by rw [List.length_take, Array.length_toList]; exact Nat.min_eq_left hfit0
        refine h ⟨w', g.L⟩ (WL.toW st) ⟨rfl, cells, e1.mono st hm0, ⟨e2.1, .inr ⟨b, cp, _, rfl, Nat.zero_le _, hb', hnc, hcm, ?_, ?_⟩⟩, ?_⟩
        · simp only [List.size_toArray, List.length_append, hlt, hzl, List.length_drop, Array.length_toList]
          omega
        · show List.take (xs.length * kd.sz) (cur.toList.take (xs.length * kd.sz) ++ (Builtin.zeroCells z.cells (j - xs.length)).toList ++ cur.toList.drop (xs.length * kd.sz + (j - xs.length) * kd.sz)) = cells
          rw [List.append_assoc, take_grown hlt]
          exact htk
        · intro k hk
          simp only [Value.ownBlock, Option.some.injEq] at hk
          subst hk
          exact hL
      · cases ha
    · cases ha
  · cases ha
end
end Go.Lab
