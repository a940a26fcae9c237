/-
  Rules: texts and bytes one out of the other, copies into arrays.
-/
import Derived.Test.YtmdkjjdfbjgaoaaLabJ
import Derived.Lib.ConvBytes
import Derived.Laws.CopyRow
namespace Go.Lab
open Go.RowKit
set_option linter.unusedVariables false

section
variable {P : Program} {Q : Exit → Act → World → Prop} {tm tm' : List Value} {g g' : GW} {c c1 c2 : Code} {ops : List Oper} {n : Nat}

def cbAt (P : Program) (ops : List Oper) (n : Nat) (tm : List Value) : Option (TypeId × Value) :=
  match opNow ops n tm with
  | some o => match o.op with
    | .convert src dst x => match P.underlying src, P.underlying dst with
      | some .string, some (.slice e) => match P.underlying e with
        | some (.int .u8) => some (e, ev tm x)
        | _ => none
      | _, _ => none
    | _ => none
  | none => none

theorem Enc.bytes (s : ByteArray) : Enc (Kd.int .u8) g (s.data.toList.map fun b => Value.int .u8 (b.toNat : Int)) (strBytes s) := by
  have h := Enc.ints (g := g) (k := .u8) (strBytes s)
  unfold strBytes at h ⊢
  rw [List.map_map] at h
  exact h

/-- '[]byte(s)'. -/
theorem WP.toBytes {e : TypeId} {s : ByteArray} (ha : cbAt P ops n tm = some (e, .string s))
    (h : ∀ g' a' c', Step NoM g g' → RdS (Kd.int .u8) g' e a' s.size c' (strBytes s) → WP P ops Q (n + 1) (putL tm (dstOf ops n) (.slice a' s.size c')) g') : WP P ops Q n tm g := by
  unfold cbAt at ha
  split at ha
  · rename_i o ho
    split at ha
    · rename_i src dst x hop
      split at ha
      · rename_i e' hs hd
        split at ha
        · rename_i he
          simp only [Option.some.injEq, Prod.mk.injEq] at ha
          obtain ⟨rfl, hx⟩ := ha
          have hr := Lib.run_convert_string_bytes (P := P) g.w src dst e' s hs hd he
          let g1 : GW := ⟨Lib.bytesWorld g.w e' s, fun k => if k = g.w.heap.size then 0 else g.L k⟩
          have st : Step NoM g g1 := ⟨by simp only [g1, Lib.bytesWorld, World.freeze]; rfl, by simp only [g1, Lib.bytesWorld, World.freeze]; rfl, by simp only [g1, Lib.bytesWorld, World.freeze]; rfl,
            by rw [show g1.w = Lib.bytesWorld g.w e' s from rfl, Lib.bytesWorld_size]; omega, fun k hk _ => if_neg (by omega), fun k hk _ => Lib.bytesWorld_at_old g.w e' s k hk⟩
          refine WP.val (g' := g1) (v := .slice (some ⟨g.w.heap.size, 0, none⟩) s.size (grownCap g.w s.size 0 e')) ho ?_ (h g1 _ _ st ?_)
          · unfold execOp
            simp only [hop, hx, Sem.run_bind, hr]
            rfl
          · have hsl : s.data.toList.length = s.size := rfl
            refine ⟨by simp [strBytes, hsl], _, Enc.bytes s, grownCap_ge g.w s.size 0 e', .inr ⟨_, rfl, .inr ⟨g.w.heap.size, 0, _, e', _, rfl, if_pos rfl, Lib.bytesWorld_at_new g.w e' s, ?_⟩⟩⟩
            unfold Lib.bytesCells
            simp
        · cases ha
      · cases ha
    · cases ha
  · cases ha

/-! ### Copies into arrays -/

def copyA {m : Nat} (d : Arr Int m) (xs : List Int) : Arr Int m := ⟨xs.take m ++ d.1.drop (xs.take m).length, by
  have := d.2
  simp only [List.length_append, List.length_drop, List.length_take]; omega⟩

theorem RdS.none0 {α : Type} {kd : Kd α} {e : TypeId} {a : Option Addr} {m cap : Nat} {xs : List α} (hR : RdS kd g e a m cap xs) (h : a = none) : m = 0 ∧ cap = 0 := by
  rcases hR.nilOr with ⟨_, h1, h2, _⟩ | ⟨p, hp⟩
  · exact ⟨h1, h2⟩
  · rw [hp] at h; cases h
theorem OwnS.none0 {α : Type} {kd : Kd α} {l : Nat} {e : TypeId} {a : Option Addr} {m cap : Nat} {xs : List α} (hO : OwnS kd g l e a m cap xs) (h : a = none) : m = 0 ∧ cap = 0 := by
  obtain ⟨h0, cells, h1, h2, h3⟩ := hO
  rcases h2.2 with ⟨hv, hn⟩ | ⟨b, cap', cur, hv, _⟩
  · simp only [Value.slice.injEq] at hv; exact ⟨hn, hv.2.2⟩
  · simp only [Value.slice.injEq] at hv; rw [h] at hv; cases hv.1

theorem WP.sliceN {t e : TypeId} {m size : Nat} {b o : Nat} (ha : sbAt P ops n tm = some (m, e, size, .pointer (some ⟨b, o, none⟩), none, none))
    (h : WP P ops Q (n + 1) (putL tm (dstOf ops n) (.slice (some ⟨b, o, none⟩) m m)) g) : WP P ops Q n tm g := by
  obtain ⟨o', t', x, lo', hi', inf, ho, hop, hu, hinf, hsz, hx, hl, hh⟩ := sbAt_op ha
  cases lo' <;> simp at hl
  cases hi' <;> simp at hh
  refine WP.val ho ?_ h
  unfold execOp
  simp [hop, Instr.sliceAt, run_underlying hu, hx, Instr.sureAddr, Instr.sliceBounds, sizeOf, typeInfo, hinf, Addr.add]

def cpAt (ops : List Oper) (n : Nat) (tm : List Value) : Option (TypeId × Value × Value) :=
  match opNow ops n tm with
  | some o => match o.op with
    | .call c => match c.callee, c.args.toList, c.argTypes.toList with
      | .builtin .copy, [s, x], [t, t'] => some (t, ev tm s, ev tm x)
      | _, _, _ => none
    | _ => none
  | none => none

/-- 'copy(d[:], xs)' of a block's array. -/
theorem WP.copyB {l b : Nat} {T : TypeId} {segs : List (List Value)} {ns : List Nat} (hB : Box g l b T segs ns) {o m : Nat} {k : IntKind} {d : Arr Int m} (hp : pickSegs segs ns o m = some [encA k d])
    {t e : TypeId} {bytes : Nat} {a : Option Addr} {m2 c2 : Nat} {xs : List Int} (hS : SrcS (Kd.int k) g a xs) (hm2 : xs.length = m2) (ha : cpAt ops n tm = some (t, .slice (some ⟨b, o, none⟩) m m, .slice a m2 c2)) (ht : slFull P t = some (e, 1, bytes, true))
    (hz : a = none → m2 = 0 ∧ c2 = 0) (out : List (List Value)) (ho : putSegs segs ns o [encA k (copyA d xs)] [m] = some out)
    (h : ∀ g', Step (WL [l]) g g' → Box g' l b T out ns → WP P ops Q (n + 1) (putL tm (dstOf ops n) (.int .i64 ((min xs.length m : Nat) : Int))) g') : WP P ops Q n tm g := by
  subst hm2
  obtain ⟨hu, inf, z, hi, h1, _, _, _⟩ := slFull_eq ht
  obtain ⟨hb, hl, hn⟩ := hB
  obtain ⟨e1, e2, e3⟩ := putSegs_ok segs ns o _ [m] out ho hn (by simp [len_encA])
  obtain ⟨p1, p2⟩ := pickSegs_ok segs ns o m _ hp hn
  simp only [List.flatten_cons, List.flatten_nil, List.append_nil, len_encA] at e1 e3 p1 p2
  unfold cpAt at ha
  split at ha
  · rename_i o' ho'
    split at ha
    · rename_i cl hop
      split at ha
      · rename_i s x t1 t2 hcal hargs htys
        simp only [Option.some.injEq, Prod.mk.injEq] at ha
        obtain ⟨rfl, hv1, hv2⟩ := ha
        obtain ⟨cal, args, tys⟩ := cl
        simp only at hcal hargs htys
        have ea : args = #[s, x] := by rw [← Array.toArray_toList (xs := args), hargs]
        have et : tys = #[t1, t2] := by rw [← Array.toArray_toList (xs := tys), htys]
        subst hcal ea et
        have henc : ∀ (xs : List Int) (cells : List Value), Enc (Kd.int k) g cells xs → cells = xs.map (Value.int k) := by
          intro xs
          induction xs with
          | nil => intro cells h; exact h
          | cons x xs ih =>
            rintro cells ⟨c1, c2, rfl, hc1, hc2⟩
            have hc1' : c1 = [.int k x] := hc1
            rw [hc1', ih _ hc2]; rfl
        obtain ⟨cells, f1, f2⟩ := hS
        have hce := henc _ _ f1
        subst hce
        have hlen : ((xs.take m).map (Value.int k)).length = Nat.min xs.length m := by rw [List.length_map, List.length_take, Nat.min_comm]
        have hfit : o + ((xs.take m).map (Value.int k)).length ≤ segs.flatten.toArray.size := by
          rw [hlen, List.size_toArray]; have : Nat.min xs.length m ≤ m := Nat.min_le_right xs.length m; omega
        have hout : segs.flatten.take o ++ (xs.take m).map (Value.int k) ++ segs.flatten.drop (o + ((xs.take m).map (Value.int k)).length) = out.flatten := by
          rw [e1]
          have hd : segs.flatten.drop (o + ((xs.take m).map (Value.int k)).length) = (encA k d).drop (xs.take m).length ++ segs.flatten.drop (o + m) := by
            have hsp : segs.flatten.drop o = encA k d ++ segs.flatten.drop (o + m) := by
              rw [← p1, ← List.drop_drop, List.take_append_drop]
            rw [← List.drop_drop, hsp, List.length_map, List.drop_append_of_le_length (by rw [len_encA, List.length_take]; omega)]
          rw [hd]
          simp only [encA, copyA, List.map_append, List.map_drop, List.append_assoc]
        rcases f2 with ⟨rfl, hnil⟩ | ⟨p, rfl, hc⟩
        · subst hnil
          obtain ⟨_, rfl⟩ := hz rfl
          have hr := run_copy_nil (P := P) g.w t1 t2 o'.type e ⟨b, o, none⟩ m m hu (by simp [hi])
          refine WP.val (g' := g) (v := .int .i64 0) ho' ?_ ?_
          · unfold execOp
            simp only [hop, resolve, invoke, builtin, Sem.run_bind, Sem.run_pure, Result.andThen_ok, List.map_toArray, List.map_cons, List.map_nil, hv1, hv2, List.length_nil, hr]
            rfl
          · have := h g (Step.refl _ _) ⟨by rw [hb]; congr 2; rw [← hout]; simp, hl, e2⟩
            simpa using this
        · have hsrc : ∀ j v, ((xs.take m).map (Value.int k))[j]? = some v → g.w.cell? (p.add j) = some v := by
            intro j v hv
            apply hc
            rw [List.map_take, List.getElem?_take] at hv
            split at hv
            · exact hv
            · cases hv
          have hr := run_copy_row (P := P) g.w t1 t2 o'.type e b o m m p xs.length c2 segs.flatten.toArray T _ hu (by simp [hi, h1]) hb hlen hsrc hfit (by intro v hv; obtain ⟨_, _, rfl⟩ := List.mem_map.1 hv; rfl)
          generalize hw' : g.w.setRow b (segs.flatten.toArray.toList.take o ++ (xs.take m).map (Value.int k) ++ segs.flatten.toArray.toList.drop (o + ((xs.take m).map (Value.int k)).length)).toArray = w' at hr
          have hb' : w'.heap[b]? = some (.cells (segs.flatten.toArray.toList.take o ++ (xs.take m).map (Value.int k) ++ segs.flatten.toArray.toList.drop (o + ((xs.take m).map (Value.int k)).length)).toArray T (0, 0)) := by
            subst hw'; exact setRow_heap g.w b _ _ T _ hb
          have st : Step (fun x => x = l) g ⟨w', g.L⟩ := by
            subst hw'
            exact ⟨rfl, rfl, rfl, by simp [World.setRow], fun _ _ _ => rfl, fun k _ hne => setRow_other g.w b k _ (fun e => hne (show g.L k = l by rw [e, hl]))⟩
          refine WP.val (g' := ⟨w', g.L⟩) (v := .int .i64 ((min xs.length m : Nat) : Int)) ho' ?_ (h ⟨w', g.L⟩ (WL.toW st) ⟨?_, hl, e2⟩)
          · unfold execOp
            simp only [hop, resolve, invoke, builtin, Sem.run_bind, Sem.run_pure, Result.andThen_ok, List.map_toArray, List.map_cons, List.map_nil, hv1, hv2, hr, goInt, hlen]
          · rw [hb']
            congr 2
            rw [← hout]
      · cases ha
    · cases ha
  · cases ha

/-- '[]byte(x)' of bytes: nobody writes them any more. -/
def cmAt (P : Program) (ops : List Oper) (n : Nat) (tm : List Value) : Option Value :=
  match opNow ops n tm with
  | some o => match o.op with
    | .convert src dst x => if src = dst then match P.underlying src with
        | some (.slice e) => match P.underlying e with
          | some (.int .u8) => some (ev tm x)
          | _ => none
        | _ => none
      else none
    | _ => none
  | none => none

theorem WP.markB {l : Nat} {e : TypeId} {a : Option Addr} {m cp : Nat} {xs : List Int} (hO : OwnS (Kd.int .u8) g l e a m cp xs) (hl0 : l ≠ 0) (hpos : 0 < xs.length) (ha : cmAt P ops n tm = some (.slice a m cp))
    (h : ∀ g', Step (WL [l]) g g' → RdS (Kd.int .u8) g' e a m cp xs → WP P ops Q (n + 1) (putL tm (dstOf ops n) (.slice a m cp)) g') : WP P ops Q n tm g := by
  obtain ⟨h0, cells, e1, e2, e3⟩ := hO
  subst h0
  rcases e2.2 with ⟨_, hn⟩ | ⟨b, cap, cur, hv, _, hb, hnc, hcm, hcs, htk⟩
  · omega
  simp only [Value.slice.injEq] at hv
  obtain ⟨rfl, _, rfl⟩ := hv
  have hL : g.L b = l := e3 b rfl
  have hlt : b < g.w.heap.size := (Array.getElem?_eq_some_iff.1 hb).1
  unfold cmAt at ha
  split at ha
  · rename_i o ho
    split at ha
    · rename_i src dst x hop
      split at ha
      · rename_i hsd
        subst hsd
        split at ha
        · rename_i e' hs
          split at ha
          · rename_i he
            simp only [Option.some.injEq] at ha
            let g1 : GW := ⟨g.w.freeze ⟨b, cur.size, none⟩ 1, fun k => if k = b then 0 else g.L k⟩
            have hsh : g.w.shape? b = some (e, cur.size) := by simp [World.shape?, hb]
            have hr : (convert src src (.slice (some ⟨b, 0, none⟩) xs.length cp)).run P g.w = .ok (.slice (some ⟨b, 0, none⟩) xs.length cp) g1.w := by
              simp [convert, run_underlying hs, run_underlying he, markStringish, hsh, g1, Result.andThen]
            have hnew : g1.w.heap[b]? = some (.cells cur e (cur.size, cur.size + 1)) := by
              simp only [g1, World.freeze]
              simp [Array.getElem?_modify, hb]
            have hold : ∀ k, k ≠ b → g1.w.heap[k]? = g.w.heap[k]? := by
              intro k hk
              simp only [g1, World.freeze]
              simp [Array.getElem?_modify, Ne.symm hk]
            have hsz : g1.w.heap.size = g.w.heap.size := by simp [g1, World.freeze]
            have st : Step (WL [l]) g g1 := ⟨by simp [g1, World.freeze], by simp [g1, World.freeze], by simp [g1, World.freeze], by omega,
              fun k hk hm => if_neg (fun e => hm (by simp [WL, e, hL])), fun k hk hm => hold k (fun e => hm (by simp [WL, e, hL]))⟩
            refine WP.val (g' := g1) ho ?_ (h g1 st ⟨rfl, cells, e1.mono st (WL.no1 (Ne.symm hl0)), hnc, .inr ⟨_, rfl, .inr ⟨b, 0, cur, e, _, rfl, if_pos rfl, hnew, ?_⟩⟩⟩)
            · unfold execOp
              simp only [hop, ha, Sem.run_bind, hr]
              rfl
            · rw [List.drop_zero, e1.len]; exact htk
          · cases ha
        · cases ha
      · cases ha
    · cases ha
  · cases ha
/-! A list of a known length, taken apart at once. -/
theorem len_k1 {α : Type} {l : List α} (h : l.length = 1) : ∃ v0, l = [v0] := by
  obtain ⟨v0, r, rfl, q⟩ := len_succ h; obtain rfl := len_zero q; exact ⟨v0, rfl⟩
theorem len_k2 {α : Type} {l : List α} (h : l.length = 2) : ∃ v0 v1, l = [v0, v1] := by
  obtain ⟨v0, r, rfl, q⟩ := len_succ h; obtain ⟨v1, rfl⟩ := len_k1 q; exact ⟨_, _, rfl⟩
theorem len_k3 {α : Type} {l : List α} (h : l.length = 3) : ∃ v0 v1 v2, l = [v0, v1, v2] := by
  obtain ⟨v0, r, rfl, q⟩ := len_succ h; obtain ⟨v1, v2, rfl⟩ := len_k2 q; exact ⟨_, _, _, rfl⟩
theorem len_k4 {α : Type} {l : List α} (h : l.length = 4) : ∃ v0 v1 v2 v3, l = [v0, v1, v2, v3] := by
  obtain ⟨v0, r, rfl, q⟩ := len_succ h; obtain ⟨v1, v2, v3, rfl⟩ := len_k3 q; exact ⟨_, _, _, _, rfl⟩
theorem len_k5 {α : Type} {l : List α} (h : l.length = 5) : ∃ v0 v1 v2 v3 v4, l = [v0, v1, v2, v3, v4] := by
  obtain ⟨v0, r, rfl, q⟩ := len_succ h; obtain ⟨v1, v2, v3, v4, rfl⟩ := len_k4 q; exact ⟨_, _, _, _, _, rfl⟩
theorem len_k6 {α : Type} {l : List α} (h : l.length = 6) : ∃ v0 v1 v2 v3 v4 v5, l = [v0, v1, v2, v3, v4, v5] := by
  obtain ⟨v0, r, rfl, q⟩ := len_succ h; obtain ⟨v1, v2, v3, v4, v5, rfl⟩ := len_k5 q; exact ⟨_, _, _, _, _, _, rfl⟩
theorem len_k7 {α : Type} {l : List α} (h : l.length = 7) : ∃ v0 v1 v2 v3 v4 v5 v6, l = [v0, v1, v2, v3, v4, v5, v6] := by
  obtain ⟨v0, r, rfl, q⟩ := len_succ h; obtain ⟨v1, v2, v3, v4, v5, v6, rfl⟩ := len_k6 q; exact ⟨_, _, _, _, _, _, _, rfl⟩
theorem len_k8 {α : Type} {l : List α} (h : l.length = 8) : ∃ v0 v1 v2 v3 v4 v5 v6 v7, l = [v0, v1, v2, v3, v4, v5, v6, v7] := by
  obtain ⟨v0, r, rfl, q⟩ := len_succ h; obtain ⟨v1, v2, v3, v4, v5, v6, v7, rfl⟩ := len_k7 q; exact ⟨_, _, _, _, _, _, _, _, rfl⟩
theorem len_k9 {α : Type} {l : List α} (h : l.length = 9) : ∃ v0 v1 v2 v3 v4 v5 v6 v7 v8, l = [v0, v1, v2, v3, v4, v5, v6, v7, v8] := by
  obtain ⟨v0, r, rfl, q⟩ := len_succ h; obtain ⟨v1, v2, v3, v4, v5, v6, v7, v8, rfl⟩ := len_k8 q; exact ⟨_, _, _, _, _, _, _, _, _, rfl⟩
theorem len_k10 {α : Type} {l : List α} (h : l.length = 10) : ∃ v0 v1 v2 v3 v4 v5 v6 v7 v8 v9, l = [v0, v1, v2, v3, v4, v5, v6, v7, v8, v9] := by
  obtain ⟨v0, r, rfl, q⟩ := len_succ h; obtain ⟨v1, v2, v3, v4, v5, v6, v7, v8, v9, rfl⟩ := len_k9 q; exact ⟨_, _, _, _, _, _, _, _, _, _, rfl⟩
theorem len_k11 {α : Type} {l : List α} (h : l.length = 11) : ∃ v0 v1 v2 v3 v4 v5 v6 v7 v8 v9 v10, l = [v0, v1, v2, v3, v4, v5, v6, v7, v8, v9, v10] := by
  obtain ⟨v0, r, rfl, q⟩ := len_succ h; obtain ⟨v1, v2, v3, v4, v5, v6, v7, v8, v9, v10, rfl⟩ := len_k10 q; exact ⟨_, _, _, _, _, _, _, _, _, _, _, rfl⟩
theorem len_k12 {α : Type} {l : List α} (h : l.length = 12) : ∃ v0 v1 v2 v3 v4 v5 v6 v7 v8 v9 v10 v11, l = [v0, v1, v2, v3, v4, v5, v6, v7, v8, v9, v10, v11] := by
  obtain ⟨v0, r, rfl, q⟩ := len_succ h; obtain ⟨v1, v2, v3, v4, v5, v6, v7, v8, v9, v10, v11, rfl⟩ := len_k11 q; exact ⟨_, _, _, _, _, _, _, _, _, _, _, _, rfl⟩
theorem len_k13 {α : Type} {l : List α} (h : l.length = 13) : ∃ v0 v1 v2 v3 v4 v5 v6 v7 v8 v9 v10 v11 v12, l = [v0, v1, v2, v3, v4, v5, v6, v7, v8, v9, v10, v11, v12] := by
  obtain ⟨v0, r, rfl, q⟩ := len_succ h; obtain ⟨v1, v2, v3, v4, v5, v6, v7, v8, v9, v10, v11, v12, rfl⟩ := len_k12 q; exact ⟨_, _, _, _, _, _, _, _, _, _, _, _, _, rfl⟩
theorem len_k14 {α : Type} {l : List α} (h : l.length = 14) : ∃ v0 v1 v2 v3 v4 v5 v6 v7 v8 v9 v10 v11 v12 v13, l = [v0, v1, v2, v3, v4, v5, v6, v7, v8, v9, v10, v11, v12, v13] := by
  obtain ⟨v0, r, rfl, q⟩ := len_succ h; obtain ⟨v1, v2, v3, v4, v5, v6, v7, v8, v9, v10, v11, v12, v13, rfl⟩ := len_k13 q; exact ⟨_, _, _, _, _, _, _, _, _, _, _, _, _, _, rfl⟩
theorem len_k15 {α : Type} {l : List α} (h : l.length = 15) : ∃ v0 v1 v2 v3 v4 v5 v6 v7 v8 v9 v10 v11 v12 v13 v14, l = [v0, v1, v2, v3, v4, v5, v6, v7, v8, v9, v10, v11, v12, v13, v14] := by
  obtain ⟨v0, r, rfl, q⟩ := len_succ h; obtain ⟨v1, v2, v3, v4, v5, v6, v7, v8, v9, v10, v11, v12, v13, v14, rfl⟩ := len_k14 q; exact ⟨_, _, _, _, _, _, _, _, _, _, _, _, _, _, _, rfl⟩
theorem len_k16 {α : Type} {l : List α} (h : l.length = 16) : ∃ v0 v1 v2 v3 v4 v5 v6 v7 v8 v9 v10 v11 v12 v13 v14 v15, l = [v0, v1, v2, v3, v4, v5, v6, v7, v8, v9, v10, v11, v12, v13, v14, v15] := by
  obtain ⟨v0, r, rfl, q⟩ := len_succ h; obtain ⟨v1, v2, v3, v4, v5, v6, v7, v8, v9, v10, v11, v12, v13, v14, v15, rfl⟩ := len_k15 q; exact ⟨_, _, _, _, _, _, _, _, _, _, _, _, _, _, _, _, rfl⟩
theorem len_k17 {α : Type} {l : List α} (h : l.length = 17) : ∃ v0 v1 v2 v3 v4 v5 v6 v7 v8 v9 v10 v11 v12 v13 v14 v15 v16, l = [v0, v1, v2, v3, v4, v5, v6, v7, v8, v9, v10, v11, v12, v13, v14, v15, v16] := by
  obtain ⟨v0, r, rfl, q⟩ := len_succ h; obtain ⟨v1, v2, v3, v4, v5, v6, v7, v8, v9, v10, v11, v12, v13, v14, v15, v16, rfl⟩ := len_k16 q; exact ⟨_, _, _, _, _, _, _, _, _, _, _, _, _, _, _, _, _, rfl⟩
theorem len_k18 {α : Type} {l : List α} (h : l.length = 18) : ∃ v0 v1 v2 v3 v4 v5 v6 v7 v8 v9 v10 v11 v12 v13 v14 v15 v16 v17, l = [v0, v1, v2, v3, v4, v5, v6, v7, v8, v9, v10, v11, v12, v13, v14, v15, v16, v17] := by
  obtain ⟨v0, r, rfl, q⟩ := len_succ h; obtain ⟨v1, v2, v3, v4, v5, v6, v7, v8, v9, v10, v11, v12, v13, v14, v15, v16, v17, rfl⟩ := len_k17 q; exact ⟨_, _, _, _, _, _, _, _, _, _, _, _, _, _, _, _, _, _, rfl⟩
theorem len_k19 {α : Type} {l : List α} (h : l.length = 19) : ∃ v0 v1 v2 v3 v4 v5 v6 v7 v8 v9 v10 v11 v12 v13 v14 v15 v16 v17 v18, l = [v0, v1, v2, v3, v4, v5, v6, v7, v8, v9, v10, v11, v12, v13, v14, v15, v16, v17, v18] := by
  obtain ⟨v0, r, rfl, q⟩ := len_succ h; obtain ⟨v1, v2, v3, v4, v5, v6, v7, v8, v9, v10, v11, v12, v13, v14, v15, v16, v17, v18, rfl⟩ := len_k18 q; exact ⟨_, _, _, _, _, _, _, _, _, _, _, _, _, _, _, _, _, _, _, rfl⟩
theorem len_k20 {α : Type} {l : List α} (h : l.length = 20) : ∃ v0 v1 v2 v3 v4 v5 v6 v7 v8 v9 v10 v11 v12 v13 v14 v15 v16 v17 v18 v19, l = [v0, v1, v2, v3, v4, v5, v6, v7, v8, v9, v10, v11, v12, v13, v14, v15, v16, v17, v18, v19] := by
  obtain ⟨v0, r, rfl, q⟩ := len_succ h; obtain ⟨v1, v2, v3, v4, v5, v6, v7, v8, v9, v10, v11, v12, v13, v14, v15, v16, v17, v18, v19, rfl⟩ := len_k19 q; exact ⟨_, _, _, _, _, _, _, _, _, _, _, _, _, _, _, _, _, _, _, _, rfl⟩
theorem len_k21 {α : Type} {l : List α} (h : l.length = 21) : ∃ v0 v1 v2 v3 v4 v5 v6 v7 v8 v9 v10 v11 v12 v13 v14 v15 v16 v17 v18 v19 v20, l = [v0, v1, v2, v3, v4, v5, v6, v7, v8, v9, v10, v11, v12, v13, v14, v15, v16, v17, v18, v19, v20] := by
  obtain ⟨v0, r, rfl, q⟩ := len_succ h; obtain ⟨v1, v2, v3, v4, v5, v6, v7, v8, v9, v10, v11, v12, v13, v14, v15, v16, v17, v18, v19, v20, rfl⟩ := len_k20 q; exact ⟨_, _, _, _, _, _, _, _, _, _, _, _, _, _, _, _, _, _, _, _, _, rfl⟩
theorem len_k22 {α : Type} {l : List α} (h : l.length = 22) : ∃ v0 v1 v2 v3 v4 v5 v6 v7 v8 v9 v10 v11 v12 v13 v14 v15 v16 v17 v18 v19 v20 v21, l = [v0, v1, v2, v3, v4, v5, v6, v7, v8, v9, v10, v11, v12, v13, v14, v15, v16, v17, v18, v19, v20, v21] := by
  obtain ⟨v0, r, rfl, q⟩ := len_succ h; obtain ⟨v1, v2, v3, v4, v5, v6, v7, v8, v9, v10, v11, v12, v13, v14, v15, v16, v17, v18, v19, v20, v21, rfl⟩ := len_k21 q; exact ⟨_, _, _, _, _, _, _, _, _, _, _, _, _, _, _, _, _, _, _, _, _, _, rfl⟩
theorem len_k23 {α : Type} {l : List α} (h : l.length = 23) : ∃ v0 v1 v2 v3 v4 v5 v6 v7 v8 v9 v10 v11 v12 v13 v14 v15 v16 v17 v18 v19 v20 v21 v22, l = [v0, v1, v2, v3, v4, v5, v6, v7, v8, v9, v10, v11, v12, v13, v14, v15, v16, v17, v18, v19, v20, v21, v22] := by
  obtain ⟨v0, r, rfl, q⟩ := len_succ h; obtain ⟨v1, v2, v3, v4, v5, v6, v7, v8, v9, v10, v11, v12, v13, v14, v15, v16, v17, v18, v19, v20, v21, v22, rfl⟩ := len_k22 q; exact ⟨_, _, _, _, _, _, _, _, _, _, _, _, _, _, _, _, _, _, _, _, _, _, _, rfl⟩
theorem len_k24 {α : Type} {l : List α} (h : l.length = 24) : ∃ v0 v1 v2 v3 v4 v5 v6 v7 v8 v9 v10 v11 v12 v13 v14 v15 v16 v17 v18 v19 v20 v21 v22 v23, l = [v0, v1, v2, v3, v4, v5, v6, v7, v8, v9, v10, v11, v12, v13, v14, v15, v16, v17, v18, v19, v20, v21, v22, v23] := by
  obtain ⟨v0, r, rfl, q⟩ := len_succ h; obtain ⟨v1, v2, v3, v4, v5, v6, v7, v8, v9, v10, v11, v12, v13, v14, v15, v16, v17, v18, v19, v20, v21, v22, v23, rfl⟩ := len_k23 q; exact ⟨_, _, _, _, _, _, _, _, _, _, _, _, _, _, _, _, _, _, _, _, _, _, _, _, rfl⟩
end
end Go.Lab
