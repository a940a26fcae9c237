/-
  Kinds of data, what is read, what is owned, blocks that are known whole; and how these facts last.
-/
import Derived.Test.YtmdkjjdfbjgaoaaLabA
import Derived.Test.YtmdkjjdfbjgaoaaLabS
namespace Go.Lab
open Go.RowKit

def encA {n : Nat} (k : IntKind) (d : Arr Int n) : List Value := d.1.map (Value.int k)
theorem len_encA {n : Nat} (k : IntKind) (d : Arr Int n) : (encA k d).length = n := by simp [encA, d.2]
def encAA {n m : Nat} (k : IntKind) (d : Arr (Arr Int n) m) : List Value := (d.1.map (encA k)).flatten
theorem len_encAA {n m : Nat} (k : IntKind) (d : Arr (Arr Int n) m) : (encAA k d).length = m * n := by
  obtain ⟨l, rfl⟩ := d
  simp only [encAA]
  induction l with
  | nil => simp
  | cons x l ih => simp only [List.map_cons, List.flatten_cons, List.length_append, len_encA, List.length_cons, ih]; rw [Nat.succ_mul]; omega

/-- An aggregate out of its parts' cells. -/
def AG (segs : List (List Value)) : Value := .agg segs.flatten.toArray

structure Kd (α : Type) where
  sz : Nat
  R : GW → List Value → α → Prop
  len : ∀ {g : GW} {cs : List Value} {x : α}, R g cs x → cs.length = sz
  one : ∀ {g : GW} {cs : List Value} {x : α}, R g cs x → ∀ u ∈ cs, u.oneCell' = true
  mono : ∀ {M : Nat → Prop} {g g' : GW} {cs : List Value} {x : α}, Step M g g' → ¬ M 0 → R g cs x → R g' cs x

def Enc {α : Type} (kd : Kd α) (g : GW) : List Value → List α → Prop
  | cs, [] => cs = []
  | cs, x :: xs => ∃ c1 c2, cs = c1 ++ c2 ∧ kd.R g c1 x ∧ Enc kd g c2 xs

section
variable {α β : Type} {kd : Kd α} {g g' : GW}

theorem Enc.len : ∀ {cs : List Value} {xs : List α}, Enc kd g cs xs → cs.length = xs.length * kd.sz
  | _, [], h => by subst h; simp
  | _, x :: xs, ⟨c1, c2, h, h1, h2⟩ => by subst h; rw [List.length_append, kd.len h1, Enc.len h2, List.length_cons, Nat.succ_mul]; omega

theorem Enc.mono {M : Nat → Prop} (hs : Step M g g') (hm : ¬ M 0) : ∀ {cs : List Value} {xs : List α}, Enc kd g cs xs → Enc kd g' cs xs
  | _, [], h => h
  | _, _ :: _, ⟨c1, c2, h, h1, h2⟩ => ⟨c1, c2, h, kd.mono hs hm h1, Enc.mono hs hm h2⟩

theorem Enc.one : ∀ {cs : List Value} {xs : List α}, Enc kd g cs xs → ∀ u ∈ cs, u.oneCell' = true
  | _, [], h => by subst h; simp
  | _, _ :: _, ⟨c1, c2, h, h1, h2⟩ => by
    subst h
    intro u hu
    rcases List.mem_append.1 hu with hu | hu
    · exact kd.one h1 u hu
    · exact Enc.one h2 u hu

theorem Enc.append : ∀ {cs ds : List Value} {xs ys : List α}, Enc kd g cs xs → Enc kd g ds ys → Enc kd g (cs ++ ds) (xs ++ ys)
  | _, _, [], _, h, k => by subst h; simpa using k
  | _, _, _ :: _, _, ⟨c1, c2, h, h1, h2⟩, k => ⟨c1, _, by subst h; rw [List.append_assoc], h1, Enc.append h2 k⟩

theorem Enc.single {cs : List Value} {x : α} (h : kd.R g cs x) : Enc kd g cs [x] := ⟨cs, [], by simp, h, rfl⟩

theorem Enc.split : ∀ {cs : List Value} {xs : List α} (i : Nat), Enc kd g cs xs →
    Enc kd g (cs.take (i * kd.sz)) (xs.take i) ∧ Enc kd g (cs.drop (i * kd.sz)) (xs.drop i)
  | cs, xs, 0, h => by simp only [Nat.zero_mul, List.take_zero, List.drop_zero]; exact ⟨rfl, h⟩
  | _, [], i + 1, h => by subst h; simp only [List.take_nil, List.drop_nil]; exact ⟨rfl, rfl⟩
  | _, x :: xs, i + 1, ⟨c1, c2, h, h1, h2⟩ => by
    subst h
    have hl := kd.len h1
    have ih := Enc.split i h2
    have e : (i + 1) * kd.sz = c1.length + i * kd.sz := by rw [hl, Nat.succ_mul]; omega
    rw [e, List.take_length_add_append, List.drop_length_add_append]
    exact ⟨⟨c1, _, rfl, h1, ih.1⟩, ih.2⟩

theorem Enc.take {cs : List Value} {xs : List α} (i : Nat) (h : Enc kd g cs xs) : Enc kd g (cs.take (i * kd.sz)) (xs.take i) := (h.split i).1
theorem Enc.drop {cs : List Value} {xs : List α} (i : Nat) (h : Enc kd g cs xs) : Enc kd g (cs.drop (i * kd.sz)) (xs.drop i) := (h.split i).2

theorem Enc.get {cs : List Value} {xs : List α} {i : Nat} {x : α} (h : Enc kd g cs xs) (hx : xs[i]? = some x) :
    kd.R g ((cs.drop (i * kd.sz)).take kd.sz) x := by
  have h1 := h.drop i
  have hi : i < xs.length := (List.getElem?_eq_some_iff.1 hx).1
  rw [List.drop_eq_getElem_cons hi, (List.getElem?_eq_some_iff.1 hx).2] at h1
  obtain ⟨c1, c2, he, hR, _⟩ := h1
  rw [he, ← kd.len hR, List.take_left]
  exact hR

theorem Enc.set {cs ns : List Value} {xs : List α} {i : Nat} {x : α} (h : Enc kd g cs xs) (hi : i < xs.length) (hx : kd.R g ns x) :
    Enc kd g (cs.take (i * kd.sz) ++ ns ++ cs.drop (i * kd.sz + kd.sz)) (xs.set i x) := by
  have h1 := h.take i
  have h2 := h.drop (i + 1)
  rw [List.set_eq_take_append_cons_drop, if_pos hi]
  have e : (i + 1) * kd.sz = i * kd.sz + kd.sz := Nat.succ_mul _ _
  rw [e] at h2
  rw [List.append_assoc]
  exact h1.append ⟨ns, _, rfl, hx, h2⟩
end

/-! ### Kinds -/

def Kd.int (k : IntKind) : Kd Int := ⟨1, fun _ cs x => cs = [.int k x], fun h => by rw [h]; rfl, fun h u hu => by rw [h] at hu; simp at hu; subst hu; rfl, fun _ _ h => h⟩
def Kd.bool : Kd Bool := ⟨1, fun _ cs x => cs = [.bool x], fun h => by rw [h]; rfl, fun h u hu => by rw [h] at hu; simp at hu; subst hu; rfl, fun _ _ h => h⟩
def Kd.str : Kd ByteArray := ⟨1, fun _ cs x => cs = [.string x], fun h => by rw [h]; rfl, fun h u hu => by rw [h] at hu; simp at hu; subst hu; rfl, fun _ _ h => h⟩
def Kd.arrI (n : Nat) (k : IntKind) : Kd (Arr Int n) :=
  ⟨n, fun _ cs x => cs = encA k x, fun h => by rw [h, len_encA], fun h u hu => by rw [h, encA] at hu; simp at hu; obtain ⟨_, _, rfl⟩ := hu; rfl, fun _ _ h => h⟩
/-- A value as it is. -/
def Kd.raw : Kd Value := ⟨1, fun _ cs x => cs = [x] ∧ x.oneCell' = true, fun h => by rw [h.1]; rfl, fun h u hu => by rw [h.1] at hu; simp at hu; subst hu; exact h.2, fun _ _ h => h⟩
def Kd.pair {α β : Type} (a : Kd α) (b : Kd β) : Kd (α × β) :=
  ⟨a.sz + b.sz, fun g cs x => ∃ c1 c2, cs = c1 ++ c2 ∧ a.R g c1 x.1 ∧ b.R g c2 x.2,
   fun ⟨c1, c2, h, h1, h2⟩ => by rw [h, List.length_append, a.len h1, b.len h2],
   fun ⟨c1, c2, h, h1, h2⟩ u hu => by
    rw [h] at hu
    rcases List.mem_append.1 hu with hu | hu
    · exact a.one h1 u hu
    · exact b.one h2 u hu,
   fun hs hm ⟨c1, c2, h, h1, h2⟩ => ⟨c1, c2, h, a.mono hs hm h1, b.mono hs hm h2⟩⟩
def Kd.pull {α β : Type} (a : Kd α) (f : β → α) : Kd β :=
  ⟨a.sz, fun g cs x => a.R g cs (f x), fun h => a.len h, fun h => a.one h, fun hs hm h => a.mono hs hm h⟩

/-- A slice that reads as xs; nobody writes what it leads to. -/
def RdS {α : Type} (kd : Kd α) (g : GW) (_e : TypeId) (a : Option Addr) (n c : Nat) (xs : List α) : Prop :=
  xs.length = n ∧ ∃ cells, Enc kd g cells xs ∧ n ≤ c ∧ ((a = none ∧ c = 0) ∨ ∃ p, a = some p ∧ (n = 0 ∨ ∃ b off cur e' fr, p = ⟨b, off, none⟩ ∧ g.L b = 0 ∧
    g.w.heap[b]? = some (.cells cur e' fr) ∧ (cur.toList.drop off).take cells.length = cells))

theorem Step.blk {M : Nat → Prop} {g g' : GW} {b l : Nat} {o : Obj} (hs : Step M g g') (hm : ¬ M l) (hl : g.L b = l) (hb : g.w.heap[b]? = some o) :
    g'.w.heap[b]? = some o ∧ g'.L b = l := by
  have hlt : b < g.w.heap.size := (Array.getElem?_eq_some_iff.1 hb).1
  exact ⟨by rw [hs.old b hlt (by rw [hl]; exact hm), hb], by rw [hs.lab b hlt (by rw [hl]; exact hm), hl]⟩

theorem RdS.mono {α : Type} {kd : Kd α} {M : Nat → Prop} {g g' : GW} {e : TypeId} {a : Option Addr} {n c : Nat} {xs : List α}
    (h : RdS kd g e a n c xs) (hs : Step M g g') (hm : ¬ M 0) : RdS kd g' e a n c xs := by
  obtain ⟨h0, cells, h1, h2, h3⟩ := h
  refine ⟨h0, cells, h1.mono hs hm, h2, ?_⟩
  rcases h3 with h3 | ⟨p, ha, h3 | ⟨b, off, cur, e', fr, hp, hl, hb, hc⟩⟩
  · exact .inl h3
  · exact .inr ⟨p, ha, .inl h3⟩
  · obtain ⟨hb', hl'⟩ := hs.blk hm hl hb
    exact .inr ⟨p, ha, .inr ⟨b, off, cur, e', fr, hp, hl', hb', hc⟩⟩

def Kd.slice {α : Type} (e : TypeId) (kd : Kd α) : Kd (List α) :=
  ⟨1, fun g cs xs => ∃ a n c, cs = [.slice a n c] ∧ RdS kd g e a n c xs, fun ⟨_, _, _, h, _⟩ => by rw [h]; rfl,
   fun ⟨_, _, _, h, _⟩ u hu => by rw [h] at hu; simp at hu; subst hu; rfl,
   fun hs hm ⟨a, n, c, h, h1⟩ => ⟨a, n, c, h, h1.mono hs hm⟩⟩

/-- A slice whose block is nobody else's, all of it; its label. -/
def OwnS {α : Type} (kd : Kd α) (g : GW) (l : Nat) (e : TypeId) (a : Option Addr) (n c : Nat) (xs : List α) : Prop :=
  xs.length = n ∧ ∃ cells, Enc kd g cells xs ∧ g.w.ownsRow 0 e kd.sz (.slice a n c) n cells ∧
    ∀ k, Value.ownBlock (.slice a n c) = some k → g.L k = l

theorem OwnS.mono {α : Type} {kd : Kd α} {M : Nat → Prop} {g g' : GW} {l : Nat} {e : TypeId} {a : Option Addr} {n c : Nat} {xs : List α}
    (h : OwnS kd g l e a n c xs) (hs : Step M g g') (hm : ¬ M 0) (hl : ¬ M l) : OwnS kd g' l e a n c xs := by
  obtain ⟨h0, cells, h1, h2, h3⟩ := h
  refine ⟨h0, cells, h1.mono hs hm, ⟨h2.1, ?_⟩, ?_⟩
  · rcases h2.2 with hn | ⟨b, cap, cur, hv, hb, hg, rest⟩
    · exact .inl hn
    · refine .inr ⟨b, cap, cur, hv, hb, ?_, rest⟩
      exact (hs.blk hl (h3 b (by rw [hv]; rfl)) hg).1
  · intro k hk
    have := (h2.lt k hk).2
    rw [hs.lab k this (by rw [h3 k hk]; exact hl)]
    exact h3 k hk

theorem OwnS.nil {α : Type} (kd : Kd α) (g : GW) (l : Nat) (e : TypeId) : OwnS kd g l e none 0 0 [] :=
  ⟨rfl, [], rfl, World.ownsRow_nil g.w 0 e kd.sz, fun k hk => by simp [Value.ownBlock] at hk⟩

theorem RdS.nil {α : Type} (kd : Kd α) (g : GW) (e : TypeId) : RdS kd g e none 0 0 [] := ⟨rfl, [], rfl, Nat.le_refl _, .inl ⟨rfl, rfl⟩⟩

/-- The labels of one kind turned. -/
def GW.relab (g : GW) (l l' : Nat) : GW := ⟨g.w, fun k => if g.L k = l then l' else g.L k⟩
def WL (ls : List Nat) : Nat → Prop := fun x => x ∈ ls
theorem WL.no1 {l a : Nat} (h : a ≠ l) : ¬ WL [l] a := by simpa [WL] using h
theorem WL.no2 {l m a : Nat} (h : a ≠ l) (k : a ≠ m) : ¬ WL [l, m] a := by simp [WL, h, k]
theorem WL.no3 {l m p a : Nat} (h : a ≠ l) (k : a ≠ m) (j : a ≠ p) : ¬ WL [l, m, p] a := by simp [WL, h, k, j]
theorem Step.up1 {M : Nat → Prop} {a b : GW} {l : Nat} (h : Step (WL [l]) a b) (h1 : M l) : Step M a b := h.mono (fun x hx => by simp [WL] at hx; subst hx; exact h1)
theorem Step.up2 {M : Nat → Prop} {a b : GW} {l m : Nat} (h : Step (WL [l, m]) a b) (h1 : M l) (h2 : M m) : Step M a b :=
  h.mono (fun x hx => by simp [WL] at hx; rcases hx with rfl | rfl; exact h1; exact h2)
theorem Step.up3 {M : Nat → Prop} {a b : GW} {l m p : Nat} (h : Step (WL [l, m, p]) a b) (h1 : M l) (h2 : M m) (h3 : M p) : Step M a b :=
  h.mono (fun x hx => by simp [WL] at hx; rcases hx with rfl | rfl | rfl; exact h1; exact h2; exact h3)
theorem GW.relab_step (g : GW) (l l' : Nat) : Step (WL [l]) g (g.relab l l') :=
  ⟨rfl, rfl, rfl, Nat.le_refl _, fun k _ hk => if_neg (fun e => hk (by simp [WL, e])), fun k _ _ => rfl⟩
theorem WL.toW {l : Nat} {a b : GW} (h : Step (fun x => x = l) a b) : Step (WL [l]) a b := h.mono (fun x hx => by simp [WL, hx])

/-- An owned slice under another label. -/
theorem OwnS.relab {α : Type} {kd : Kd α} {g : GW} {l : Nat} {e : TypeId} {a : Option Addr} {n c : Nat} {xs : List α} (h : OwnS kd g l e a n c xs) (hl : l ≠ 0) (l' : Nat) :
    ∃ g', g'.w = g.w ∧ Step (WL [l]) g g' ∧ OwnS kd g' l' e a n c xs := by
  obtain ⟨h0, cells, h1, h2, h3⟩ := h
  refine ⟨g.relab l l', rfl, g.relab_step l l', h0, cells, h1.mono (g.relab_step l l') (WL.no1 (Ne.symm hl)), h2, fun k hk => ?_⟩
  show (if g.L k = l then l' else g.L k) = l'
  rw [if_pos (h3 k hk)]

/-- What is owned is given to the pool: nobody writes it any more. -/
theorem OwnS.freeze {α : Type} {kd : Kd α} {g : GW} {l : Nat} {e : TypeId} {a : Option Addr} {n c : Nat} {xs : List α} (h : OwnS kd g l e a n c xs) (hl : l ≠ 0) :
    ∃ g', g'.w = g.w ∧ Step (WL [l]) g g' ∧ RdS kd g' e a n c xs := by
  obtain ⟨g', hw, st, h0, cells, h1, h2, h3⟩ := h.relab hl 0
  refine ⟨g', hw, st, h0, cells, h1, ?_⟩
  rcases h2.2 with ⟨hv, hn⟩ | ⟨b, cap, cur, hv, hb, hg, hnc, _, hcs, htk⟩
  · simp only [Value.slice.injEq] at hv
    obtain ⟨rfl, hz, rfl⟩ := hv
    exact ⟨by omega, .inl ⟨rfl, rfl⟩⟩
  · simp only [Value.slice.injEq] at hv
    obtain ⟨rfl, _, rfl⟩ := hv
    refine ⟨hnc, .inr ⟨_, rfl, .inr ⟨b, 0, cur, e, (0, 0), rfl, h3 b rfl, hg, ?_⟩⟩⟩
    rw [List.drop_zero, h1.len, h0]; exact htk

/-- What an append takes. -/
def SrcS {α : Type} (kd : Kd α) (g : GW) (a : Option Addr) (xs : List α) : Prop :=
  ∃ cells, Enc kd g cells xs ∧ ((a = none ∧ xs = []) ∨ ∃ p, a = some p ∧ ∀ j u, cells[j]? = some u → g.w.cell? (p.add j) = some u)

theorem add_lit0 (b off j : Nat) : (⟨b, off, none⟩ : Addr).add j = ⟨b, off + j, none⟩ := by unfold Addr.add; split <;> simp_all

theorem RdS.src {α : Type} {kd : Kd α} {g : GW} {e : TypeId} {a : Option Addr} {n c : Nat} {xs : List α} (h : RdS kd g e a n c xs) : SrcS kd g a xs := by
  obtain ⟨h0, cells, h1, h2, h3⟩ := h
  refine ⟨cells, h1, ?_⟩
  rcases h3 with ⟨ha, hc⟩ | ⟨p, ha, h3 | ⟨b, off, cur, e', fr, rfl, _, hb, hc⟩⟩
  · exact .inl ⟨ha, List.eq_nil_of_length_eq_zero (by omega)⟩
  · refine .inr ⟨_, ha, fun j u hu => ?_⟩
    have : xs = [] := List.eq_nil_of_length_eq_zero (by omega)
    subst this
    have h1' : cells = [] := h1
    subst h1'
    simp at hu
  · refine .inr ⟨_, ha, fun j u hu => ?_⟩
    rw [add_lit0, cell_of_row g.w b (off + j) cur e' fr hb]
    rw [← hc, List.getElem?_take] at hu
    split at hu
    · rw [List.getElem?_drop] at hu; simpa using hu
    · cases hu

theorem OwnS.src {α : Type} {kd : Kd α} {g : GW} {l : Nat} {e : TypeId} {a : Option Addr} {n c : Nat} {xs : List α} (h : OwnS kd g l e a n c xs) : SrcS kd g a xs := by
  obtain ⟨h0, cells, h1, h2, h3⟩ := h
  refine ⟨cells, h1, ?_⟩
  rcases h2.2 with ⟨hv, hn⟩ | ⟨b, cap, cur, hv, hb, hg, hnc, _, hcs, htk⟩
  · simp only [Value.slice.injEq] at hv
    exact .inl ⟨hv.1, List.eq_nil_of_length_eq_zero (by omega)⟩
  · simp only [Value.slice.injEq] at hv
    refine .inr ⟨_, hv.1, fun j u hu => ?_⟩
    exact h2.cells (by rw [hv.1]; rfl) j u hu

theorem RdS.len {α : Type} {kd : Kd α} {g : GW} {e : TypeId} {a : Option Addr} {n c : Nat} {xs : List α} (h : RdS kd g e a n c xs) : xs.length = n := h.1
theorem OwnS.len {α : Type} {kd : Kd α} {g : GW} {l : Nat} {e : TypeId} {a : Option Addr} {n c : Nat} {xs : List α} (h : OwnS kd g l e a n c xs) : xs.length = n := h.1

/-! ### Blocks that are known whole -/

def Box (g : GW) (l : Nat) (b : Nat) (T : TypeId) (segs : List (List Value)) (ns : List Nat) : Prop :=
  g.w.heap[b]? = some (.cells segs.flatten.toArray T (0, 0)) ∧ g.L b = l ∧ segs.map List.length = ns

theorem Box.mono {M : Nat → Prop} {g g' : GW} {l b : Nat} {T : TypeId} {segs : List (List Value)} {ns : List Nat} (h : Box g l b T segs ns) (hs : Step M g g') (hl : ¬ M l) :
    Box g' l b T segs ns := by
  obtain ⟨h1, h2, h3⟩ := h
  obtain ⟨h1', h2'⟩ := hs.blk hl h2 h1
  exact ⟨h1', h2', h3⟩

theorem Box.lt {g : GW} {l b : Nat} {T : TypeId} {segs : List (List Value)} {ns : List Nat} (h : Box g l b T segs ns) : b < g.w.heap.size :=
  (Array.getElem?_eq_some_iff.1 h.1).1

theorem drop_app {α : Type} {s t : List α} {k : Nat} (h : s.length ≤ k) : (s ++ t).drop k = t.drop (k - s.length) := by
  rw [List.drop_append, List.drop_eq_nil_of_le h, List.nil_append]
theorem take_app {α : Type} {s t : List α} {k : Nat} (h : s.length ≤ k) : (s ++ t).take k = s ++ t.take (k - s.length) := by
  rw [List.take_append, List.take_of_length_le h]

/-- Segments of so many cells in all. -/
def takeSegs : List (List Value) → List Nat → Nat → Option (List (List Value))
  | _, _, 0 => some []
  | s :: ss, n :: ns, k + 1 => if n ≤ k + 1 then (takeSegs ss ns (k + 1 - n)).map (s :: ·) else none
  | _, _, _ => none

def pickSegs : List (List Value) → List Nat → Nat → Nat → Option (List (List Value))
  | ss, ns, 0, k => takeSegs ss ns k
  | _ :: ss, n :: ns, off + 1, k => if n ≤ off + 1 then pickSegs ss ns (off + 1 - n) k else none
  | _, _, _, _ => none

theorem takeSegs_ok : ∀ (ss : List (List Value)) (ns : List Nat) (k : Nat) (rs : List (List Value)), takeSegs ss ns k = some rs → ss.map List.length = ns →
    ss.flatten.take k = rs.flatten ∧ rs.flatten.length = k
  | ss, ns, 0, rs, h, _ => by
    have : rs = [] := by cases ss <;> cases ns <;> simp [takeSegs] at h <;> first | exact h | exact h.symm
    subst this; simp
  | [], _, k + 1, rs, h, _ => by simp [takeSegs] at h
  | _ :: _, [], k + 1, rs, h, _ => by simp [takeSegs] at h
  | s :: ss, n :: ns, k + 1, rs, h, hl => by
    simp only [takeSegs] at h
    simp only [List.map_cons, List.cons.injEq] at hl
    split at h
    · rename_i hn
      cases ht : takeSegs ss ns (k + 1 - n) with
      | none => rw [ht] at h; simp at h
      | some r =>
        rw [ht] at h
        simp only [Option.map_some, Option.some.injEq] at h
        subst h
        obtain ⟨h1, h2⟩ := takeSegs_ok ss ns _ r ht hl.2
        simp only [List.flatten_cons, List.length_append]
        refine ⟨?_, by omega⟩
        rw [take_app (by omega), hl.1, h1]
    · cases h

theorem pickSegs_ok : ∀ (ss : List (List Value)) (ns : List Nat) (off k : Nat) (rs : List (List Value)), pickSegs ss ns off k = some rs → ss.map List.length = ns →
    (ss.flatten.drop off).take k = rs.flatten ∧ rs.flatten.length = k
  | ss, ns, 0, k, rs, h, hl => by
    have h' : takeSegs ss ns k = some rs := by unfold pickSegs at h; exact h
    rw [List.drop_zero]; exact takeSegs_ok ss ns k rs h' hl
  | [], _, off + 1, k, rs, h, _ => by simp [pickSegs] at h
  | _ :: _, [], off + 1, k, rs, h, _ => by simp [pickSegs] at h
  | s :: ss, n :: ns, off + 1, k, rs, h, hl => by
    simp only [pickSegs] at h
    simp only [List.map_cons, List.cons.injEq] at hl
    split at h
    · obtain ⟨h1, h2⟩ := pickSegs_ok ss ns _ k rs h hl.2
      refine ⟨?_, h2⟩
      rw [List.flatten_cons, drop_app (by omega), hl.1]
      exact h1
    · cases h

/-- Segments, some of them anew. -/
def overSegs : List (List Value) → List Nat → List (List Value) → List Nat → Option (List (List Value))
  | ss, _, [], [] => some ss
  | _ :: ss, n :: ns, r :: rs, m :: ms => if n = m then (overSegs ss ns rs ms).map (r :: ·) else none
  | _, _, _, _ => none

def putSegs : List (List Value) → List Nat → Nat → List (List Value) → List Nat → Option (List (List Value))
  | ss, ns, 0, rs, ms => overSegs ss ns rs ms
  | s :: ss, n :: ns, off + 1, rs, ms => if n ≤ off + 1 then (putSegs ss ns (off + 1 - n) rs ms).map (s :: ·) else none
  | _, _, _, _, _ => none

theorem overSegs_ok : ∀ (ss : List (List Value)) (ns : List Nat) (rs : List (List Value)) (ms : List Nat) (out : List (List Value)), overSegs ss ns rs ms = some out →
    ss.map List.length = ns → rs.map List.length = ms → out.flatten = rs.flatten ++ ss.flatten.drop rs.flatten.length ∧ out.map List.length = ns ∧ rs.flatten.length ≤ ss.flatten.length
  | ss, ns, [], ms, out, h, hl, hm => by
    simp only [List.map_nil] at hm
    subst hm
    have : out = ss := by cases ss <;> cases ns <;> simp [overSegs] at h <;> first | exact h | exact h.symm
    subst this
    simp [hl]
  | [], _, _ :: _, _, out, h, _, _ => by simp [overSegs] at h
  | _ :: _, [], _ :: _, _, out, h, _, _ => by simp [overSegs] at h
  | _ :: _, _ :: _, _ :: _, [], out, h, _, _ => by simp [overSegs] at h
  | s :: ss, n :: ns, r :: rs, m :: ms, out, h, hl, hm => by
    simp only [overSegs] at h
    simp only [List.map_cons, List.cons.injEq] at hl hm
    split at h
    · rename_i hn
      cases ht : overSegs ss ns rs ms with
      | none => rw [ht] at h; simp at h
      | some o =>
        rw [ht] at h
        simp only [Option.map_some, Option.some.injEq] at h
        subst h
        obtain ⟨h1, h2, h3⟩ := overSegs_ok ss ns rs ms o ht hl.2 hm.2
        simp only [List.flatten_cons, List.length_append, List.map_cons]
        refine ⟨?_, by rw [h2, hm.1, hn], by omega⟩
        rw [h1, List.append_assoc, drop_app (by omega), show r.length + rs.flatten.length - s.length = rs.flatten.length by omega]
    · cases h

theorem putSegs_ok : ∀ (ss : List (List Value)) (ns : List Nat) (off : Nat) (rs : List (List Value)) (ms : List Nat) (out : List (List Value)), putSegs ss ns off rs ms = some out →
    ss.map List.length = ns → rs.map List.length = ms →
    out.flatten = ss.flatten.take off ++ rs.flatten ++ ss.flatten.drop (off + rs.flatten.length) ∧ out.map List.length = ns ∧ off + rs.flatten.length ≤ ss.flatten.length
  | ss, ns, 0, rs, ms, out, h, hl, hm => by
    have h' : overSegs ss ns rs ms = some out := by unfold putSegs at h; exact h
    obtain ⟨h1, h2, h3⟩ := overSegs_ok ss ns rs ms out h' hl hm
    rw [List.take_zero, List.nil_append, Nat.zero_add]
    exact ⟨h1, h2, h3⟩
  | [], _, off + 1, _, _, out, h, _, _ => by simp [putSegs] at h
  | _ :: _, [], off + 1, _, _, out, h, _, _ => by simp [putSegs] at h
  | s :: ss, n :: ns, off + 1, rs, ms, out, h, hl, hm => by
    simp only [putSegs] at h
    simp only [List.map_cons, List.cons.injEq] at hl
    split at h
    · rename_i hn
      cases ht : putSegs ss ns (off + 1 - n) rs ms with
      | none => rw [ht] at h; simp at h
      | some o =>
        rw [ht] at h
        simp only [Option.map_some, Option.some.injEq] at h
        subst h
        obtain ⟨h1, h2, h3⟩ := putSegs_ok ss ns _ rs ms o ht hl.2 hm
        simp only [List.flatten_cons, List.map_cons, List.length_append]
        refine ⟨?_, by rw [h2, hl.1], by omega⟩
        rw [h1, take_app (by omega), drop_app (by omega), hl.1, show off + 1 + rs.flatten.length - n = off + 1 - n + rs.flatten.length by omega]
        simp only [List.append_assoc]
    · cases h

end Go.Lab
