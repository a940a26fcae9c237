/-
  The rule for a region whose order is open.
-/
import Derived.Test.YtmdkjjdfbjgaoaaLabQ
namespace Go.Lab
open Go.RowKit

section
variable {P : Program} {ops : List Oper} {ld : List Nat} {anc : List (List Nat)} {tm0 : List Value} {fs : List RF} {wr : List (List Nat)} {lab : List Nat}

theorem lstd_set {L : Array Bool} {i j : Nat} (hi : i < L.size) : lstd (L.setIfInBounds i true) j = if j = i then true else lstd L j := by
  unfold lstd
  simp only [Array.getD_eq_getD_getElem?]
  by_cases h : i = j
  · subst h; simp [hi]
  · rw [Array.getElem?_setIfInBounds_ne h, if_neg (Ne.symm h)]

def Stab (lab : List Nat) (f : RF) : Prop :=
  ∀ (M : Nat → Prop) (g g' : GW) (vs : List Value), Step M g g' → ¬ M 0 → (∀ l, M l → l ∈ lab) → (∀ j ∈ f.ls, ∀ l, lab[j]? = some l → ¬ M l) → f.R vs g → f.R vs g'

/-- One operation more. -/
theorem Inv.next {g0 : GW} {L : Array Bool} {ν : Nat → Value} {tm : List Value} {g g' : GW} (C : Chk ops ld anc tm0.length fs wr) (I : Inv P ops ld anc tm0 fs wr lab g0 L ν tm g)
    {i : Nat} {o : Oper} (ho : ops[i]? = some o) (hun : lstd L i = false) (hanc : ∀ k ∈ ancOf anc i, lstd L k = true) {v : Value}
    (hp : i ∉ ld → opVal P ops (envAt ops tm0 ν i) o = some v) (st : Step (WL lab) g0 g')
    (hf : ∀ f ∈ fs, Alive ld wr (L.setIfInBounds i true) f → f.R (f.sup.map fun s => if ldAt ld s = i then v else ν (ldAt ld s)) g') :
    Inv P ops ld anc tm0 fs wr lab g0 (L.setIfInBounds i true) (fun j => if j = i then v else ν j) (putL tm (dsts ops i) v) g' := by
  have hi : i < ops.length := (List.getElem?_eq_some_iff.1 ho).1
  have hiL : i < L.size := by rw [I.sz]; exact hi
  have hset : ∀ j, lstd (L.setIfInBounds i true) j = if j = i then true else lstd L j := fun j => lstd_set hiL
  have hnu : ∀ m, lstd L m = true → (if m = i then v else ν m) = ν m := fun m hm => by
    rw [if_neg]
    intro e; subst e; rw [hun] at hm; cases hm
  refine ⟨by simp [I.sz], ?_, ?_, ?_, ?_, st⟩
  · refine (I.fr.nu (ν' := fun j => if j = i then v else ν j) hnu).put (S' := lstd (L.setIfInBounds i true)) (v := v) (i := i) ?_ ?_ (by simp)
    · intro t ht
      refine lastW_congr fun m _ hd => ?_
      rw [hset, if_neg]
      intro e; subst e; exact ht hd
    · intro t ht
      rw [lastW_top (i := i + 1) (by omega)]
      · simp [lastW, hset, ht]
      · intro m h1 h2 hd
        rw [hset, if_neg (by omega)]
        cases hl : lstd L m with
        | false => rfl
        | true =>
          have := I.cl m h2 hl i (C.meet m i h2 (by omega) (meets_d ht hd))
          rw [hun] at this; cases this
  · intro j oj hj hl hn
    rw [hset] at hl
    have hjl : j < ops.length := (List.getElem?_eq_some_iff.1 hj).1
    by_cases e : j = i
    · subst e
      rw [ho] at hj
      cases hj
      simp only [if_true]
      rw [← hp hn]
      refine Agree.val (fun cs b => C.nosel j o cs b ho) ⟨fun t ht => ?_, fun x hx => by cases x <;> first | rfl | exact absurd rfl (hx _)⟩
      simp only [envAt]
      cases hw : lastW ops (fun _ => true) j t with
      | none => rfl
      | some m => simp only [slotV]; rw [if_neg (by have := (lastW_lt hw).1; omega)]
    · rw [if_neg e] at hl
      simp only [if_neg e]
      rw [← I.pure j oj hj hl hn]
      refine Agree.val (fun cs b => C.nosel j oj cs b hj) ⟨fun t ht => ?_, fun x hx => by cases x <;> first | rfl | exact absurd rfl (hx _)⟩
      simp only [envAt]
      cases hw : lastW ops (fun _ => true) j t with
      | none => rfl
      | some m =>
        simp only [slotV]
        obtain ⟨hm, _, hd⟩ := lastW_lt hw
        exact hnu m (I.cl j hjl hl m (C.meet j m hjl hm (meets_l hj hd ht).1))
  · intro j hj hl k hk
    rw [hset] at hl ⊢
    by_cases e : j = i
    · subst e
      rw [hanc k hk]; simp
    · rw [if_neg e] at hl
      rw [I.cl j hj hl k hk]; simp
  · exact hf

/-- Behind a loud operation the old facts that it did not turn hold on. -/
theorem Inv.old {g0 : GW} {L : Array Bool} {ν : Nat → Value} {tm : List Value} {g g' : GW} (C : Chk ops ld anc tm0.length fs wr) (I : Inv P ops ld anc tm0 fs wr lab g0 L ν tm g)
    (hst : ∀ f ∈ fs, Stab lab f) (h0 : 0 ∉ lab) (hnd : ∀ i j l : Nat, lab[i]? = some l → lab[j]? = some l → i = j)
    {p : Nat} (hp : p < ld.length) (hun : lstd L (ldAt ld p) = false) (hlt : ldAt ld p < L.size) {v : Value} (st : Step (WL (SW lab (wrAt wr p))) g g') {f : RF} (hf : f ∈ fs)
    (ha : Alive ld wr (L.setIfInBounds (ldAt ld p) true) f) (hb : f.b ≠ some p) : f.R (f.sup.map fun s => if ldAt ld s = ldAt ld p then v else ν (ldAt ld s)) g' := by
  have hset : ∀ j, lstd (L.setIfInBounds (ldAt ld p) true) j = if j = ldAt ld p then true else lstd L j := fun j => lstd_set hlt
  have hinj : ∀ q, q < ld.length → ldAt ld q = ldAt ld p → q = p := fun q hq e => by
    have h1 := C.ld_ix q hq
    rw [e, C.ld_ix p hp] at h1
    cases h1; rfl
  have hborn : ∀ q, f.b = some q → lstd L (ldAt ld q) = true := fun q hq => by
    have := ha.1 q hq
    rw [hset, if_neg] at this
    · exact this
    · intro e
      exact hb (by rw [hq, hinj q (C.f_lt f q hf hq) e])
  have hold : Alive ld wr L f := ⟨hborn, fun q hq hh hl => by
    have := ha.2 q hq hh hl
    rw [hset] at this
    split at this
    · cases this
    · exact this⟩
  have hsup : (f.sup.map fun s => if ldAt ld s = ldAt ld p then v else ν (ldAt ld s)) = f.sup.map fun s => ν (ldAt ld s) := by
    refine List.map_congr_left fun s hs => ?_
    rw [if_neg]
    intro e
    cases hfb : f.b with
    | none => rw [C.f_none f hf hfb] at hs; cases hs
    | some q =>
      have hq := hborn q hfb
      obtain ⟨hsl, hor⟩ := C.f_sup f q s hf hfb hs
      have hqp : ldAt ld q < ops.length := C.ld_lt _ (by unfold ldAt; rw [List.getD_eq_getElem?_getD, List.getElem?_eq_getElem (C.f_lt f q hf hfb)]; simp)
      rcases hor with rfl | hor
      · rw [e, hun] at hq; cases hq
      · have := I.cl _ hqp hq _ hor
        rw [e, hun] at this; cases this
  rw [hsup]
  refine hst f hf _ g g' _ st ?_ ?_ ?_ (I.fact f hf hold)
  · intro h
    simp only [WL, SW, List.mem_filterMap] at h
    obtain ⟨j, _, hj⟩ := h
    exact h0 (List.mem_of_getElem? hj)
  · intro l h
    simp only [WL, SW, List.mem_filterMap] at h
    obtain ⟨j, _, hj⟩ := h
    exact List.mem_of_getElem? hj
  · intro j hj l hl h
    simp only [WL, SW, List.mem_filterMap] at h
    obtain ⟨j', hj', hl'⟩ := h
    have e := hnd j j' l hl hl'
    subst e
    have hh : hits wr p f = true := by
      unfold hits
      rw [List.any_eq_true]
      exact ⟨j, hj, by simpa using hj'⟩
    by_cases hlat : later ld p f = true
    · have := ha.2 p hp hh hlat
      rw [hset, if_pos rfl] at this
      cases this
    · cases hfb : f.b with
      | none => unfold later at hlat; rw [hfb] at hlat; exact hlat rfl
      | some q =>
        unfold later at hlat
        rw [hfb] at hlat
        simp only [decide_eq_true_eq] at hlat
        have hq := hborn q hfb
        have hne : ldAt ld q ≠ ldAt ld p := fun e => hb (by rw [hfb, hinj q (C.f_lt f q hf hfb) e])
        have hqp : ldAt ld q < ops.length := C.ld_lt _ (by unfold ldAt; rw [List.getD_eq_getElem?_getD, List.getElem?_eq_getElem (C.f_lt f q hf hfb)]; simp)
        have := I.cl _ hqp hq _ (C.f_wr f q p hf hfb hp hh (by omega))
        rw [hun] at this; cases this

/-- A fact that is sure to hold where an operation runs holds there. -/
theorem Inv.need {g0 : GW} {L : Array Bool} {ν : Nat → Value} {tm : List Value} {g : GW} (C : Chk ops ld anc tm0.length fs wr) (I : Inv P ops ld anc tm0 fs wr lab g0 L ν tm g)
    {i : Nat} (hun : lstd L i = false) (hanc : ∀ k ∈ ancOf anc i, lstd L k = true) {f : RF} (hf : f ∈ fs) (hn : needB ld anc wr i f = true) : f.R (f.sup.map fun s => (ld.map ν).getD s undef) g := by
  unfold needB at hn
  simp only [Bool.and_eq_true, List.all_eq_true, List.mem_range, Bool.or_eq_true, Bool.not_eq_true', Bool.and_eq_false_iff, beq_iff_eq, List.contains_iff_mem] at hn
  obtain ⟨h1, h2⟩ := hn
  have ha : Alive ld wr L f := ⟨fun p hp => by
      rw [hp] at h1
      exact hanc _ (by simpa using h1), fun q hq hh hl => by
      rcases h2 q hq with h | h
      · rcases h with h | h
        · rw [hh] at h; cases h
        · rw [hl] at h; cases h
      · rcases h with h | h
        · rw [h]; exact hun
        · cases hlq : lstd L (ldAt ld q) with
          | false => rfl
          | true =>
            have hql : ldAt ld q < ops.length := C.ld_lt _ (by unfold ldAt; rw [List.getD_eq_getElem?_getD, List.getElem?_eq_getElem hq]; simp)
            have := I.cl _ hql hlq i h
            rw [hun] at this; cases this⟩
  have := I.fact f hf ha
  have e : (f.sup.map fun s => (ld.map ν).getD s undef) = f.sup.map fun s => ν (ldAt ld s) := by
    refine List.map_congr_left fun s hs => ?_
    have hs' : s < ld.length := by
      cases hfb : f.b with
      | none => rw [C.f_none f hf hfb] at hs; cases hs
      | some q => exact (C.f_sup f q s hf hfb hs).1
    unfold ldAt
    rw [List.getD_eq_getElem?_getD, List.getElem?_map, List.getD_eq_getElem?_getD, List.getElem?_eq_getElem hs']
    rfl
  rw [e]; exact this

theorem ready_iff (C : Chk ops ld anc tm0.length fs wr) {L : Array Bool} (hsz : L.size = ops.length) {i : Nat} : i ∈ Region.ready .any ops.toArray L →
    lstd L i = false ∧ i < ops.length ∧ ((∀ j, j < ops.length → lstd L j = true → ∀ k ∈ ancOf anc j, lstd L k = true) → ∀ k ∈ ancOf anc i, lstd L k = true) := by
  intro h
  obtain ⟨h1, o, ho, h2⟩ := mem_readyL.1 h
  simp only [List.getElem?_toArray] at ho
  have hi : i < ops.length := (List.getElem?_eq_some_iff.1 ho).1
  refine ⟨?_, hi, fun hcl k hk => ?_⟩
  · unfold lstd
    simp only [Array.getD_eq_getD_getElem?] at h1 ⊢
    rw [Array.getElem?_eq_getElem (by rw [hsz]; exact hi)] at h1 ⊢
    exact h1
  · obtain ⟨e, he, hb, hlt, hor⟩ := C.anc_ed i k o ho hk
    have := h2 e he hb
    rcases hor with rfl | hor
    · exact this
    · exact hcl e.on (by omega) this k hor

theorem all_listed (C : Chk ops ld anc tm0.length fs wr) {L : Array Bool} (hsz : L.size = ops.length) (h : Region.ready .any ops.toArray L = []) : ∀ i, i < ops.length → lstd L i = true := by
  intro i
  induction i using Nat.strongRecOn with
  | _ i ih =>
    intro hi
    cases hl : lstd L i with
    | true => rfl
    | false =>
      exfalso
      have : i ∈ Region.ready .any ops.toArray L := by
        refine mem_readyL.2 ⟨?_, ops[i], by simp [hi], fun e he hb => ?_⟩
        · unfold lstd at hl
          simp only [Array.getD_eq_getD_getElem?] at hl ⊢
          rw [Array.getElem?_eq_getElem (by rw [hsz]; exact hi)] at hl ⊢
          exact hl
        · have := C.ed_lt i ops[i] e (by simp [hi]) he hb
          exact ih e.on this (by omega)
      rw [h] at this
      cases this

def GW.drewG (g : GW) : GW := ⟨{ g.w with drawn := g.w.drawn + 1 }, g.L⟩
theorem GW.drewG_step (g : GW) : Step NoM g g.drewG := ⟨rfl, rfl, rfl, Nat.le_refl _, fun _ _ _ => rfl, fun _ _ _ => rfl⟩

variable {Q : Exit → Act → World → Prop} {g : GW}

/-- **A region whose order is open.** -/
theorem CP.draw {id : Nat} (hm : P.follows .mixedOrders = true) (ld : List Nat) (anc : List (List Nat)) (fs : List RF) (wr : List (List Nat)) (lab : List Nat) (closed opn : List Nat)
    (hc : chk ops ld anc tm0.length fs wr = true) (h0 : 0 ∉ lab) (hnd : lab.Nodup) (hst : ∀ f ∈ fs, Stab lab f) (hinit : ∀ f ∈ fs, f.b = none → f.R [] g)
    (hcov : ((List.range ops.length).all fun i => ld.contains i || closed.contains i || opn.contains i) = true)
    (hclosed : ∀ vs, (closed.all fun i => ((ops[i]?).bind (opVal P ops (ev (cfOf P ops ld anc tm0 i vs)))).isSome) = true)
    (hopn : ∀ j, j < opn.length → ∀ vs g', Step (WL lab) g g' → vs.length = ld.length → (∀ f ∈ fs, needB ld anc wr (opn.getD j 0) f = true → f.R (f.sup.map fun s => vs.getD s undef) g') →
      ((ops[opn.getD j 0]?).bind (opVal P ops (ev (cfOf P ops ld anc tm0 (opn.getD j 0) vs)))).isSome = true)
    (hloud : ∀ p, p < ld.length → ∀ vs g', Step (WL lab) g g' → vs.length = ld.length → (∀ f ∈ fs, needB ld anc wr (ldAt ld p) f = true → f.R (f.sup.map fun s => vs.getD s undef) g') →
      WP P (ops.take (ldAt ld p + 1)) (Shown P ops ld anc tm0 fs wr lab p vs g') (ldAt ld p) (cfOf P ops ld anc tm0 (ldAt ld p) vs) g')
    (hend : ∀ vs g', Step (WL lab) g g' → vs.length = ld.length → (∀ f ∈ fs, endB ld wr f = true → f.R (f.sup.map fun s => vs.getD s undef) g') → NX Q .normal (cfAll P ops ld tm0 vs) g') :
    CP P (.region id ops.toArray true) Q tm0 g := by
  have C := chk_ok hc
  have hnd' : ∀ i j l : Nat, lab[i]? = some l → lab[j]? = some l → i = j := fun i j l hi hj => by
    have h1 := (List.getElem?_eq_some_iff.1 hi).1
    exact (List.getElem?_inj h1 hnd).1 (by rw [hi, hj])
  refine wp_region_any hm ?_
  have main : ∀ (n : Nat) (L : Array Bool) (ν : Nat → Value) (tm : List Value) (g' : GW), (L.toList.countP fun b => !b) = n → Inv P ops ld anc tm0 fs wr lab g L ν tm g' →
      wpAny P .any ops.toArray Q n L ⟨tm.toArray, []⟩ g'.w := by
    intro n
    induction n with
    | zero =>
      intro L ν tm g' hcount I
      have hall : ∀ i, i < ops.length → lstd L i = true := by
        intro i hi
        rw [List.countP_eq_zero] at hcount
        have hiL : i < L.size := by rw [I.sz]; exact hi
        have := hcount L[i] (by simp)
        unfold lstd
        simp only [Array.getD_eq_getD_getElem?, Array.getElem?_eq_getElem hiL]
        simpa using this
      refine ⟨?_, ?_⟩
      · cases hr : Region.ready .any ops.toArray L with
        | nil => rfl
        | cons i rest =>
          have := ready_iff C I.sz (i := i) (by rw [hr]; simp)
          rw [hall i this.2.1] at this
          cases this.1
      · have hfin := hend (ld.map ν) g' I.st (by simp) (fun f hf he => by
          have ha : Alive ld wr L f := ⟨fun p hp => hall _ (C.ld_lt _ (by unfold ldAt; rw [List.getD_eq_getElem?_getD, List.getElem?_eq_getElem (C.f_lt f p hf hp)]; simp)), fun q hq hh hl => by
            unfold endB at he
            rw [List.all_eq_true] at he
            have := he q (List.mem_range.2 hq)
            rw [hh, hl] at this
            cases this⟩
          have := I.fact f hf ha
          have e : (f.sup.map fun s => (ld.map ν).getD s undef) = f.sup.map fun s => ν (ldAt ld s) := by
            refine List.map_congr_left fun s hs => ?_
            have hs' : s < ld.length := by
              cases hfb : f.b with
              | none => rw [C.f_none f hf hfb] at hs; cases hs
              | some q => exact (C.f_sup f q s hf hfb hs).1
            unfold ldAt
            rw [List.getD_eq_getElem?_getD, List.getElem?_map, List.getD_eq_getElem?_getD, List.getElem?_eq_getElem hs']
            rfl
          rw [e]; exact this)
        have hcf := cf_frame (S := fun _ => true) (vs := ld.map ν) (ν := ν) (P := P) C (fun j oj hj _ hn => I.pure j oj hj (hall j (List.getElem?_eq_some_iff.1 hj).1) hn)
          (fun p hp _ => by unfold ldAt; rw [List.getD_eq_getElem?_getD, List.getElem?_map, List.getD_eq_getElem?_getD, List.getElem?_eq_getElem hp]; rfl)
          (fun _ _ _ _ _ _ _ _ _ => rfl) ops 0 tm0 (by simp) ⟨rfl, fun t ht => by simp [lastW, slotV, List.getElem?_eq_getElem ht]⟩
        have heq : tm = cfAll P ops ld tm0 (ld.map ν) := by
          apply List.ext_getElem?
          intro t
          by_cases ht : t < tm0.length
          · unfold cfAll
            rw [I.fr.2 t ht, hcf.2 t ht]
            congr 2
            exact lastW_congr fun m hm _ => hall m hm
          · have h1 : tm.length ≤ t := by rw [I.fr.1]; omega
            have h2 : (cfAll P ops ld tm0 (ld.map ν)).length ≤ t := by unfold cfAll; rw [hcf.1]; omega
            rw [List.getElem?_eq_none h1, List.getElem?_eq_none h2]
        rw [heq]
        exact hfin
    | succ n ih =>
      intro L ν tm g' hcount I
      refine ⟨fun hr => ?_, fun i hi => ?_⟩
      · have hall := all_listed C I.sz hr
        exfalso
        have : (L.toList.countP fun b => !b) = 0 := by
          rw [List.countP_eq_zero]
          intro b hb
          obtain ⟨i, hi, rfl⟩ := List.getElem_of_mem hb
          have hiL : i < L.size := by simpa using hi
          have := hall i (by rw [← I.sz]; exact hiL)
          unfold lstd at this
          simp only [Array.getD_eq_getD_getElem?, Array.getElem?_eq_getElem hiL] at this
          simpa using this
        omega
      · obtain ⟨hun, hlt, hanc'⟩ := ready_iff C I.sz hi
        have hanc := hanc' I.cl
        have ho : ops[i]? = some ops[i] := List.getElem?_eq_getElem hlt
        have hiL : i < L.size := by rw [I.sz]; exact hlt
        have hcount' : ((L.setIfInBounds i true).toList.countP fun b => !b) = n := by
          have hLi : L[i] = false := by
            unfold lstd at hun
            simp only [Array.getD_eq_getD_getElem?, Array.getElem?_eq_getElem hiL] at hun
            exact hun
          have e1 : L.toList = L.toList.take i ++ false :: L.toList.drop (i + 1) := by
            have := List.take_append_drop i L.toList
            rw [List.drop_eq_getElem_cons (by simpa using hiL)] at this
            rw [← hLi]
            simpa using this.symm
          have e2 : (L.setIfInBounds i true).toList = L.toList.take i ++ true :: L.toList.drop (i + 1) := by
            rw [Array.toList_setIfInBounds, List.set_eq_take_append_cons_drop, if_pos (by simpa using hiL)]
          rw [e1] at hcount
          rw [e2]
          simp only [List.countP_append, List.countP_cons, Bool.not_false, Bool.not_true, if_true, Bool.false_eq_true, if_false] at hcount ⊢
          omega
        have henv := I.env C ho hun hanc
        have hcfe := I.cf C ho hanc
        have hag : Agree ops ops[i] (ev (cfOf P ops ld anc tm0 i (ld.map ν))) (ev tm) := hcfe.trans henv.symm
        have hns : ∀ cs b, (ops[i]).op ≠ .select cs b := fun cs b => C.nosel i _ cs b ho
        have hdst : (ops[i]).dst = dsts ops i := by simp [dsts, ho]
        unfold wpOp
        simp only [List.getElem?_toArray, ho]
        by_cases hld : i ∈ ld
        · -- a loud one
          obtain ⟨p, hp, hpi⟩ := List.getElem_of_mem hld
          have hpe : ldAt ld p = i := by unfold ldAt; rw [List.getD_eq_getElem?_getD, List.getElem?_eq_getElem hp, hpi]; rfl
          have hsh := hloud p hp (ld.map ν) g' I.st (by simp) (fun f hf hn => I.need C hun hanc hf (by rw [hpe] at hn; exact hn))
          rw [hpe] at hsh
          have hget : (ops.take (i + 1))[i]? = some ops[i] := by rw [List.getElem?_take_of_lt (by omega)]; exact ho
          have hdrop : (ops.take (i + 1)).drop i = [ops[i]] := by
            rw [List.drop_take, show i + 1 - i = 1 by omega, List.drop_eq_getElem_cons hlt]; rfl
          unfold WP at hsh
          rw [hdrop] at hsh
          simp only [wpList] at hsh
          have hw1 : Region.wanted ops[i] (yielded (ops.take (i + 1)).toArray (cfOf P ops ld anc tm0 i (ld.map ν)).toArray) = wantedE ops (ev tm) ops[i] := by
            rw [wanted_eq, ← hag.wanted]
            unfold wantedE
            cases hg : (ops[i]).guard with
            | none => rfl
            | some gw =>
              obtain ⟨j, want⟩ := gw
              have hj := C.guard_lt i _ j want ho hg
              simp only []
              rw [List.getElem?_take_of_lt (by omega)]
          rw [hw1] at hsh
          rw [wanted_eq]
          have hpost : ∀ v w', Shown P ops ld anc tm0 fs wr lab p (ld.map ν) g' .normal (Act.put ⟨(cfOf P ops ld anc tm0 i (ld.map ν)).toArray, []⟩ (ops[i]).dst v) w' →
              wpAny P .any ops.toArray Q n (L.setIfInBounds i true) (Act.put ⟨tm.toArray, []⟩ (ops[i]).dst v) w' := by
            rintro v w' ⟨_, v2, g2, heq, rfl, st2, hfs⟩
            rw [hpe, put_eq, hdst] at heq
            rw [put_eq, hdst]
            -- the value: what was put is what is put
            have hv : dsts ops i = none ∨ v2 = v := by
              cases hd : dsts ops i with
              | none => exact .inl rfl
              | some d =>
                refine .inr ?_
                rw [hd] at heq
                have hlen : d < (cfOf P ops ld anc tm0 i (ld.map ν)).length := by
                  have hF := cf_frame (S := fun j => (ancOf anc i).contains j) (vs := ld.map ν) (ν := ν) (P := P) C (fun j oj hj hs hn => I.pure j oj hj (hanc j (by simpa using hs)) hn)
                    (fun q hq _ => by unfold ldAt; rw [List.getD_eq_getElem?_getD, List.getElem?_map, List.getD_eq_getElem?_getD, List.getElem?_eq_getElem hq]; rfl)
                    (fun j oj m t hj hs ht hm hd => by
                      have hj' : j < ops.length := (List.getElem?_eq_some_iff.1 hj).1
                      have := C.anc_tr i j m hlt (by simpa using hs) (C.meet j m hj' hm (meets_l hj hd ht).1)
                      simpa using this)
                    ops 0 tm0 (by simp) ⟨rfl, fun t ht => by simp [lastW, slotV, List.getElem?_eq_getElem ht]⟩
                  unfold cfOf
                  rw [hF.1]
                  exact dsts_lt C i d hd
                have := congrArg (fun a : Act => a.tmps.toList[d]?) heq
                simp only [putL, List.getElem?_set_self hlen, Option.some.injEq] at this
                exact this.symm
            have hst2 : Step (WL lab) g' g2 := st2.mono (fun l hl => by
              simp only [WL, SW, List.mem_filterMap] at hl
              obtain ⟨j, _, hj⟩ := hl
              exact List.mem_of_getElem? hj)
            have I' := I.next (v := v2) C ho hun hanc (fun hn => absurd hld hn) (I.st.trans hst2) (fun f hf ha => by
              by_cases hb : f.b = some p
              · have h1 := hfs f hf hb
                have e : (f.sup.map fun s => ((ld.map ν).set p v2).getD s undef) = f.sup.map fun s => if ldAt ld s = i then v2 else ν (ldAt ld s) := by
                  refine List.map_congr_left fun s hs => ?_
                  obtain ⟨hsl, _⟩ := C.f_sup f p s hf hb hs
                  have hsv : ld.getD s 0 = ld[s] := by rw [List.getD_eq_getElem?_getD, List.getElem?_eq_getElem hsl]; rfl
                  rw [List.getD_eq_getElem?_getD]
                  by_cases hsp : p = s
                  · subst hsp
                    rw [List.getElem?_set_self (by simpa using hsl), if_pos hpe]
                    rfl
                  · rw [List.getElem?_set_ne hsp, List.getElem?_map, List.getElem?_eq_getElem hsl, if_neg]
                    · simp only [ldAt, hsv]; rfl
                    · intro e
                      have h1 := C.ld_ix s hsl
                      rw [e, ← hpe, C.ld_ix p hp] at h1
                      cases h1
                      exact hsp rfl
                rw [← e]; exact h1
              · have := I.old (v := v2) C hst h0 hnd' hp (by rw [hpe]; exact hun) (by rw [hpe]; exact hiL) st2 hf (by rw [hpe]; exact ha) hb
                rw [hpe] at this
                exact this)
            have hput : putL tm (dsts ops i) v2 = putL tm (dsts ops i) v := by
              rcases hv with h | h
              · rw [h]; rfl
              · rw [h]
            rw [hput] at I'
            exact ih _ _ _ _ hcount' I'
          by_cases hw : wantedE ops (ev tm) ops[i] = true
          · rw [if_pos hw] at hsh ⊢
            rcases hsh with hsh | ⟨_, a', w', hlet⟩
            · left
              unfold Oper.wp at hsh ⊢
              rw [eval_eq] at hsh ⊢
              rw [hag.exec hns] at hsh
              refine upon_turn hsh hpost ?_ ?_ ?_
              · rintro d v w' ⟨_, v2, g2, heq, _⟩
                rw [hpe] at heq
                have := congrArg Act.defers heq
                cases hd : (ops[i]).dst <;> rw [hd] at this <;> simp [Act.put] at this
              · rintro c b w' ⟨h, _⟩; cases h
              · rintro b w' ⟨h, _⟩; cases h
            · exact absurd hlet.1 (by simp)
          · rw [if_neg hw] at hsh ⊢
            exact hpost _ _ hsh
        · -- a plain one
          have hsome : ∃ v, opVal P ops (ev (cfOf P ops ld anc tm0 i (ld.map ν))) ops[i] = some v := by
            rw [List.all_eq_true] at hcov
            have := hcov i (List.mem_range.2 hlt)
            simp only [Bool.or_eq_true, List.contains_iff_mem] at this
            rcases this with (h | h) | h
            · exact absurd h hld
            · have := hclosed (ld.map ν)
              rw [List.all_eq_true] at this
              have := this i h
              rw [ho] at this
              exact Option.isSome_iff_exists.1 this
            · obtain ⟨j, hj, hji⟩ := List.getElem_of_mem h
              have hje : opn.getD j 0 = i := by rw [List.getD_eq_getElem?_getD, List.getElem?_eq_getElem hj, hji]; rfl
              have := hopn j hj (ld.map ν) g' I.st (by simp) (fun f hf hn => I.need C hun hanc hf (by rw [hje] at hn; exact hn))
              rw [hje, ho] at this
              exact Option.isSome_iff_exists.1 this
          obtain ⟨v, hv⟩ := hsome
          rw [hcfe.val hns] at hv
          have I' := I.next (v := v) C ho hun hanc (fun _ => hv) I.st (fun f hf ha => by
            have e : (f.sup.map fun s => if ldAt ld s = i then v else ν (ldAt ld s)) = f.sup.map fun s => ν (ldAt ld s) := by
              refine List.map_congr_left fun s hs => ?_
              rw [if_neg]
              intro e
              have hs' : s < ld.length := by
                cases hfb : f.b with
                | none => rw [C.f_none f hf hfb] at hs; cases hs
                | some q => exact (C.f_sup f q s hf hfb hs).1
              exact hld (by rw [← e]; unfold ldAt; rw [List.getD_eq_getElem?_getD, List.getElem?_eq_getElem hs']; simp)
            rw [e]
            refine I.fact f hf ⟨fun p hp => ?_, fun q hq hh hl => ?_⟩
            · have := ha.1 p hp
              rw [lstd_set hiL, if_neg] at this
              · exact this
              · intro e
                exact hld (by rw [← e]; unfold ldAt; rw [List.getD_eq_getElem?_getD, List.getElem?_eq_getElem (C.f_lt f p hf hp)]; simp)
            · have := ha.2 q hq hh hl
              rw [lstd_set hiL] at this
              split at this
              · cases this
              · exact this)
          have hval : opVal P ops (ev tm) ops[i] = some v := by rw [henv.val hns]; exact hv
          have hgo := ih _ _ _ _ hcount' I'
          rw [wanted_eq]
          unfold opVal at hval
          by_cases hw : wantedE ops (ev tm) ops[i] = true
          · rw [if_pos hw] at hval ⊢
            left
            unfold Oper.wp
            rw [eval_eq]
            cases he : evalS P (execOp (ev tm) ops[i]) with
            | none => rw [he] at hval; cases hval
            | some nx =>
              rw [he] at hval
              cases nx <;> simp only [reduceCtorEq, Option.some.injEq] at hval
              subst hval
              rw [evalS_run he g'.w]
              simp only [Oper.upon, put_eq]
              rw [hdst]
              exact hgo
          · rw [if_neg hw] at hval ⊢
            simp only [Option.some.injEq] at hval
            subst hval
            rw [put_eq, hdst]
            exact hgo
  have hsz : (Array.replicate ops.toArray.size false).size = ops.length := by simp
  have hnone : ∀ j, lstd (Array.replicate ops.toArray.size false) j = false := by
    intro j
    unfold lstd
    simp only [Array.getD_eq_getD_getElem?, Array.getElem?_replicate]
    split <;> rfl
  refine main _ _ (fun _ => undef) tm0 g.drewG ?_ ⟨hsz, ⟨rfl, fun t ht => ?_⟩, fun j o _ hl => (by rw [hnone] at hl; cases hl), fun j _ hl => (by rw [hnone] at hl; cases hl), fun f hf ha => ?_, g.drewG_step.pure⟩
  · simp [List.countP_replicate]
  · have : lastW ops (lstd (Array.replicate ops.toArray.size false)) ops.length t = none := by
      cases hl : lastW ops (lstd (Array.replicate ops.toArray.size false)) ops.length t with
      | none => rfl
      | some m => have := (lastW_lt hl).2.1; rw [hnone] at this; cases this
    rw [this]
    simp [slotV, List.getElem?_eq_getElem ht]
  · cases hfb : f.b with
    | none =>
      rw [C.f_none f hf hfb]
      exact hst f hf NoM g g.drewG _ g.drewG_step (fun x => x) (fun _ x => x.elim) (fun _ _ _ _ x => x) (hinit f hf hfb)
    | some p => have := ha.1 p hfb; rw [hnone] at this; cases this
end
end Go.Lab
