/-
  The rule for a region whose order is open: the proof.
-/
import Derived.Test.YtmdkjjdfbjgaoaaLabR
namespace Go.Lab
open Go.RowKit

section
variable {P : Program} {ops : List Oper} {ld : List Nat} {anc : List (List Nat)} {tm0 : List Value} {fs : List RF} {wr : List (List Nat)} {lab : List Nat}

/-- The last one before number n that S names and that writes slot t. -/
def lastW (ops : List Oper) (S : Nat → Bool) : Nat → Tmp → Option Nat
  | 0, _ => none
  | n + 1, t => if S n = true ∧ dsts ops n = some t then some n else lastW ops S n t

theorem lastW_congr {S S' : Nat → Bool} {t : Tmp} : ∀ {n : Nat}, (∀ m, m < n → dsts ops m = some t → S m = S' m) → lastW ops S n t = lastW ops S' n t
  | 0, _ => rfl
  | n + 1, h => by
    have ih := lastW_congr (n := n) (fun m hm hd => h m (by omega) hd)
    simp only [lastW]
    by_cases hd : dsts ops n = some t
    · rw [h n (by omega) hd, ih]
    · simp [hd, ih]

theorem lastW_top {S : Nat → Bool} {t : Tmp} {i : Nat} : ∀ {n : Nat}, i ≤ n → (∀ m, i ≤ m → m < n → dsts ops m = some t → S m = false) → lastW ops S n t = lastW ops S i t
  | 0, hi, _ => by have : i = 0 := by omega
                   subst this; rfl
  | n + 1, hi, h => by
    by_cases e : i = n + 1
    · subst e; rfl
    · have ih := lastW_top (n := n) (by omega) (fun m h1 h2 hd => h m h1 (by omega) hd)
      simp only [lastW]
      rw [if_neg, ih]
      rintro ⟨h1, h2⟩
      rw [h n (by omega) (by omega) h2] at h1
      cases h1

theorem lastW_lt {S : Nat → Bool} {t : Tmp} {m : Nat} : ∀ {n : Nat}, lastW ops S n t = some m → m < n ∧ S m = true ∧ dsts ops m = some t
  | 0, h => by cases h
  | n + 1, h => by
    simp only [lastW] at h
    split at h
    · rename_i hc
      cases h
      exact ⟨by omega, hc.1, hc.2⟩
    · have := lastW_lt (n := n) h
      exact ⟨by omega, this.2⟩

def slotV (tm0 : List Value) (ν : Nat → Value) (o : Option Nat) (t : Tmp) : Value :=
  match o with
  | some m => ν m
  | none => (tm0[t]?).getD undef

/-- Each operand as it stands where operation i runs in the text's order. -/
def envAt (ops : List Oper) (tm0 : List Value) (ν : Nat → Value) (i : Nat) : Operand → Value
  | .tmp t => slotV tm0 ν (lastW ops (fun _ => true) i t) t
  | .const v => v
  | .global g => .pointer (some ⟨g, 0, none⟩)
  | .func f => .func (.func f) #[] #[]

def Agree (ops : List Oper) (o : Oper) (e e' : Operand → Value) : Prop :=
  (∀ t ∈ looks ops o, e (.tmp t) = e' (.tmp t)) ∧ ∀ x, (∀ t, x ≠ .tmp t) → e x = e' x

theorem Agree.exec {o : Oper} {e e' : Operand → Value} (hs : ∀ cs b, o.op ≠ .select cs b) (h : Agree ops o e e') : execOp e o = execOp e' o := by
  refine execOp_congr o hs fun x hx => ?_
  by_cases hx' : ∃ t, x = .tmp t
  · obtain ⟨t, rfl⟩ := hx'
    exact h.1 t (List.mem_append_left _ (List.mem_filterMap.2 ⟨.tmp t, by simpa using hx, rfl⟩))
  · exact h.2 x (fun t ht => hx' ⟨t, ht⟩)

theorem Agree.wanted {o : Oper} {e e' : Operand → Value} (h : Agree ops o e e') : wantedE ops e o = wantedE ops e' o := by
  unfold wantedE
  cases hg : o.guard with
  | none => rfl
  | some gw =>
    obtain ⟨j, want⟩ := gw
    cases hd : (ops[j]?).bind (·.dst) with
    | none => simp [hd]
    | some d =>
      have : e (.tmp d) = e' (.tmp d) := h.1 d (by
        refine List.mem_append_right _ ?_
        rw [hg]
        simp only [List.getElem?_toArray, hd]
        simp)
      simp [hd, this]

theorem Agree.val {o : Oper} {e e' : Operand → Value} (hs : ∀ cs b, o.op ≠ .select cs b) (h : Agree ops o e e') : opVal P ops e o = opVal P ops e' o := by
  unfold opVal
  rw [h.wanted, h.exec hs]

theorem Agree.symm {o : Oper} {e e' : Operand → Value} (h : Agree ops o e e') : Agree ops o e' e := ⟨fun t ht => (h.1 t ht).symm, fun x hx => (h.2 x hx).symm⟩
theorem Agree.trans {o : Oper} {e e' e'' : Operand → Value} (h : Agree ops o e e') (k : Agree ops o e' e'') : Agree ops o e e'' :=
  ⟨fun t ht => (h.1 t ht).trans (k.1 t ht), fun x hx => (h.2 x hx).trans (k.2 x hx)⟩

theorem wanted_eq (o : Oper) (tm : List Value) : Region.wanted o (yielded ops.toArray tm.toArray) = wantedE ops (ev tm) o := by
  unfold Region.wanted wantedE
  cases hg : o.guard with
  | none => rfl
  | some gw =>
    obtain ⟨j, want⟩ := gw
    simp only [yielded, List.getElem?_toArray]
    cases hd : (ops[j]?).bind (·.dst) with
    | none => simp
    | some d =>
      simp only [Option.bind_some, ev]
      cases hv : tm[d]? with
      | none => rfl
      | some v => cases v <;> simp
      
/-- A frame as the values say. -/
def FrameOf (ops : List Oper) (tm0 : List Value) (ν : Nat → Value) (S : Nat → Bool) (n : Nat) (tm : List Value) : Prop :=
  tm.length = tm0.length ∧ ∀ t, t < tm0.length → tm[t]? = some (slotV tm0 ν (lastW ops S n t) t)

theorem FrameOf.ev_eq {ν : Nat → Value} {S : Nat → Bool} {n : Nat} {tm : List Value} (hd : ∀ m d, dsts ops m = some d → d < tm0.length) (h : FrameOf ops tm0 ν S n tm) (t : Tmp) :
    ev tm (.tmp t) = slotV tm0 ν (lastW ops S n t) t := by
  simp only [ev]
  by_cases ht : t < tm0.length
  · rw [h.2 t ht]; rfl
  · have ht' : tm0.length ≤ t := Nat.le_of_not_lt ht
    have h1 : tm[t]? = none := List.getElem?_eq_none (by rw [h.1]; exact ht')
    have h2 : lastW ops S n t = none := by
      cases hl : lastW ops S n t with
      | none => rfl
      | some m => exact absurd (hd m t (lastW_lt hl).2.2) ht
    rw [h1, h2]
    simp only [slotV]
    rw [List.getElem?_eq_none ht']

theorem FrameOf.put {ν : Nat → Value} {S S' : Nat → Bool} {n i : Nat} {tm : List Value} {v : Value} (h : FrameOf ops tm0 ν S n tm)
    (hold : ∀ t, dsts ops i ≠ some t → lastW ops S' n t = lastW ops S n t) (hnew : ∀ t, dsts ops i = some t → lastW ops S' n t = some i) (hv : ν i = v) : FrameOf ops tm0 ν S' n (putL tm (dsts ops i) v) := by
  cases hd : dsts ops i with
  | none => exact ⟨h.1, fun t ht => by rw [hold t (by simp [hd])]; exact h.2 t ht⟩
  | some d =>
    refine ⟨by simp [putL, h.1], fun t ht => ?_⟩
    simp only [putL]
    by_cases e : d = t
    · subst e
      rw [List.getElem?_set_self (by rw [h.1]; exact ht), hnew d hd]
      simp [slotV, hv]
    · rw [List.getElem?_set_ne e, hold t (by rw [hd]; simpa using e)]
      exact h.2 t ht

theorem FrameOf.nu {ν ν' : Nat → Value} {S : Nat → Bool} {n : Nat} {tm : List Value} (h : FrameOf ops tm0 ν S n tm) (hv : ∀ m, S m = true → ν' m = ν m) : FrameOf ops tm0 ν' S n tm := by
  refine ⟨h.1, fun t ht => ?_⟩
  rw [h.2 t ht]
  congr 1
  cases hl : lastW ops S n t with
  | none => rfl
  | some m => simp only [slotV]; exact (hv m (lastW_lt hl).2.1).symm

/-- The canonical frame is as the values say. -/
theorem cf_frame {ν : Nat → Value} {S : Nat → Bool} {vs : List Value} (C : Chk ops ld anc tm0.length fs wr)
    (hpure : ∀ j o, ops[j]? = some o → S j = true → j ∉ ld → opVal P ops (envAt ops tm0 ν j) o = some (ν j))
    (hloud : ∀ p, p < ld.length → S (ldAt ld p) = true → vs.getD p undef = ν (ldAt ld p))
    (hcl : ∀ j o m t, ops[j]? = some o → S j = true → t ∈ looks ops o → m < j → dsts ops m = some t → S m = true) :
    ∀ (os : List Oper) (i : Nat) (tm : List Value), os = ops.drop i → FrameOf ops tm0 ν S i tm → FrameOf ops tm0 ν S ops.length (cfGo P ops ld S vs i os tm)
  | [], i, tm, hos, hF => by
    have hi : ops.length ≤ i := List.drop_eq_nil_iff.1 hos.symm
    simp only [cfGo]
    refine ⟨hF.1, fun t ht => ?_⟩
    rw [hF.2 t ht]
    congr 2
    exact (lastW_top hi (fun m h1 h2 hd => by
      have : dsts ops m = none := by simp [dsts, List.getElem?_eq_none h1]
      rw [this] at hd; cases hd))
  | o :: os, i, tm, hos, hF => by
    have hi : i < ops.length := by
      rcases Nat.lt_or_ge i ops.length with h | h
      · exact h
      · rw [List.drop_eq_nil_of_le h] at hos; cases hos
    rw [List.drop_eq_getElem_cons hi, List.cons.injEq] at hos
    have ho : ops[i]? = some o := by rw [List.getElem?_eq_getElem hi, hos.1]
    have hdst : o.dst = dsts ops i := by simp [dsts, ho]
    have hd : ∀ m d, dsts ops m = some d → d < tm0.length := fun m d hmd => by
      unfold dsts at hmd
      cases hm : ops[m]? with
      | none => rw [hm] at hmd; cases hmd
      | some om => rw [hm] at hmd; exact C.dst_lt m om d hm hmd
    simp only [cfGo]
    by_cases hS : S i = true
    · rw [if_pos hS]
      refine cf_frame C hpure hloud hcl os (i + 1) _ hos.2 ?_
      have hagree : Agree ops o (ev tm) (envAt ops tm0 ν i) := by
        refine ⟨fun t ht => ?_, fun x hx => by cases x <;> first | rfl | exact absurd rfl (hx _)⟩
        rw [hF.ev_eq hd t]
        simp only [envAt]
        congr 1
        exact lastW_congr (fun m hm hmd => hcl i o m t ho hS ht hm hmd)
      have hval : cfVal P ops ld vs i o tm = ν i := by
        unfold cfVal
        cases hx : ld.idxOf? i with
        | none =>
          have hni : i ∉ ld := by
            intro hmem
            have := List.idxOf?_eq_none_iff.1 hx
            exact this hmem
          simp only []
          rw [hagree.val (fun cs b => C.nosel i o cs b ho), hpure i o ho hS hni]
          rfl
        | some p =>
          simp only []
          obtain ⟨hp, he, _⟩ := List.findIdx?_eq_some_iff_getElem.1 hx
          have e : ldAt ld p = i := by
            unfold ldAt
            rw [List.getD_eq_getElem?_getD, List.getElem?_eq_getElem hp]
            simpa using he
          rw [← e]
          exact hloud p hp (by rw [e]; exact hS)
      rw [hval, hdst]
      have hF' : FrameOf ops tm0 ν S (i + 1) (putL tm (dsts ops i) (ν i)) := by
        cases hdi : dsts ops i with
        | none =>
          refine ⟨hF.1, fun t ht => ?_⟩
          simp only [putL, lastW]
          rw [if_neg (by simp [hdi])]
          exact hF.2 t ht
        | some d =>
          refine ⟨by simp [putL, hF.1], fun t ht => ?_⟩
          simp only [putL, lastW, hdi, hS, true_and, Option.some.injEq]
          by_cases e : d = t
          · subst e
            rw [List.getElem?_set_self (by rw [hF.1]; exact ht), if_pos rfl]
            rfl
          · rw [List.getElem?_set_ne e, if_neg e]
            exact hF.2 t ht
      exact hF'
    · rw [if_neg hS]
      refine cf_frame C hpure hloud hcl os (i + 1) _ hos.2 ?_
      refine ⟨hF.1, fun t ht => ?_⟩
      simp only [lastW]
      rw [if_neg (fun h => hS h.1)]
      exact hF.2 t ht

/-- A loud operation's showing: what it does in whatever world its facts hold, in the frame of what it waits for. -/
def Shown (P : Program) (ops : List Oper) (ld : List Nat) (anc : List (List Nat)) (tm0 : List Value) (fs : List RF) (wr : List (List Nat)) (lab : List Nat) (p : Nat) (vs : List Value) (g : GW) : Exit → Act → World → Prop :=
  fun e a w => e = .normal ∧ ∃ v g', a = ⟨(putL (cfOf P ops ld anc tm0 (ldAt ld p) vs) (dsts ops (ldAt ld p)) v).toArray, []⟩ ∧ w = g'.w ∧
    Step (WL (SW lab (wrAt wr p))) g g' ∧ ∀ f ∈ fs, f.b = some p → f.R (f.sup.map fun s => (vs.set p v).getD s undef) g'

theorem upon_turn {o : Oper} {a a' : Act} {next next' : Act → World → Prop} {Q Q' : Exit → Act → World → Prop} {r : Result Next} (h : o.upon P a next Q r)
    (hn : ∀ v w', next (a.put o.dst v) w' → next' (a'.put o.dst v) w') (hd : ∀ d v w', ¬ next ({ a with defers := d :: a.defers }.put o.dst v) w')
    (hp : ∀ c b w', ¬ Q (.panic c) b w') (ho : ∀ b w', ¬ Q .outgrown b w') : o.upon P a' next' Q' r := by
  cases r with
  | ok n w' =>
    cases n <;> simp only [Oper.upon] at h ⊢
    case value v => exact hn _ _ h
    case skip => exact hn _ _ h
    case defer d => exact absurd h (hd _ _ _)
    case enter f args =>
      refine h.mono fun e w'' he => ?_
      cases e with
      | returned v => exact hn _ _ he
      | panicked c => exact absurd he (hp _ _ _)
      | outgrown => obtain ⟨b, w3, hb⟩ := he; exact absurd hb (ho _ _)
    case row row args => exact Rows.mono h fun v w'' he => hn _ _ he
  | halt x w' =>
    cases x <;> simp only [Oper.upon] at h ⊢
    case panic v => exact absurd h (hp _ _ _)

def lstd (L : Array Bool) (j : Nat) : Bool := L.getD j false

/-- Is a fact born, and not turned since? -/
def Alive (ld : List Nat) (wr : List (List Nat)) (L : Array Bool) (f : RF) : Prop :=
  (∀ p, f.b = some p → lstd L (ldAt ld p) = true) ∧ ∀ q, q < ld.length → hits wr q f = true → later ld q f = true → lstd L (ldAt ld q) = false

structure Inv (P : Program) (ops : List Oper) (ld : List Nat) (anc : List (List Nat)) (tm0 : List Value) (fs : List RF) (wr : List (List Nat)) (lab : List Nat) (g0 : GW) (L : Array Bool) (ν : Nat → Value) (tm : List Value) (g : GW) : Prop where
  sz : L.size = ops.length
  fr : FrameOf ops tm0 ν (lstd L) ops.length tm
  pure : ∀ j o, ops[j]? = some o → lstd L j = true → j ∉ ld → opVal P ops (envAt ops tm0 ν j) o = some (ν j)
  cl : ∀ j, j < ops.length → lstd L j = true → ∀ k ∈ ancOf anc j, lstd L k = true
  fact : ∀ f ∈ fs, Alive ld wr L f → f.R (f.sup.map fun s => ν (ldAt ld s)) g
  st : Step (WL lab) g0 g

theorem dsts_lt (C : Chk ops ld anc tm0.length fs wr) : ∀ m d, dsts ops m = some d → d < tm0.length := fun m d hmd => by
  unfold dsts at hmd
  cases hm : ops[m]? with
  | none => rw [hm] at hmd; cases hmd
  | some om => rw [hm] at hmd; exact C.dst_lt m om d hm hmd

theorem meets_l {i j : Nat} {d : Tmp} {o : Oper} (ho : ops[j]? = some o) (hd : dsts ops i = some d) (ht : d ∈ looks ops o) : meets ops i j = true ∧ meets ops j i = true := by
  have hl : looksI ops j = looks ops o := by simp [looksI, ho]
  constructor
  · unfold meets; rw [hd]; simp [hl, ht]
  · unfold meets; rw [hd]; simp [hl, ht]

theorem meets_d {i j : Nat} {d : Tmp} (hi : dsts ops i = some d) (hj : dsts ops j = some d) : meets ops i j = true := by
  unfold meets; rw [hi, hj]; simp

/-- What an operation looks at, where it comes up: as in the text's order. -/
theorem Inv.env {g0 : GW} {L : Array Bool} {ν : Nat → Value} {tm : List Value} {g : GW} (C : Chk ops ld anc tm0.length fs wr) (I : Inv P ops ld anc tm0 fs wr lab g0 L ν tm g)
    {i : Nat} {o : Oper} (ho : ops[i]? = some o) (hun : lstd L i = false) (hanc : ∀ k ∈ ancOf anc i, lstd L k = true) : Agree ops o (ev tm) (envAt ops tm0 ν i) := by
  have hi : i < ops.length := (List.getElem?_eq_some_iff.1 ho).1
  refine ⟨fun t ht => ?_, fun x hx => by cases x <;> first | rfl | exact absurd rfl (hx _)⟩
  rw [I.fr.ev_eq (dsts_lt C) t]
  simp only [envAt]
  congr 1
  rw [lastW_top (Nat.le_of_lt hi) (fun m h1 h2 hd => ?_)]
  · refine lastW_congr fun m hm hd => ?_
    exact hanc m (C.meet i m hi hm (meets_l ho hd ht).1)
  · rcases Nat.lt_or_ge i m with h | h
    · cases hl : lstd L m with
      | false => rfl
      | true =>
        have := I.cl m h2 hl i (C.meet m i h2 h (meets_l ho hd ht).2)
        rw [hun] at this; cases this
    · have : m = i := by omega
      subst this; exact hun

/-- The canonical frame agrees with it. -/
theorem Inv.cf {g0 : GW} {L : Array Bool} {ν : Nat → Value} {tm : List Value} {g : GW} (C : Chk ops ld anc tm0.length fs wr) (I : Inv P ops ld anc tm0 fs wr lab g0 L ν tm g)
    {i : Nat} {o : Oper} (ho : ops[i]? = some o) (hanc : ∀ k ∈ ancOf anc i, lstd L k = true) : Agree ops o (ev (cfOf P ops ld anc tm0 i (ld.map ν))) (envAt ops tm0 ν i) := by
  have hi : i < ops.length := (List.getElem?_eq_some_iff.1 ho).1
  have hS : ∀ j, (ancOf anc i).contains j = true → j ∈ ancOf anc i := fun j h => by simpa using h
  have hF := cf_frame (S := fun j => (ancOf anc i).contains j) (vs := ld.map ν) (ν := ν) (P := P) C (fun j oj hj hs hn => I.pure j oj hj (hanc j (hS j hs)) hn)
    (fun p hp _ => by unfold ldAt; rw [List.getD_eq_getElem?_getD, List.getElem?_map, List.getD_eq_getElem?_getD, List.getElem?_eq_getElem hp]; rfl)
    (fun j oj m t hj hs ht hm hd => by
      have hj' : j < ops.length := (List.getElem?_eq_some_iff.1 hj).1
      have := C.anc_tr i j m hi (hS j hs) (C.meet j m hj' hm (meets_l hj hd ht).1)
      simpa using this)
    ops 0 tm0 (by simp) ⟨rfl, fun t ht => by simp [lastW, slotV, List.getElem?_eq_getElem ht]⟩
  refine ⟨fun t ht => ?_, fun x hx => by cases x <;> first | rfl | exact absurd rfl (hx _)⟩
  unfold cfOf
  rw [hF.ev_eq (dsts_lt C) t]
  simp only [envAt]
  congr 1
  rw [lastW_top (Nat.le_of_lt hi) (fun m h1 h2 hd => ?_)]
  · refine lastW_congr fun m hm hd => ?_
    have := C.meet i m hi hm (meets_l ho hd ht).1
    simpa using this
  · cases hc : (ancOf anc i).contains m with
    | false => rfl
    | true => have := C.anc_lt i m hi (hS m hc); omega
end
end Go.Lab
