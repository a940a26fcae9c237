/-
  Bytes and numbers of eight bytes.
-/
import Derived.Test.YtmdkjjdfbjgaoaaLabL
import Derived.Test.YtmdkjjdfbjgaoaaWNa2
namespace Go.Proofs.Ytmdkjjdfbjgaoaa
open Go.Lab
set_option maxRecDepth 10000
/-- Bytes. -/
def Byts (l : List Int) : Prop := ∀ y ∈ l, 0 ≤ y ∧ y < 256

theorem byts_wf {l : List Int} (h : ∀ y ∈ l, (Lit.int .u8 y).wf = true) : Byts l := by
  intro y hy
  have := h y hy
  simp [Lit.wf, IntKind.min, IntKind.max, IntKind.signed, IntKind.bits] at this
  omega

theorem Byts.drop {l : List Int} (h : Byts l) (n : Nat) : Byts (l.drop n) := fun y hy => h y (List.mem_of_mem_drop hy)

theorem Byts.take {l : List Int} (h : Byts l) (n : Nat) : Byts (l.take n) := fun y hy => h y (List.mem_of_mem_take hy)

theorem Byts.append {l r : List Int} (h : Byts l) (k : Byts r) : Byts (l ++ r) := fun y hy => (List.mem_append.1 hy).elim (h y) (k y)

theorem Byts.cons {x : Int} {l : List Int} (h : Byts (x :: l)) : (0 ≤ x ∧ x < 256) ∧ Byts l := ⟨h x (by simp), fun y hy => h y (by simp [hy])⟩

theorem bytesStr_inj {a b : List Int} (ha : Byts a) (hb : Byts b) : ((bytesStr a).toList == (bytesStr b).toList) = decide (a = b) := by
  have key : ∀ l : List Int, (bytesStr l).toList = l.map fun x => UInt8.ofNat x.toNat := by
    intro l
    rw [ByteArray.toList_eq]
    simp [bytesStr]
  rw [key, key]
  by_cases h : a = b
  · subst h; simp
  · rw [decide_eq_false h]
    apply Bool.eq_false_iff.2
    intro he
    apply h
    have he' := eq_of_beq he
    have inv : ∀ l : List Int, Byts l → (l.map fun x => UInt8.ofNat x.toNat).map (fun u => (u.toNat : Int)) = l := by
      intro l hl
      rw [List.map_map]
      conv => rhs; rw [← List.map_id l]
      apply List.map_congr_left
      intro x hx
      have := hl x hx
      simp only [Function.comp, id, UInt8.toNat_ofNat']
      omega
    rw [← inv a ha, ← inv b hb, he']

/-- The value of bytes, the lowest one first. -/
def val256 : List Int → Int
  | [] => 0
  | x :: r => x + 256 * val256 r

theorem val256_append : ∀ (l r : List Int), val256 (l ++ r) = val256 l + 256 ^ l.length * val256 r
  | [], r => by simp [val256]
  | x :: l, r => by
    simp only [List.cons_append, val256, val256_append l r, List.length_cons, Int.pow_succ]
    rw [Int.mul_add, ← Int.mul_assoc, Int.mul_comm 256 (256 ^ l.length), Int.add_assoc]

theorem val256_bound : ∀ {l : List Int}, Byts l → 0 ≤ val256 l ∧ val256 l < 256 ^ l.length
  | [], _ => by simp [val256]
  | x :: r, h => by
    obtain ⟨hx, hr⟩ := h.cons
    have ih := val256_bound hr
    simp only [val256, List.length_cons, Int.pow_succ]
    omega

theorem val256_8 {d : Arr Int 8} (hb : Byts d.1) : 0 ≤ val256 d.1 ∧ val256 d.1 < 18446744073709551616 := by
  have := val256_bound hb
  rw [d.2] at this
  exact ⟨this.1, by have h := this.2; rwa [show (256 : Int) ^ 8 = 18446744073709551616 from by decide] at h⟩

/-- A number's digest. -/
def fnum (n : Int) : Arr Int 8 := ⟨[n % 256, n / 256 % 256, n / 65536 % 256, n / 16777216 % 256, n / 4294967296 % 256, n / 1099511627776 % 256, n / 281474976710656 % 256, n / 72057594037927936 % 256], rfl⟩

theorem fnum_val {d : Arr Int 8} (hb : Byts d.1) : fnum (val256 d.1) = d := by
  obtain ⟨l, hl⟩ := d
  obtain ⟨a, l, rfl⟩ : ∃ a r, l = a :: r := by cases l with | nil => simp at hl | cons a r => exact ⟨a, r, rfl⟩
  obtain ⟨b, l, rfl⟩ : ∃ a r, l = a :: r := by cases l with | nil => simp at hl | cons a r => exact ⟨a, r, rfl⟩
  obtain ⟨c, l, rfl⟩ : ∃ a r, l = a :: r := by cases l with | nil => simp at hl | cons a r => exact ⟨a, r, rfl⟩
  obtain ⟨d, l, rfl⟩ : ∃ a r, l = a :: r := by cases l with | nil => simp at hl | cons a r => exact ⟨a, r, rfl⟩
  obtain ⟨e, l, rfl⟩ : ∃ a r, l = a :: r := by cases l with | nil => simp at hl | cons a r => exact ⟨a, r, rfl⟩
  obtain ⟨f, l, rfl⟩ : ∃ a r, l = a :: r := by cases l with | nil => simp at hl | cons a r => exact ⟨a, r, rfl⟩
  obtain ⟨g, l, rfl⟩ : ∃ a r, l = a :: r := by cases l with | nil => simp at hl | cons a r => exact ⟨a, r, rfl⟩
  obtain ⟨h, l, rfl⟩ : ∃ a r, l = a :: r := by cases l with | nil => simp at hl | cons a r => exact ⟨a, r, rfl⟩
  have hn : l = [] := by simpa using hl
  subst hn
  simp only [Byts, List.mem_cons, List.not_mem_nil, or_false, forall_eq_or_imp, forall_eq] at hb
  apply Subtype.ext
  simp only [fnum, val256, List.cons.injEq, and_true]
  refine ⟨?_, ?_, ?_, ?_, ?_, ?_, ?_, ?_⟩ <;> omega

/-! ### States -/

end Go.Proofs.Ytmdkjjdfbjgaoaa
