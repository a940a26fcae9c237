/-
  Plain facts of whose signatures lack, by a book.
-/
import Derived.Test.YtlnockimfgfcgaaNotaryPure
namespace Go.Proofs.Ytlnockimfgfcgaa
open Go.Lab
set_option maxRecDepth 10000

/-- Is it a signature, by a book? -/
def okV (es : List S_notary_entry) (k m : Arr Int 8) (sig : List Int) : Bool :=
  match idxE es ⟨k, m⟩ with
  | some i => decide (sig = sigB i)
  | none => false

theorem Verify_ok {es : List S_notary_entry} (hl : es.length ≤ 65536) (k m : Arr Int 8) {sig : List Int} (hb : Byts sig) : F.notary_Book_Verify es (places es) k m sig = some (okV es k m sig) := Verify_eq hl k m hb

/-- Whose signatures lack, from a number on. -/
def missL (es : List S_notary_entry) (m : Arr Int 8) (sigs : List (List Int)) (free : List Bool) : List (Arr Int 8) → Nat → List Int
  | [], _ => []
  | k :: r, b => if (decide (b < free.length) && getI free (b : Int)) = true then missL es m sigs free r (b + 1)
    else if (decide (b < sigs.length) && okV es k m (getI sigs (b : Int))) = true then missL es m sigs free r (b + 1)
    else (b : Int) :: missL es m sigs free r (b + 1)

theorem getI_mid' {α : Type} [Inhabited α] {p r : List α} {x : α} : getI (p ++ x :: r) (p.length : Int) = x := by
  unfold getI
  simp

end Go.Proofs.Ytlnockimfgfcgaa
