/-
  No cell of these rows narrows 'for every input' (looked for: loops, veiled, ifaces, maps, wideKeys, modest, calm, conditions, laid).
  DERIVED. THE GIVEN ROWS OF THIS SEAT. 6 by the template 'for every input the law returns true; each argument reads behind the call as it read before'; 0 by the template 'total and deterministic' (their statements: YtahpmlekenbafaaTotals.lean).
  GIVEN WITH THE SEED: the statements are not yours to turn. If you find one false, say at which input.
  Laid BY PROGRAM, IN A SANDBOX (cutbox-rows.mjs): the forced cells as the released guide's own fill.sh prints them over the translation c053d9fdd8ff55b4… (all of the seat's roots in one cut). By AI agents, Wed Nov 11 2026. No macro, syntax, notation, axiom, sorry.
-/
import Derived.Test.YtahpmlekenbafaaChecked
import GoSem.Claim
import GoSem.ClaimJoined
import GoSem.ClaimMapViews
import Derived.JoinedTies
import Derived.KernelRfl
namespace Go.Proofs.Ytahpmlekenbafaa
/- THE CELL 'sum', in the pinned program and in every row, IS THE sha256 OF THE DUMP (.gsa) THAT YtahpmlekenbafaaProg.lean LOADS. Nothing in Lean hashes anything: it is a label: what it is worth is what the hold of that sum in a sandbox is worth. -/
noncomputable def Try.pinned : Pinned := { name := "ytahpmlekenbafaa", sum := "c053d9fdd8ff55b48bb96e8fbf9f5931a08ce5f65affbd32def013a0e7c35140", checked := Try.checked }
namespace Rows
def none {H : Type} : Left H := { results := [], args := [] }

/-- 'baizelaw35.CloseAdds': WHATEVER THE INPUT: true; the input reads as it did. -/
def closeAddsSpec : ChangeSpec := { name := "closeAdds", fn := fun _ => fun
  | [d1, d2, d3] => { results := [.lit (.bool true)], args := [d1, d2, d3] }
  | _ => none }
def closeAddsRow : OpenClaim := { program := "ytahpmlekenbafaa", sum := "c053d9fdd8ff55b48bb96e8fbf9f5931a08ce5f65affbd32def013a0e7c35140", func := "baize/baizelaw35.CloseAdds", spec := "closeAdds", unfollowed := true, recurses := true, plainKeys := false, apart := false }
def CloseAddsSaid : Prop := closeAddsRow.holds Try.pinned (OpenSpec.ofChange closeAddsSpec)

/-- ITS FALSE NEIGHBOUR: 'it returns false'. Refute it at one input. -/
def closeAddsWrong : ChangeSpec := { name := "closeAdds", fn := fun _ => fun
  | [d1, d2, d3] => { results := [.lit (.bool false)], args := [d1, d2, d3] }
  | _ => none }
def CloseAddsWrongFalsely : Prop := closeAddsRow.holds Try.pinned (OpenSpec.ofChange closeAddsWrong)

/-- 'baizelaw35.CloseForfeits': WHATEVER THE INPUT: true; the input reads as it did. -/
def closeForfeitsSpec : ChangeSpec := { name := "closeForfeits", fn := fun _ => fun
  | [d1, d2] => { results := [.lit (.bool true)], args := [d1, d2] }
  | _ => none }
def closeForfeitsRow : OpenClaim := { program := "ytahpmlekenbafaa", sum := "c053d9fdd8ff55b48bb96e8fbf9f5931a08ce5f65affbd32def013a0e7c35140", func := "baize/baizelaw35.CloseForfeits", spec := "closeForfeits", unfollowed := true, recurses := true, plainKeys := false, apart := false }
def CloseForfeitsSaid : Prop := closeForfeitsRow.holds Try.pinned (OpenSpec.ofChange closeForfeitsSpec)

/-- ITS FALSE NEIGHBOUR: 'it returns false'. Refute it at one input. -/
def closeForfeitsWrong : ChangeSpec := { name := "closeForfeits", fn := fun _ => fun
  | [d1, d2] => { results := [.lit (.bool false)], args := [d1, d2] }
  | _ => none }
def CloseForfeitsWrongFalsely : Prop := closeForfeitsRow.holds Try.pinned (OpenSpec.ofChange closeForfeitsWrong)

/-- 'baizelaw35.CloseKeeps': WHATEVER THE INPUT: true; the input reads as it did. -/
def closeKeepsSpec : ChangeSpec := { name := "closeKeeps", fn := fun _ => fun
  | [d1, d2] => { results := [.lit (.bool true)], args := [d1, d2] }
  | _ => none }
def closeKeepsRow : OpenClaim := { program := "ytahpmlekenbafaa", sum := "c053d9fdd8ff55b48bb96e8fbf9f5931a08ce5f65affbd32def013a0e7c35140", func := "baize/baizelaw35.CloseKeeps", spec := "closeKeeps", unfollowed := true, recurses := true, plainKeys := false, apart := false }
def CloseKeepsSaid : Prop := closeKeepsRow.holds Try.pinned (OpenSpec.ofChange closeKeepsSpec)

/-- ITS FALSE NEIGHBOUR: 'it returns false'. Refute it at one input. -/
def closeKeepsWrong : ChangeSpec := { name := "closeKeeps", fn := fun _ => fun
  | [d1, d2] => { results := [.lit (.bool false)], args := [d1, d2] }
  | _ => none }
def CloseKeepsWrongFalsely : Prop := closeKeepsRow.holds Try.pinned (OpenSpec.ofChange closeKeepsWrong)

/-- 'baizelaw35.CloseOrder': WHATEVER THE INPUT: true; the input reads as it did. -/
def closeOrderSpec : ChangeSpec := { name := "closeOrder", fn := fun _ => fun
  | [d1, d2] => { results := [.lit (.bool true)], args := [d1, d2] }
  | _ => none }
def closeOrderRow : OpenClaim := { program := "ytahpmlekenbafaa", sum := "c053d9fdd8ff55b48bb96e8fbf9f5931a08ce5f65affbd32def013a0e7c35140", func := "baize/baizelaw35.CloseOrder", spec := "closeOrder", unfollowed := true, recurses := true, plainKeys := false, apart := false }
def CloseOrderSaid : Prop := closeOrderRow.holds Try.pinned (OpenSpec.ofChange closeOrderSpec)

/-- ITS FALSE NEIGHBOUR: 'it returns false'. Refute it at one input. -/
def closeOrderWrong : ChangeSpec := { name := "closeOrder", fn := fun _ => fun
  | [d1, d2] => { results := [.lit (.bool false)], args := [d1, d2] }
  | _ => none }
def CloseOrderWrongFalsely : Prop := closeOrderRow.holds Try.pinned (OpenSpec.ofChange closeOrderWrong)

/-- 'baizelaw35.CloseAgrees': WHATEVER THE INPUT: true; the input reads as it did. -/
def closeAgreesSpec : ChangeSpec := { name := "closeAgrees", fn := fun _ => fun
  | [d1, d2, d3] => { results := [.lit (.bool true)], args := [d1, d2, d3] }
  | _ => none }
def closeAgreesRow : OpenClaim := { program := "ytahpmlekenbafaa", sum := "c053d9fdd8ff55b48bb96e8fbf9f5931a08ce5f65affbd32def013a0e7c35140", func := "baize/baizelaw35.CloseAgrees", spec := "closeAgrees", unfollowed := true, recurses := true, plainKeys := false, apart := false }
def CloseAgreesSaid : Prop := closeAgreesRow.holds Try.pinned (OpenSpec.ofChange closeAgreesSpec)

/-- ITS FALSE NEIGHBOUR: 'it returns false'. Refute it at one input. -/
def closeAgreesWrong : ChangeSpec := { name := "closeAgrees", fn := fun _ => fun
  | [d1, d2, d3] => { results := [.lit (.bool false)], args := [d1, d2, d3] }
  | _ => none }
def CloseAgreesWrongFalsely : Prop := closeAgreesRow.holds Try.pinned (OpenSpec.ofChange closeAgreesWrong)

/-- 'baizelaw35.CloseMine': WHATEVER THE INPUT: true; the input reads as it did. -/
def closeMineSpec : ChangeSpec := { name := "closeMine", fn := fun _ => fun
  | [d1, d2, d3] => { results := [.lit (.bool true)], args := [d1, d2, d3] }
  | _ => none }
def closeMineRow : OpenClaim := { program := "ytahpmlekenbafaa", sum := "c053d9fdd8ff55b48bb96e8fbf9f5931a08ce5f65affbd32def013a0e7c35140", func := "baize/baizelaw35.CloseMine", spec := "closeMine", unfollowed := true, recurses := true, plainKeys := false, apart := false }
def CloseMineSaid : Prop := closeMineRow.holds Try.pinned (OpenSpec.ofChange closeMineSpec)

/-- ITS FALSE NEIGHBOUR: 'it returns false'. Refute it at one input. -/
def closeMineWrong : ChangeSpec := { name := "closeMine", fn := fun _ => fun
  | [d1, d2, d3] => { results := [.lit (.bool false)], args := [d1, d2, d3] }
  | _ => none }
def CloseMineWrongFalsely : Prop := closeMineRow.holds Try.pinned (OpenSpec.ofChange closeMineWrong)

/- THE SECOND FORM. 'bulk': how many values and letters a reading holds, each counted each time it is reached (what is shared counts as often as it is met; a slice's spare places count too). A statement '..UptoSaid' is the law's where the arguments, and the package variables that the reading takes, are together of bulk at most 1048576: NARROWER than '..Said'. Prove '..Said' where nothing that the law and all that it calls make is longer than what came in: it says more and counts as full. Else prove '..UptoSaid'. A law counts once. -/
mutual
def uptoBulk {H : Type} : DataW H → Nat
  | .lit (.string bytes) => bytes.length + 1
  | .lit _ => 1
  | .nil => 1
  | .ptr d => uptoBulk d + 1
  | .slice elems spare => uptoBulkAll elems + uptoBulkAll spare + 1
  | .agg parts => uptoBulkAll parts + 1
  | .iface _ d => uptoBulk d + 1
  | .map entries => uptoBulkEntries entries + 1
  | .held _ => 1
def uptoBulkAll {H : Type} : List (DataW H) → Nat
  | [] => 0
  | d :: r => uptoBulk d + uptoBulkAll r
def uptoBulkEntries {H : Type} : List (Lit × DataW H) → Nat
  | [] => 0
  | x :: r => uptoBulkEntry x + uptoBulkEntries r
def uptoBulkEntry {H : Type} : Lit × DataW H → Nat
  | (.string bytes, d) => bytes.length + uptoBulk d + 1
  | (_, d) => uptoBulk d + 1
 end
def uptoSmall : (H : Type) → List (DataW H) → Bool := fun _ ds => decide (uptoBulkAll ds ≤ 1048576)
def OpenSpec.upto (s : _root_.Go.ChangeSpec) : _root_.Go.OpenSpec := { _root_.Go.OpenSpec.ofChange s with cond := some uptoSmall }

/-- 'baizelaw35.CloseAdds', WHERE WHAT IT READS IS OF BULK AT MOST 1048576: true; the input reads as it did. -/
def closeAddsUptoRow : OpenClaim := { program := "ytahpmlekenbafaa", sum := "c053d9fdd8ff55b48bb96e8fbf9f5931a08ce5f65affbd32def013a0e7c35140", func := "baize/baizelaw35.CloseAdds", spec := "closeAdds", unfollowed := true, recurses := true, plainKeys := false, apart := false, narrowed := true }
def CloseAddsUptoSaid : Prop := closeAddsUptoRow.holds Try.pinned (OpenSpec.upto closeAddsSpec)

/-- 'baizelaw35.CloseForfeits', WHERE WHAT IT READS IS OF BULK AT MOST 1048576: true; the input reads as it did. -/
def closeForfeitsUptoRow : OpenClaim := { program := "ytahpmlekenbafaa", sum := "c053d9fdd8ff55b48bb96e8fbf9f5931a08ce5f65affbd32def013a0e7c35140", func := "baize/baizelaw35.CloseForfeits", spec := "closeForfeits", unfollowed := true, recurses := true, plainKeys := false, apart := false, narrowed := true }
def CloseForfeitsUptoSaid : Prop := closeForfeitsUptoRow.holds Try.pinned (OpenSpec.upto closeForfeitsSpec)

/-- 'baizelaw35.CloseKeeps', WHERE WHAT IT READS IS OF BULK AT MOST 1048576: true; the input reads as it did. -/
def closeKeepsUptoRow : OpenClaim := { program := "ytahpmlekenbafaa", sum := "c053d9fdd8ff55b48bb96e8fbf9f5931a08ce5f65affbd32def013a0e7c35140", func := "baize/baizelaw35.CloseKeeps", spec := "closeKeeps", unfollowed := true, recurses := true, plainKeys := false, apart := false, narrowed := true }
def CloseKeepsUptoSaid : Prop := closeKeepsUptoRow.holds Try.pinned (OpenSpec.upto closeKeepsSpec)

/-- 'baizelaw35.CloseOrder', WHERE WHAT IT READS IS OF BULK AT MOST 1048576: true; the input reads as it did. -/
def closeOrderUptoRow : OpenClaim := { program := "ytahpmlekenbafaa", sum := "c053d9fdd8ff55b48bb96e8fbf9f5931a08ce5f65affbd32def013a0e7c35140", func := "baize/baizelaw35.CloseOrder", spec := "closeOrder", unfollowed := true, recurses := true, plainKeys := false, apart := false, narrowed := true }
def CloseOrderUptoSaid : Prop := closeOrderUptoRow.holds Try.pinned (OpenSpec.upto closeOrderSpec)

/-- 'baizelaw35.CloseAgrees', WHERE WHAT IT READS IS OF BULK AT MOST 1048576: true; the input reads as it did. -/
def closeAgreesUptoRow : OpenClaim := { program := "ytahpmlekenbafaa", sum := "c053d9fdd8ff55b48bb96e8fbf9f5931a08ce5f65affbd32def013a0e7c35140", func := "baize/baizelaw35.CloseAgrees", spec := "closeAgrees", unfollowed := true, recurses := true, plainKeys := false, apart := false, narrowed := true }
def CloseAgreesUptoSaid : Prop := closeAgreesUptoRow.holds Try.pinned (OpenSpec.upto closeAgreesSpec)

/-- 'baizelaw35.CloseMine', WHERE WHAT IT READS IS OF BULK AT MOST 1048576: true; the input reads as it did. -/
def closeMineUptoRow : OpenClaim := { program := "ytahpmlekenbafaa", sum := "c053d9fdd8ff55b48bb96e8fbf9f5931a08ce5f65affbd32def013a0e7c35140", func := "baize/baizelaw35.CloseMine", spec := "closeMine", unfollowed := true, recurses := true, plainKeys := false, apart := false, narrowed := true }
def CloseMineUptoSaid : Prop := closeMineUptoRow.holds Try.pinned (OpenSpec.upto closeMineSpec)

end Rows
end Go.Proofs.Ytahpmlekenbafaa
