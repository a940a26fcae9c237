/-
  No cell of these rows narrows 'for every input' (looked for: loops, veiled, ifaces, maps, wideKeys, modest, calm, conditions, laid).
  DERIVED. THE GIVEN ROWS OF THIS SEAT. 6 by the template 'for every input the law returns true; each argument reads behind the call as it read before'; 0 by the template 'total and deterministic' (their statements: YtlnockimfgfcgaaTotals.lean).
  GIVEN WITH THE SEED: the statements are not yours to turn. If you find one false, say at which input.
  Laid BY PROGRAM, IN A SANDBOX (cutbox-rows.mjs): the forced cells as the released guide's own fill.sh prints them over the translation cfdc428e16d9f029… (all of the seat's roots in one cut). By AI agents, Wed Nov 11 2026. No macro, syntax, notation, axiom, sorry.
-/
import Derived.Test.YtlnockimfgfcgaaChecked
import GoSem.Claim
import GoSem.ClaimJoined
import GoSem.ClaimMapViews
import Derived.JoinedTies
import Derived.KernelRfl
namespace Go.Proofs.Ytlnockimfgfcgaa
/- THE CELL 'sum', in the pinned program and in every row, IS THE sha256 OF THE DUMP (.gsa) THAT YtlnockimfgfcgaaProg.lean LOADS. Nothing in Lean hashes anything: it is a label: what it is worth is what the hold of that sum in a sandbox is worth. -/
noncomputable def Try.pinned : Pinned := { name := "ytlnockimfgfcgaa", sum := "cfdc428e16d9f029cdae4a7cf148360867a9a0d02380d99f2fe12b4a17e31da3", checked := Try.checked }
namespace Rows
def none {H : Type} : Left H := { results := [], args := [] }

/-- 'baizelaw34.PunishShares': WHATEVER THE INPUT: true; the input reads as it did. -/
def punishSharesSpec : ChangeSpec := { name := "punishShares", fn := fun _ => fun
  | [d1, d2, d3] => { results := [.lit (.bool true)], args := [d1, d2, d3] }
  | _ => none }
def punishSharesRow : OpenClaim := { program := "ytlnockimfgfcgaa", sum := "cfdc428e16d9f029cdae4a7cf148360867a9a0d02380d99f2fe12b4a17e31da3", func := "baize/baizelaw34.PunishShares", spec := "punishShares", plainKeys := false, apart := false }
def PunishSharesSaid : Prop := punishSharesRow.holds Try.pinned (OpenSpec.ofChange punishSharesSpec)

/-- ITS FALSE NEIGHBOUR: 'it returns false'. Refute it at one input. -/
def punishSharesWrong : ChangeSpec := { name := "punishShares", fn := fun _ => fun
  | [d1, d2, d3] => { results := [.lit (.bool false)], args := [d1, d2, d3] }
  | _ => none }
def PunishSharesWrongFalsely : Prop := punishSharesRow.holds Try.pinned (OpenSpec.ofChange punishSharesWrong)

/-- 'baizelaw34.PunishBytes': WHATEVER THE INPUT: true; the input reads as it did. -/
def punishBytesSpec : ChangeSpec := { name := "punishBytes", fn := fun _ => fun
  | [d1, d2] => { results := [.lit (.bool true)], args := [d1, d2] }
  | _ => none }
def punishBytesRow : OpenClaim := { program := "ytlnockimfgfcgaa", sum := "cfdc428e16d9f029cdae4a7cf148360867a9a0d02380d99f2fe12b4a17e31da3", func := "baize/baizelaw34.PunishBytes", spec := "punishBytes", unfollowed := true, recurses := true, plainKeys := false, apart := false }
def PunishBytesSaid : Prop := punishBytesRow.holds Try.pinned (OpenSpec.ofChange punishBytesSpec)

/-- ITS FALSE NEIGHBOUR: 'it returns false'. Refute it at one input. -/
def punishBytesWrong : ChangeSpec := { name := "punishBytes", fn := fun _ => fun
  | [d1, d2] => { results := [.lit (.bool false)], args := [d1, d2] }
  | _ => none }
def PunishBytesWrongFalsely : Prop := punishBytesRow.holds Try.pinned (OpenSpec.ofChange punishBytesWrong)

/-- 'baizelaw34.PunishTells': WHATEVER THE INPUT: true; the input reads as it did. -/
def punishTellsSpec : ChangeSpec := { name := "punishTells", fn := fun _ => fun
  | [d1, d2, d3, d4] => { results := [.lit (.bool true)], args := [d1, d2, d3, d4] }
  | _ => none }
def punishTellsRow : OpenClaim := { program := "ytlnockimfgfcgaa", sum := "cfdc428e16d9f029cdae4a7cf148360867a9a0d02380d99f2fe12b4a17e31da3", func := "baize/baizelaw34.PunishTells", spec := "punishTells", unfollowed := true, recurses := true, plainKeys := false, apart := false }
def PunishTellsSaid : Prop := punishTellsRow.holds Try.pinned (OpenSpec.ofChange punishTellsSpec)

/-- ITS FALSE NEIGHBOUR: 'it returns false'. Refute it at one input. -/
def punishTellsWrong : ChangeSpec := { name := "punishTells", fn := fun _ => fun
  | [d1, d2, d3, d4] => { results := [.lit (.bool false)], args := [d1, d2, d3, d4] }
  | _ => none }
def PunishTellsWrongFalsely : Prop := punishTellsRow.holds Try.pinned (OpenSpec.ofChange punishTellsWrong)

/-- 'baizelaw34.PunishFinds': WHATEVER THE INPUT: true; the input reads as it did. -/
def punishFindsSpec : ChangeSpec := { name := "punishFinds", fn := fun _ => fun
  | [d1, d2, d3] => { results := [.lit (.bool true)], args := [d1, d2, d3] }
  | _ => none }
def punishFindsRow : OpenClaim := { program := "ytlnockimfgfcgaa", sum := "cfdc428e16d9f029cdae4a7cf148360867a9a0d02380d99f2fe12b4a17e31da3", func := "baize/baizelaw34.PunishFinds", spec := "punishFinds", unfollowed := true, recurses := true, plainKeys := false, apart := false }
def PunishFindsSaid : Prop := punishFindsRow.holds Try.pinned (OpenSpec.ofChange punishFindsSpec)

/-- ITS FALSE NEIGHBOUR: 'it returns false'. Refute it at one input. -/
def punishFindsWrong : ChangeSpec := { name := "punishFinds", fn := fun _ => fun
  | [d1, d2, d3] => { results := [.lit (.bool false)], args := [d1, d2, d3] }
  | _ => none }
def PunishFindsWrongFalsely : Prop := punishFindsRow.holds Try.pinned (OpenSpec.ofChange punishFindsWrong)

/-- 'baizelaw34.PunishCaught': WHATEVER THE INPUT: true; the input reads as it did. -/
def punishCaughtSpec : ChangeSpec := { name := "punishCaught", fn := fun _ => fun
  | [d1, d2, d3, d4, d5, d6, d7] => { results := [.lit (.bool true)], args := [d1, d2, d3, d4, d5, d6, d7] }
  | _ => none }
def punishCaughtRow : OpenClaim := { program := "ytlnockimfgfcgaa", sum := "cfdc428e16d9f029cdae4a7cf148360867a9a0d02380d99f2fe12b4a17e31da3", func := "baize/baizelaw34.PunishCaught", spec := "punishCaught", unfollowed := true, recurses := true, plainKeys := false, apart := false }
def PunishCaughtSaid : Prop := punishCaughtRow.holds Try.pinned (OpenSpec.ofChange punishCaughtSpec)

/-- ITS FALSE NEIGHBOUR: 'it returns false'. Refute it at one input. -/
def punishCaughtWrong : ChangeSpec := { name := "punishCaught", fn := fun _ => fun
  | [d1, d2, d3, d4, d5, d6, d7] => { results := [.lit (.bool false)], args := [d1, d2, d3, d4, d5, d6, d7] }
  | _ => none }
def PunishCaughtWrongFalsely : Prop := punishCaughtRow.holds Try.pinned (OpenSpec.ofChange punishCaughtWrong)

/-- 'baizelaw34.PunishHonest': WHATEVER THE INPUT: true; the input reads as it did. -/
def punishHonestSpec : ChangeSpec := { name := "punishHonest", fn := fun _ => fun
  | [d1, d2] => { results := [.lit (.bool true)], args := [d1, d2] }
  | _ => none }
def punishHonestRow : OpenClaim := { program := "ytlnockimfgfcgaa", sum := "cfdc428e16d9f029cdae4a7cf148360867a9a0d02380d99f2fe12b4a17e31da3", func := "baize/baizelaw34.PunishHonest", spec := "punishHonest", unfollowed := true, recurses := true, plainKeys := false, apart := false }
def PunishHonestSaid : Prop := punishHonestRow.holds Try.pinned (OpenSpec.ofChange punishHonestSpec)

/-- ITS FALSE NEIGHBOUR: 'it returns false'. Refute it at one input. -/
def punishHonestWrong : ChangeSpec := { name := "punishHonest", fn := fun _ => fun
  | [d1, d2] => { results := [.lit (.bool false)], args := [d1, d2] }
  | _ => none }
def PunishHonestWrongFalsely : Prop := punishHonestRow.holds Try.pinned (OpenSpec.ofChange punishHonestWrong)

/- THE SECOND FORM. 'bulk': how many values and letters a reading holds, each counted each time it is reached (what is shared counts as often as it is met; a slice's spare places count too). A statement '..UptoSaid' is the law's where the arguments, and the package variables that the reading takes, are together of bulk at most 1048576: NARROWER than '..Said'. Prove '..Said' where nothing that the law and all that it calls make is longer than what came in: it says more and counts as full. Else prove '..UptoSaid'. A law counts once. -/
mutual
def uptoBulk {H : Type} : DataW H → Nat
  | .lit (.string bytes) => bytes.length + 1
  | .lit _ => 1
  | .nil => 1
  | .ptr d => uptoBulk d + 1
  | .slice elems spare => uptoBulkAll elems + uptoBulkAll spare + 1
  | .agg parts => uptoBulkAll parts + 1
  | .iface _ d => uptoBulk d + 1
  | .map entries => uptoBulkEntries entries + 1
  | .held _ => 1
def uptoBulkAll {H : Type} : List (DataW H) → Nat
  | [] => 0
  | d :: r => uptoBulk d + uptoBulkAll r
def uptoBulkEntries {H : Type} : List (Lit × DataW H) → Nat
  | [] => 0
  | x :: r => uptoBulkEntry x + uptoBulkEntries r
def uptoBulkEntry {H : Type} : Lit × DataW H → Nat
  | (.string bytes, d) => bytes.length + uptoBulk d + 1
  | (_, d) => uptoBulk d + 1
 end
def uptoSmall : (H : Type) → List (DataW H) → Bool := fun _ ds => decide (uptoBulkAll ds ≤ 1048576)
def OpenSpec.upto (s : _root_.Go.ChangeSpec) : _root_.Go.OpenSpec := { _root_.Go.OpenSpec.ofChange s with cond := some uptoSmall }

/-- 'baizelaw34.PunishShares', WHERE WHAT IT READS IS OF BULK AT MOST 1048576: true; the input reads as it did. -/
def punishSharesUptoRow : OpenClaim := { program := "ytlnockimfgfcgaa", sum := "cfdc428e16d9f029cdae4a7cf148360867a9a0d02380d99f2fe12b4a17e31da3", func := "baize/baizelaw34.PunishShares", spec := "punishShares", plainKeys := false, apart := false, narrowed := true }
def PunishSharesUptoSaid : Prop := punishSharesUptoRow.holds Try.pinned (OpenSpec.upto punishSharesSpec)

/-- 'baizelaw34.PunishBytes', WHERE WHAT IT READS IS OF BULK AT MOST 1048576: true; the input reads as it did. -/
def punishBytesUptoRow : OpenClaim := { program := "ytlnockimfgfcgaa", sum := "cfdc428e16d9f029cdae4a7cf148360867a9a0d02380d99f2fe12b4a17e31da3", func := "baize/baizelaw34.PunishBytes", spec := "punishBytes", unfollowed := true, recurses := true, plainKeys := false, apart := false, narrowed := true }
def PunishBytesUptoSaid : Prop := punishBytesUptoRow.holds Try.pinned (OpenSpec.upto punishBytesSpec)

/-- 'baizelaw34.PunishTells', WHERE WHAT IT READS IS OF BULK AT MOST 1048576: true; the input reads as it did. -/
def punishTellsUptoRow : OpenClaim := { program := "ytlnockimfgfcgaa", sum := "cfdc428e16d9f029cdae4a7cf148360867a9a0d02380d99f2fe12b4a17e31da3", func := "baize/baizelaw34.PunishTells", spec := "punishTells", unfollowed := true, recurses := true, plainKeys := false, apart := false, narrowed := true }
def PunishTellsUptoSaid : Prop := punishTellsUptoRow.holds Try.pinned (OpenSpec.upto punishTellsSpec)

/-- 'baizelaw34.PunishFinds', WHERE WHAT IT READS IS OF BULK AT MOST 1048576: true; the input reads as it did. -/
def punishFindsUptoRow : OpenClaim := { program := "ytlnockimfgfcgaa", sum := "cfdc428e16d9f029cdae4a7cf148360867a9a0d02380d99f2fe12b4a17e31da3", func := "baize/baizelaw34.PunishFinds", spec := "punishFinds", unfollowed := true, recurses := true, plainKeys := false, apart := false, narrowed := true }
def PunishFindsUptoSaid : Prop := punishFindsUptoRow.holds Try.pinned (OpenSpec.upto punishFindsSpec)

/-- 'baizelaw34.PunishCaught', WHERE WHAT IT READS IS OF BULK AT MOST 1048576: true; the input reads as it did. -/
def punishCaughtUptoRow : OpenClaim := { program := "ytlnockimfgfcgaa", sum := "cfdc428e16d9f029cdae4a7cf148360867a9a0d02380d99f2fe12b4a17e31da3", func := "baize/baizelaw34.PunishCaught", spec := "punishCaught", unfollowed := true, recurses := true, plainKeys := false, apart := false, narrowed := true }
def PunishCaughtUptoSaid : Prop := punishCaughtUptoRow.holds Try.pinned (OpenSpec.upto punishCaughtSpec)

/-- 'baizelaw34.PunishHonest', WHERE WHAT IT READS IS OF BULK AT MOST 1048576: true; the input reads as it did. -/
def punishHonestUptoRow : OpenClaim := { program := "ytlnockimfgfcgaa", sum := "cfdc428e16d9f029cdae4a7cf148360867a9a0d02380d99f2fe12b4a17e31da3", func := "baize/baizelaw34.PunishHonest", spec := "punishHonest", unfollowed := true, recurses := true, plainKeys := false, apart := false, narrowed := true }
def PunishHonestUptoSaid : Prop := punishHonestUptoRow.holds Try.pinned (OpenSpec.upto punishHonestSpec)

end Rows
end Go.Proofs.Ytlnockimfgfcgaa
