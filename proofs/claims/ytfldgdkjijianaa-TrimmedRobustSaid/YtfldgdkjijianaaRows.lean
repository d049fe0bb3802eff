/-
  No cell of these rows narrows 'for every input' (looked for: loops, veiled, ifaces, maps, wideKeys, modest, calm, conditions, laid).
  DERIVED. THE GIVEN ROWS OF THIS SEAT. 8 by the template 'for every input the law returns true; each argument reads behind the call as it read before'; 0 by the template 'total and deterministic' (their statements: YtfldgdkjijianaaTotals.lean).
  GIVEN WITH THE SEED: the statements are not yours to turn. If you find one false, say at which input.
  Laid BY PROGRAM, IN A SANDBOX (cutbox-rows.mjs): the forced cells as the released guide's own fill.sh prints them over the translation 7e5f8fb6be9629bf… (all of the seat's roots in one cut). By AI agents, Wed Nov 11 2026. No macro, syntax, notation, axiom, sorry.
-/
import Derived.Test.YtfldgdkjijianaaChecked
import GoSem.Claim
import GoSem.ClaimJoined
import GoSem.ClaimMapViews
import Derived.JoinedTies
import Derived.KernelRfl
namespace Go.Proofs.Ytfldgdkjijianaa
/- THE CELL 'sum', in the pinned program and in every row, IS THE sha256 OF THE DUMP (.gsa) THAT YtfldgdkjijianaaProg.lean LOADS. Nothing in Lean hashes anything: it is a label: what it is worth is what the hold of that sum in a sandbox is worth. -/
noncomputable def Try.pinned : Pinned := { name := "ytfldgdkjijianaa", sum := "7e5f8fb6be9629bf378cc1ccc49cbfcf3dc32ba38d8c8fa922a78dde33235a85", checked := Try.checked }
namespace Rows
def none {H : Type} : Left H := { results := [], args := [] }

/-- 'salchowlaw28.TrimmedKeeps': WHATEVER THE INPUT: true; the input reads as it did. -/
def trimmedKeepsSpec : ChangeSpec := { name := "trimmedKeeps", fn := fun _ => fun
  | [d1, d2] => { results := [.lit (.bool true)], args := [d1, d2] }
  | _ => none }
def trimmedKeepsRow : OpenClaim := { program := "ytfldgdkjijianaa", sum := "7e5f8fb6be9629bf378cc1ccc49cbfcf3dc32ba38d8c8fa922a78dde33235a85", func := "salchow/salchowlaw28.TrimmedKeeps", spec := "trimmedKeeps", inPlace := ["math/bits.Sub64"], unfollowed := true, recurses := true, apart := false }
def TrimmedKeepsSaid : Prop := trimmedKeepsRow.holds Try.pinned (OpenSpec.ofChange trimmedKeepsSpec)

/-- ITS FALSE NEIGHBOUR: 'it returns false'. Refute it at one input. -/
def trimmedKeepsWrong : ChangeSpec := { name := "trimmedKeeps", fn := fun _ => fun
  | [d1, d2] => { results := [.lit (.bool false)], args := [d1, d2] }
  | _ => none }
def TrimmedKeepsWrongFalsely : Prop := trimmedKeepsRow.holds Try.pinned (OpenSpec.ofChange trimmedKeepsWrong)

/-- 'salchowlaw28.TrimmedBounds': WHATEVER THE INPUT: true; the input reads as it did. -/
def trimmedBoundsSpec : ChangeSpec := { name := "trimmedBounds", fn := fun _ => fun
  | [d1, d2, d3, d4, d5, d6] => { results := [.lit (.bool true)], args := [d1, d2, d3, d4, d5, d6] }
  | _ => none }
def trimmedBoundsRow : OpenClaim := { program := "ytfldgdkjijianaa", sum := "7e5f8fb6be9629bf378cc1ccc49cbfcf3dc32ba38d8c8fa922a78dde33235a85", func := "salchow/salchowlaw28.TrimmedBounds", spec := "trimmedBounds", unfollowed := true, recurses := true, apart := false }
def TrimmedBoundsSaid : Prop := trimmedBoundsRow.holds Try.pinned (OpenSpec.ofChange trimmedBoundsSpec)

/-- ITS FALSE NEIGHBOUR: 'it returns false'. Refute it at one input. -/
def trimmedBoundsWrong : ChangeSpec := { name := "trimmedBounds", fn := fun _ => fun
  | [d1, d2, d3, d4, d5, d6] => { results := [.lit (.bool false)], args := [d1, d2, d3, d4, d5, d6] }
  | _ => none }
def TrimmedBoundsWrongFalsely : Prop := trimmedBoundsRow.holds Try.pinned (OpenSpec.ofChange trimmedBoundsWrong)

/-- 'salchowlaw28.TrimmedOrder': WHATEVER THE INPUT: true; the input reads as it did. -/
def trimmedOrderSpec : ChangeSpec := { name := "trimmedOrder", fn := fun _ => fun
  | [d1, d2, d3, d4, d5] => { results := [.lit (.bool true)], args := [d1, d2, d3, d4, d5] }
  | _ => none }
def trimmedOrderRow : OpenClaim := { program := "ytfldgdkjijianaa", sum := "7e5f8fb6be9629bf378cc1ccc49cbfcf3dc32ba38d8c8fa922a78dde33235a85", func := "salchow/salchowlaw28.TrimmedOrder", spec := "trimmedOrder", unfollowed := true, recurses := true, apart := false }
def TrimmedOrderSaid : Prop := trimmedOrderRow.holds Try.pinned (OpenSpec.ofChange trimmedOrderSpec)

/-- ITS FALSE NEIGHBOUR: 'it returns false'. Refute it at one input. -/
def trimmedOrderWrong : ChangeSpec := { name := "trimmedOrder", fn := fun _ => fun
  | [d1, d2, d3, d4, d5] => { results := [.lit (.bool false)], args := [d1, d2, d3, d4, d5] }
  | _ => none }
def TrimmedOrderWrongFalsely : Prop := trimmedOrderRow.holds Try.pinned (OpenSpec.ofChange trimmedOrderWrong)

/-- 'salchowlaw28.TrimmedRobust': WHATEVER THE INPUT: true; the input reads as it did. -/
def trimmedRobustSpec : ChangeSpec := { name := "trimmedRobust", fn := fun _ => fun
  | [d1, d2, d3, d4] => { results := [.lit (.bool true)], args := [d1, d2, d3, d4] }
  | _ => none }
def trimmedRobustRow : OpenClaim := { program := "ytfldgdkjijianaa", sum := "7e5f8fb6be9629bf378cc1ccc49cbfcf3dc32ba38d8c8fa922a78dde33235a85", func := "salchow/salchowlaw28.TrimmedRobust", spec := "trimmedRobust", unfollowed := true, recurses := true, apart := false }
def TrimmedRobustSaid : Prop := trimmedRobustRow.holds Try.pinned (OpenSpec.ofChange trimmedRobustSpec)

/-- ITS FALSE NEIGHBOUR: 'it returns false'. Refute it at one input. -/
def trimmedRobustWrong : ChangeSpec := { name := "trimmedRobust", fn := fun _ => fun
  | [d1, d2, d3, d4] => { results := [.lit (.bool false)], args := [d1, d2, d3, d4] }
  | _ => none }
def TrimmedRobustWrongFalsely : Prop := trimmedRobustRow.holds Try.pinned (OpenSpec.ofChange trimmedRobustWrong)

/-- 'salchowlaw28.TrimmedInfluences': WHATEVER THE INPUT: true; the input reads as it did. -/
def trimmedInfluencesSpec : ChangeSpec := { name := "trimmedInfluences", fn := fun _ => fun
  | [d1, d2, d3, d4, d5] => { results := [.lit (.bool true)], args := [d1, d2, d3, d4, d5] }
  | _ => none }
def trimmedInfluencesRow : OpenClaim := { program := "ytfldgdkjijianaa", sum := "7e5f8fb6be9629bf378cc1ccc49cbfcf3dc32ba38d8c8fa922a78dde33235a85", func := "salchow/salchowlaw28.TrimmedInfluences", spec := "trimmedInfluences", inPlace := ["math/bits.Sub64"], unfollowed := true, recurses := true, apart := false }
def TrimmedInfluencesSaid : Prop := trimmedInfluencesRow.holds Try.pinned (OpenSpec.ofChange trimmedInfluencesSpec)

/-- ITS FALSE NEIGHBOUR: 'it returns false'. Refute it at one input. -/
def trimmedInfluencesWrong : ChangeSpec := { name := "trimmedInfluences", fn := fun _ => fun
  | [d1, d2, d3, d4, d5] => { results := [.lit (.bool false)], args := [d1, d2, d3, d4, d5] }
  | _ => none }
def TrimmedInfluencesWrongFalsely : Prop := trimmedInfluencesRow.holds Try.pinned (OpenSpec.ofChange trimmedInfluencesWrong)

/-- 'salchowlaw28.TrimmedStable': WHATEVER THE INPUT: true; the input reads as it did. -/
def trimmedStableSpec : ChangeSpec := { name := "trimmedStable", fn := fun _ => fun
  | [d1, d2, d3, d4, d5, d6] => { results := [.lit (.bool true)], args := [d1, d2, d3, d4, d5, d6] }
  | _ => none }
def trimmedStableRow : OpenClaim := { program := "ytfldgdkjijianaa", sum := "7e5f8fb6be9629bf378cc1ccc49cbfcf3dc32ba38d8c8fa922a78dde33235a85", func := "salchow/salchowlaw28.TrimmedStable", spec := "trimmedStable", inPlace := ["math/bits.Sub64"], unfollowed := true, recurses := true, apart := false }
def TrimmedStableSaid : Prop := trimmedStableRow.holds Try.pinned (OpenSpec.ofChange trimmedStableSpec)

/-- ITS FALSE NEIGHBOUR: 'it returns false'. Refute it at one input. -/
def trimmedStableWrong : ChangeSpec := { name := "trimmedStable", fn := fun _ => fun
  | [d1, d2, d3, d4, d5, d6] => { results := [.lit (.bool false)], args := [d1, d2, d3, d4, d5, d6] }
  | _ => none }
def TrimmedStableWrongFalsely : Prop := trimmedStableRow.holds Try.pinned (OpenSpec.ofChange trimmedStableWrong)

/-- 'salchowlaw28.TrimmedReaches': WHATEVER THE INPUT: true; the input reads as it did. -/
def trimmedReachesSpec : ChangeSpec := { name := "trimmedReaches", fn := fun _ => fun
  | [d1, d2, d3, d4, d5] => { results := [.lit (.bool true)], args := [d1, d2, d3, d4, d5] }
  | _ => none }
def trimmedReachesRow : OpenClaim := { program := "ytfldgdkjijianaa", sum := "7e5f8fb6be9629bf378cc1ccc49cbfcf3dc32ba38d8c8fa922a78dde33235a85", func := "salchow/salchowlaw28.TrimmedReaches", spec := "trimmedReaches", unfollowed := true, recurses := true, apart := false }
def TrimmedReachesSaid : Prop := trimmedReachesRow.holds Try.pinned (OpenSpec.ofChange trimmedReachesSpec)

/-- ITS FALSE NEIGHBOUR: 'it returns false'. Refute it at one input. -/
def trimmedReachesWrong : ChangeSpec := { name := "trimmedReaches", fn := fun _ => fun
  | [d1, d2, d3, d4, d5] => { results := [.lit (.bool false)], args := [d1, d2, d3, d4, d5] }
  | _ => none }
def TrimmedReachesWrongFalsely : Prop := trimmedReachesRow.holds Try.pinned (OpenSpec.ofChange trimmedReachesWrong)

/-- 'salchowlaw28.TrimmedShifts': WHATEVER THE INPUT: true; the input reads as it did. -/
def trimmedShiftsSpec : ChangeSpec := { name := "trimmedShifts", fn := fun _ => fun
  | [d1, d2, d3] => { results := [.lit (.bool true)], args := [d1, d2, d3] }
  | _ => none }
def trimmedShiftsRow : OpenClaim := { program := "ytfldgdkjijianaa", sum := "7e5f8fb6be9629bf378cc1ccc49cbfcf3dc32ba38d8c8fa922a78dde33235a85", func := "salchow/salchowlaw28.TrimmedShifts", spec := "trimmedShifts", inPlace := ["math/bits.Add64", "math/bits.Sub64"], unfollowed := true, recurses := true, named := ["math/bits.divideError", "math/bits.overflowError"], apart := false }
def TrimmedShiftsSaid : Prop := trimmedShiftsRow.holds Try.pinned (OpenSpec.ofChange trimmedShiftsSpec)

/-- ITS FALSE NEIGHBOUR: 'it returns false'. Refute it at one input. -/
def trimmedShiftsWrong : ChangeSpec := { name := "trimmedShifts", fn := fun _ => fun
  | [d1, d2, d3] => { results := [.lit (.bool false)], args := [d1, d2, d3] }
  | _ => none }
def TrimmedShiftsWrongFalsely : Prop := trimmedShiftsRow.holds Try.pinned (OpenSpec.ofChange trimmedShiftsWrong)

/- THE SECOND FORM. 'bulk': how many values and letters a reading holds, each counted each time it is reached (what is shared counts as often as it is met; a slice's spare places count too). A statement '..UptoSaid' is the law's where the arguments, and the package variables that the reading takes, are together of bulk at most 1048576: NARROWER than '..Said'. Prove '..Said' where nothing that the law and all that it calls make is longer than what came in: it says more and counts as full. Else prove '..UptoSaid'. A law counts once. -/
mutual
def uptoBulk {H : Type} : DataW H → Nat
  | .lit (.string bytes) => bytes.length + 1
  | .lit _ => 1
  | .nil => 1
  | .ptr d => uptoBulk d + 1
  | .slice elems spare => uptoBulkAll elems + uptoBulkAll spare + 1
  | .agg parts => uptoBulkAll parts + 1
  | .iface _ d => uptoBulk d + 1
  | .map entries => uptoBulkEntries entries + 1
  | .held _ => 1
def uptoBulkAll {H : Type} : List (DataW H) → Nat
  | [] => 0
  | d :: r => uptoBulk d + uptoBulkAll r
def uptoBulkEntries {H : Type} : List (Lit × DataW H) → Nat
  | [] => 0
  | x :: r => uptoBulkEntry x + uptoBulkEntries r
def uptoBulkEntry {H : Type} : Lit × DataW H → Nat
  | (.string bytes, d) => bytes.length + uptoBulk d + 1
  | (_, d) => uptoBulk d + 1
 end
def uptoSmall : (H : Type) → List (DataW H) → Bool := fun _ ds => decide (uptoBulkAll ds ≤ 1048576)
def OpenSpec.upto (s : _root_.Go.ChangeSpec) : _root_.Go.OpenSpec := { _root_.Go.OpenSpec.ofChange s with cond := some uptoSmall }

/-- 'salchowlaw28.TrimmedKeeps', WHERE WHAT IT READS IS OF BULK AT MOST 1048576: true; the input reads as it did. -/
def trimmedKeepsUptoRow : OpenClaim := { program := "ytfldgdkjijianaa", sum := "7e5f8fb6be9629bf378cc1ccc49cbfcf3dc32ba38d8c8fa922a78dde33235a85", func := "salchow/salchowlaw28.TrimmedKeeps", spec := "trimmedKeeps", inPlace := ["math/bits.Sub64"], unfollowed := true, recurses := true, apart := false, narrowed := true }
def TrimmedKeepsUptoSaid : Prop := trimmedKeepsUptoRow.holds Try.pinned (OpenSpec.upto trimmedKeepsSpec)

/-- 'salchowlaw28.TrimmedBounds', WHERE WHAT IT READS IS OF BULK AT MOST 1048576: true; the input reads as it did. -/
def trimmedBoundsUptoRow : OpenClaim := { program := "ytfldgdkjijianaa", sum := "7e5f8fb6be9629bf378cc1ccc49cbfcf3dc32ba38d8c8fa922a78dde33235a85", func := "salchow/salchowlaw28.TrimmedBounds", spec := "trimmedBounds", unfollowed := true, recurses := true, apart := false, narrowed := true }
def TrimmedBoundsUptoSaid : Prop := trimmedBoundsUptoRow.holds Try.pinned (OpenSpec.upto trimmedBoundsSpec)

/-- 'salchowlaw28.TrimmedOrder', WHERE WHAT IT READS IS OF BULK AT MOST 1048576: true; the input reads as it did. -/
def trimmedOrderUptoRow : OpenClaim := { program := "ytfldgdkjijianaa", sum := "7e5f8fb6be9629bf378cc1ccc49cbfcf3dc32ba38d8c8fa922a78dde33235a85", func := "salchow/salchowlaw28.TrimmedOrder", spec := "trimmedOrder", unfollowed := true, recurses := true, apart := false, narrowed := true }
def TrimmedOrderUptoSaid : Prop := trimmedOrderUptoRow.holds Try.pinned (OpenSpec.upto trimmedOrderSpec)

/-- 'salchowlaw28.TrimmedRobust', WHERE WHAT IT READS IS OF BULK AT MOST 1048576: true; the input reads as it did. -/
def trimmedRobustUptoRow : OpenClaim := { program := "ytfldgdkjijianaa", sum := "7e5f8fb6be9629bf378cc1ccc49cbfcf3dc32ba38d8c8fa922a78dde33235a85", func := "salchow/salchowlaw28.TrimmedRobust", spec := "trimmedRobust", unfollowed := true, recurses := true, apart := false, narrowed := true }
def TrimmedRobustUptoSaid : Prop := trimmedRobustUptoRow.holds Try.pinned (OpenSpec.upto trimmedRobustSpec)

/-- 'salchowlaw28.TrimmedInfluences', WHERE WHAT IT READS IS OF BULK AT MOST 1048576: true; the input reads as it did. -/
def trimmedInfluencesUptoRow : OpenClaim := { program := "ytfldgdkjijianaa", sum := "7e5f8fb6be9629bf378cc1ccc49cbfcf3dc32ba38d8c8fa922a78dde33235a85", func := "salchow/salchowlaw28.TrimmedInfluences", spec := "trimmedInfluences", inPlace := ["math/bits.Sub64"], unfollowed := true, recurses := true, apart := false, narrowed := true }
def TrimmedInfluencesUptoSaid : Prop := trimmedInfluencesUptoRow.holds Try.pinned (OpenSpec.upto trimmedInfluencesSpec)

/-- 'salchowlaw28.TrimmedStable', WHERE WHAT IT READS IS OF BULK AT MOST 1048576: true; the input reads as it did. -/
def trimmedStableUptoRow : OpenClaim := { program := "ytfldgdkjijianaa", sum := "7e5f8fb6be9629bf378cc1ccc49cbfcf3dc32ba38d8c8fa922a78dde33235a85", func := "salchow/salchowlaw28.TrimmedStable", spec := "trimmedStable", inPlace := ["math/bits.Sub64"], unfollowed := true, recurses := true, apart := false, narrowed := true }
def TrimmedStableUptoSaid : Prop := trimmedStableUptoRow.holds Try.pinned (OpenSpec.upto trimmedStableSpec)

/-- 'salchowlaw28.TrimmedReaches', WHERE WHAT IT READS IS OF BULK AT MOST 1048576: true; the input reads as it did. -/
def trimmedReachesUptoRow : OpenClaim := { program := "ytfldgdkjijianaa", sum := "7e5f8fb6be9629bf378cc1ccc49cbfcf3dc32ba38d8c8fa922a78dde33235a85", func := "salchow/salchowlaw28.TrimmedReaches", spec := "trimmedReaches", unfollowed := true, recurses := true, apart := false, narrowed := true }
def TrimmedReachesUptoSaid : Prop := trimmedReachesUptoRow.holds Try.pinned (OpenSpec.upto trimmedReachesSpec)

/-- 'salchowlaw28.TrimmedShifts', WHERE WHAT IT READS IS OF BULK AT MOST 1048576: true; the input reads as it did. -/
def trimmedShiftsUptoRow : OpenClaim := { program := "ytfldgdkjijianaa", sum := "7e5f8fb6be9629bf378cc1ccc49cbfcf3dc32ba38d8c8fa922a78dde33235a85", func := "salchow/salchowlaw28.TrimmedShifts", spec := "trimmedShifts", inPlace := ["math/bits.Add64", "math/bits.Sub64"], unfollowed := true, recurses := true, named := ["math/bits.divideError", "math/bits.overflowError"], apart := false, narrowed := true }
def TrimmedShiftsUptoSaid : Prop := trimmedShiftsUptoRow.holds Try.pinned (OpenSpec.upto trimmedShiftsSpec)

end Rows
end Go.Proofs.Ytfldgdkjijianaa
