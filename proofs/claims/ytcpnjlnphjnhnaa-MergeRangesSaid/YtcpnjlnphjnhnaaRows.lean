/-
  No cell of these rows narrows 'for every input' (looked for: loops, veiled, ifaces, maps, wideKeys, modest, calm, conditions, laid).
  DERIVED. THE GIVEN ROWS OF THIS SEAT. 5 by the template 'for every input the law returns true; each argument reads behind the call as it read before'; 0 by the template 'total and deterministic' (their statements: YtcpnjlnphjnhnaaTotals.lean).
  GIVEN WITH THE SEED: the statements are not yours to turn. If you find one false, say at which input.
  Laid BY PROGRAM, IN A SANDBOX (cutbox-rows.mjs): the forced cells as the released guide's own fill.sh prints them over the translation 392986dfdd365ae4… (all of the seat's roots in one cut). By AI agents, Wed Nov 11 2026. No macro, syntax, notation, axiom, sorry.
-/
import Derived.Test.YtcpnjlnphjnhnaaChecked
import GoSem.Claim
import GoSem.ClaimJoined
import GoSem.ClaimMapViews
import Derived.JoinedTies
import Derived.KernelRfl
namespace Go.Proofs.Ytcpnjlnphjnhnaa
/- THE CELL 'sum', in the pinned program and in every row, IS THE sha256 OF THE DUMP (.gsa) THAT YtcpnjlnphjnhnaaProg.lean LOADS. Nothing in Lean hashes anything: it is a label: what it is worth is what the hold of that sum in a sandbox is worth. -/
noncomputable def Try.pinned : Pinned := { name := "ytcpnjlnphjnhnaa", sum := "392986dfdd365ae4582c690f161d19fefd6765e2814bf76a9667623ff68c17ba", checked := Try.checked }
namespace Rows
def none {H : Type} : Left H := { results := [], args := [] }

/-- 'silolaw10.MergeTells': WHATEVER THE INPUT: true; the input reads as it did. -/
def mergeTellsSpec : ChangeSpec := { name := "mergeTells", fn := fun _ => fun
  | [d] => { results := [.lit (.bool true)], args := [d] }
  | _ => none }
def mergeTellsRow : OpenClaim := { program := "ytcpnjlnphjnhnaa", sum := "392986dfdd365ae4582c690f161d19fefd6765e2814bf76a9667623ff68c17ba", func := "silo/silolaw10.MergeTells", spec := "mergeTells", unfollowed := true, recurses := true, apart := false }
def MergeTellsSaid : Prop := mergeTellsRow.holds Try.pinned (OpenSpec.ofChange mergeTellsSpec)

/-- ITS FALSE NEIGHBOUR: 'it returns false'. Refute it at one input. -/
def mergeTellsWrong : ChangeSpec := { name := "mergeTells", fn := fun _ => fun
  | [d] => { results := [.lit (.bool false)], args := [d] }
  | _ => none }
def MergeTellsWrongFalsely : Prop := mergeTellsRow.holds Try.pinned (OpenSpec.ofChange mergeTellsWrong)

/-- 'silolaw10.MergeMerges': WHATEVER THE INPUT: true; the input reads as it did. -/
def mergeMergesSpec : ChangeSpec := { name := "mergeMerges", fn := fun _ => fun
  | [d] => { results := [.lit (.bool true)], args := [d] }
  | _ => none }
def mergeMergesRow : OpenClaim := { program := "ytcpnjlnphjnhnaa", sum := "392986dfdd365ae4582c690f161d19fefd6765e2814bf76a9667623ff68c17ba", func := "silo/silolaw10.MergeMerges", spec := "mergeMerges", unfollowed := true, recurses := true, apart := false }
def MergeMergesSaid : Prop := mergeMergesRow.holds Try.pinned (OpenSpec.ofChange mergeMergesSpec)

/-- ITS FALSE NEIGHBOUR: 'it returns false'. Refute it at one input. -/
def mergeMergesWrong : ChangeSpec := { name := "mergeMerges", fn := fun _ => fun
  | [d] => { results := [.lit (.bool false)], args := [d] }
  | _ => none }
def MergeMergesWrongFalsely : Prop := mergeMergesRow.holds Try.pinned (OpenSpec.ofChange mergeMergesWrong)

/-- 'silolaw10.MergeParts': WHATEVER THE INPUT: true; the input reads as it did. -/
def mergePartsSpec : ChangeSpec := { name := "mergeParts", fn := fun _ => fun
  | [d1, d2] => { results := [.lit (.bool true)], args := [d1, d2] }
  | _ => none }
def mergePartsRow : OpenClaim := { program := "ytcpnjlnphjnhnaa", sum := "392986dfdd365ae4582c690f161d19fefd6765e2814bf76a9667623ff68c17ba", func := "silo/silolaw10.MergeParts", spec := "mergeParts", unfollowed := true, recurses := true, apart := false }
def MergePartsSaid : Prop := mergePartsRow.holds Try.pinned (OpenSpec.ofChange mergePartsSpec)

/-- ITS FALSE NEIGHBOUR: 'it returns false'. Refute it at one input. -/
def mergePartsWrong : ChangeSpec := { name := "mergeParts", fn := fun _ => fun
  | [d1, d2] => { results := [.lit (.bool false)], args := [d1, d2] }
  | _ => none }
def MergePartsWrongFalsely : Prop := mergePartsRow.holds Try.pinned (OpenSpec.ofChange mergePartsWrong)

/-- 'silolaw10.MergeLatest': WHATEVER THE INPUT: true; the input reads as it did. -/
def mergeLatestSpec : ChangeSpec := { name := "mergeLatest", fn := fun _ => fun
  | [d1, d2] => { results := [.lit (.bool true)], args := [d1, d2] }
  | _ => none }
def mergeLatestRow : OpenClaim := { program := "ytcpnjlnphjnhnaa", sum := "392986dfdd365ae4582c690f161d19fefd6765e2814bf76a9667623ff68c17ba", func := "silo/silolaw10.MergeLatest", spec := "mergeLatest", unfollowed := true, recurses := true, apart := false }
def MergeLatestSaid : Prop := mergeLatestRow.holds Try.pinned (OpenSpec.ofChange mergeLatestSpec)

/-- ITS FALSE NEIGHBOUR: 'it returns false'. Refute it at one input. -/
def mergeLatestWrong : ChangeSpec := { name := "mergeLatest", fn := fun _ => fun
  | [d1, d2] => { results := [.lit (.bool false)], args := [d1, d2] }
  | _ => none }
def MergeLatestWrongFalsely : Prop := mergeLatestRow.holds Try.pinned (OpenSpec.ofChange mergeLatestWrong)

/-- 'silolaw10.MergeRanges': WHATEVER THE INPUT: true; the input reads as it did. -/
def mergeRangesSpec : ChangeSpec := { name := "mergeRanges", fn := fun _ => fun
  | [d1, d2] => { results := [.lit (.bool true)], args := [d1, d2] }
  | _ => none }
def mergeRangesRow : OpenClaim := { program := "ytcpnjlnphjnhnaa", sum := "392986dfdd365ae4582c690f161d19fefd6765e2814bf76a9667623ff68c17ba", func := "silo/silolaw10.MergeRanges", spec := "mergeRanges", unfollowed := true, recurses := true, apart := false }
def MergeRangesSaid : Prop := mergeRangesRow.holds Try.pinned (OpenSpec.ofChange mergeRangesSpec)

/-- ITS FALSE NEIGHBOUR: 'it returns false'. Refute it at one input. -/
def mergeRangesWrong : ChangeSpec := { name := "mergeRanges", fn := fun _ => fun
  | [d1, d2] => { results := [.lit (.bool false)], args := [d1, d2] }
  | _ => none }
def MergeRangesWrongFalsely : Prop := mergeRangesRow.holds Try.pinned (OpenSpec.ofChange mergeRangesWrong)

/- THE SECOND FORM. 'bulk': how many values and letters a reading holds, each counted each time it is reached (what is shared counts as often as it is met; a slice's spare places count too). A statement '..UptoSaid' is the law's where the arguments, and the package variables that the reading takes, are together of bulk at most 1048576: NARROWER than '..Said'. Prove '..Said' where nothing that the law and all that it calls make is longer than what came in: it says more and counts as full. Else prove '..UptoSaid'. A law counts once. -/
mutual
def uptoBulk {H : Type} : DataW H → Nat
  | .lit (.string bytes) => bytes.length + 1
  | .lit _ => 1
  | .nil => 1
  | .ptr d => uptoBulk d + 1
  | .slice elems spare => uptoBulkAll elems + uptoBulkAll spare + 1
  | .agg parts => uptoBulkAll parts + 1
  | .iface _ d => uptoBulk d + 1
  | .map entries => uptoBulkEntries entries + 1
  | .held _ => 1
def uptoBulkAll {H : Type} : List (DataW H) → Nat
  | [] => 0
  | d :: r => uptoBulk d + uptoBulkAll r
def uptoBulkEntries {H : Type} : List (Lit × DataW H) → Nat
  | [] => 0
  | x :: r => uptoBulkEntry x + uptoBulkEntries r
def uptoBulkEntry {H : Type} : Lit × DataW H → Nat
  | (.string bytes, d) => bytes.length + uptoBulk d + 1
  | (_, d) => uptoBulk d + 1
 end
def uptoSmall : (H : Type) → List (DataW H) → Bool := fun _ ds => decide (uptoBulkAll ds ≤ 1048576)
def OpenSpec.upto (s : _root_.Go.ChangeSpec) : _root_.Go.OpenSpec := { _root_.Go.OpenSpec.ofChange s with cond := some uptoSmall }

/-- 'silolaw10.MergeTells', WHERE WHAT IT READS IS OF BULK AT MOST 1048576: true; the input reads as it did. -/
def mergeTellsUptoRow : OpenClaim := { program := "ytcpnjlnphjnhnaa", sum := "392986dfdd365ae4582c690f161d19fefd6765e2814bf76a9667623ff68c17ba", func := "silo/silolaw10.MergeTells", spec := "mergeTells", unfollowed := true, recurses := true, apart := false, narrowed := true }
def MergeTellsUptoSaid : Prop := mergeTellsUptoRow.holds Try.pinned (OpenSpec.upto mergeTellsSpec)

/-- 'silolaw10.MergeMerges', WHERE WHAT IT READS IS OF BULK AT MOST 1048576: true; the input reads as it did. -/
def mergeMergesUptoRow : OpenClaim := { program := "ytcpnjlnphjnhnaa", sum := "392986dfdd365ae4582c690f161d19fefd6765e2814bf76a9667623ff68c17ba", func := "silo/silolaw10.MergeMerges", spec := "mergeMerges", unfollowed := true, recurses := true, apart := false, narrowed := true }
def MergeMergesUptoSaid : Prop := mergeMergesUptoRow.holds Try.pinned (OpenSpec.upto mergeMergesSpec)

/-- 'silolaw10.MergeParts', WHERE WHAT IT READS IS OF BULK AT MOST 1048576: true; the input reads as it did. -/
def mergePartsUptoRow : OpenClaim := { program := "ytcpnjlnphjnhnaa", sum := "392986dfdd365ae4582c690f161d19fefd6765e2814bf76a9667623ff68c17ba", func := "silo/silolaw10.MergeParts", spec := "mergeParts", unfollowed := true, recurses := true, apart := false, narrowed := true }
def MergePartsUptoSaid : Prop := mergePartsUptoRow.holds Try.pinned (OpenSpec.upto mergePartsSpec)

/-- 'silolaw10.MergeLatest', WHERE WHAT IT READS IS OF BULK AT MOST 1048576: true; the input reads as it did. -/
def mergeLatestUptoRow : OpenClaim := { program := "ytcpnjlnphjnhnaa", sum := "392986dfdd365ae4582c690f161d19fefd6765e2814bf76a9667623ff68c17ba", func := "silo/silolaw10.MergeLatest", spec := "mergeLatest", unfollowed := true, recurses := true, apart := false, narrowed := true }
def MergeLatestUptoSaid : Prop := mergeLatestUptoRow.holds Try.pinned (OpenSpec.upto mergeLatestSpec)

/-- 'silolaw10.MergeRanges', WHERE WHAT IT READS IS OF BULK AT MOST 1048576: true; the input reads as it did. -/
def mergeRangesUptoRow : OpenClaim := { program := "ytcpnjlnphjnhnaa", sum := "392986dfdd365ae4582c690f161d19fefd6765e2814bf76a9667623ff68c17ba", func := "silo/silolaw10.MergeRanges", spec := "mergeRanges", unfollowed := true, recurses := true, apart := false, narrowed := true }
def MergeRangesUptoSaid : Prop := mergeRangesUptoRow.holds Try.pinned (OpenSpec.upto mergeRangesSpec)

end Rows
end Go.Proofs.Ytcpnjlnphjnhnaa
