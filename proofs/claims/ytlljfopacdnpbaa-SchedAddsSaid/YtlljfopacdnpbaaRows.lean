/-
  No cell of these rows narrows 'for every input' (looked for: loops, veiled, ifaces, maps, wideKeys, modest, calm, conditions, laid).
  DERIVED. THE GIVEN ROWS OF THIS SEAT. 5 by the template 'for every input the law returns true; each argument reads behind the call as it read before'; 0 by the template 'total and deterministic' (their statements: YtlljfopacdnpbaaTotals.lean).
  GIVEN WITH THE SEED: the statements are not yours to turn. If you find one false, say at which input.
  Laid BY PROGRAM, IN A SANDBOX (cutbox-rows.mjs): the forced cells as the released guide's own fill.sh prints them over the translation 3327717479f5ee4e… (all of the seat's roots in one cut). By AI agents, Wed Nov 11 2026. No macro, syntax, notation, axiom, sorry.
-/
import Derived.Test.YtlljfopacdnpbaaChecked
import GoSem.Claim
import GoSem.ClaimJoined
import GoSem.ClaimMapViews
import Derived.JoinedTies
import Derived.KernelRfl
namespace Go.Proofs.Ytlljfopacdnpbaa
/- THE CELL 'sum', in the pinned program and in every row, IS THE sha256 OF THE DUMP (.gsa) THAT YtlljfopacdnpbaaProg.lean LOADS. Nothing in Lean hashes anything: it is a label: what it is worth is what the hold of that sum in a sandbox is worth. -/
noncomputable def Try.pinned : Pinned := { name := "ytlljfopacdnpbaa", sum := "3327717479f5ee4e8deafb785ed813d52d67c302169bf25fc45d6a2711d6ee69", checked := Try.checked }
namespace Rows
def none {H : Type} : Left H := { results := [], args := [] }

/-- 'silolaw05.SchedRuns': WHATEVER THE INPUT: true; the input reads as it did. -/
def schedRunsSpec : ChangeSpec := { name := "schedRuns", fn := fun _ => fun
  | [d1, d2] => { results := [.lit (.bool true)], args := [d1, d2] }
  | _ => none }
def schedRunsRow : OpenClaim := { program := "ytlljfopacdnpbaa", sum := "3327717479f5ee4e8deafb785ed813d52d67c302169bf25fc45d6a2711d6ee69", func := "silo/silolaw05.SchedRuns", spec := "schedRuns", unfollowed := true, recurses := true, apart := false }
def SchedRunsSaid : Prop := schedRunsRow.holds Try.pinned (OpenSpec.ofChange schedRunsSpec)

/-- ITS FALSE NEIGHBOUR: 'it returns false'. Refute it at one input. -/
def schedRunsWrong : ChangeSpec := { name := "schedRuns", fn := fun _ => fun
  | [d1, d2] => { results := [.lit (.bool false)], args := [d1, d2] }
  | _ => none }
def SchedRunsWrongFalsely : Prop := schedRunsRow.holds Try.pinned (OpenSpec.ofChange schedRunsWrong)

/-- 'silolaw05.SchedAdds': WHATEVER THE INPUT: true; the input reads as it did. -/
def schedAddsSpec : ChangeSpec := { name := "schedAdds", fn := fun _ => fun
  | [d1, d2, d3] => { results := [.lit (.bool true)], args := [d1, d2, d3] }
  | _ => none }
def schedAddsRow : OpenClaim := { program := "ytlljfopacdnpbaa", sum := "3327717479f5ee4e8deafb785ed813d52d67c302169bf25fc45d6a2711d6ee69", func := "silo/silolaw05.SchedAdds", spec := "schedAdds", unfollowed := true, recurses := true, apart := false }
def SchedAddsSaid : Prop := schedAddsRow.holds Try.pinned (OpenSpec.ofChange schedAddsSpec)

/-- ITS FALSE NEIGHBOUR: 'it returns false'. Refute it at one input. -/
def schedAddsWrong : ChangeSpec := { name := "schedAdds", fn := fun _ => fun
  | [d1, d2, d3] => { results := [.lit (.bool false)], args := [d1, d2, d3] }
  | _ => none }
def SchedAddsWrongFalsely : Prop := schedAddsRow.holds Try.pinned (OpenSpec.ofChange schedAddsWrong)

/-- 'silolaw05.SchedCells': WHATEVER THE INPUT: true; the input reads as it did. -/
def schedCellsSpec : ChangeSpec := { name := "schedCells", fn := fun _ => fun
  | [d1, d2] => { results := [.lit (.bool true)], args := [d1, d2] }
  | _ => none }
def schedCellsRow : OpenClaim := { program := "ytlljfopacdnpbaa", sum := "3327717479f5ee4e8deafb785ed813d52d67c302169bf25fc45d6a2711d6ee69", func := "silo/silolaw05.SchedCells", spec := "schedCells", unfollowed := true, recurses := true, apart := false }
def SchedCellsSaid : Prop := schedCellsRow.holds Try.pinned (OpenSpec.ofChange schedCellsSpec)

/-- ITS FALSE NEIGHBOUR: 'it returns false'. Refute it at one input. -/
def schedCellsWrong : ChangeSpec := { name := "schedCells", fn := fun _ => fun
  | [d1, d2] => { results := [.lit (.bool false)], args := [d1, d2] }
  | _ => none }
def SchedCellsWrongFalsely : Prop := schedCellsRow.holds Try.pinned (OpenSpec.ofChange schedCellsWrong)

/-- 'silolaw05.SchedSteps': WHATEVER THE INPUT: true; the input reads as it did. -/
def schedStepsSpec : ChangeSpec := { name := "schedSteps", fn := fun _ => fun
  | [d1, d2, d3] => { results := [.lit (.bool true)], args := [d1, d2, d3] }
  | _ => none }
def schedStepsRow : OpenClaim := { program := "ytlljfopacdnpbaa", sum := "3327717479f5ee4e8deafb785ed813d52d67c302169bf25fc45d6a2711d6ee69", func := "silo/silolaw05.SchedSteps", spec := "schedSteps", unfollowed := true, recurses := true, apart := false }
def SchedStepsSaid : Prop := schedStepsRow.holds Try.pinned (OpenSpec.ofChange schedStepsSpec)

/-- ITS FALSE NEIGHBOUR: 'it returns false'. Refute it at one input. -/
def schedStepsWrong : ChangeSpec := { name := "schedSteps", fn := fun _ => fun
  | [d1, d2, d3] => { results := [.lit (.bool false)], args := [d1, d2, d3] }
  | _ => none }
def SchedStepsWrongFalsely : Prop := schedStepsRow.holds Try.pinned (OpenSpec.ofChange schedStepsWrong)

/-- 'silolaw05.SchedNil': WHATEVER THE INPUT: true; the input reads as it did. -/
def schedNilSpec : ChangeSpec := { name := "schedNil", fn := fun _ => fun
  | [d1, d2] => { results := [.lit (.bool true)], args := [d1, d2] }
  | _ => none }
def schedNilRow : OpenClaim := { program := "ytlljfopacdnpbaa", sum := "3327717479f5ee4e8deafb785ed813d52d67c302169bf25fc45d6a2711d6ee69", func := "silo/silolaw05.SchedNil", spec := "schedNil", unfollowed := true, recurses := true, apart := false }
def SchedNilSaid : Prop := schedNilRow.holds Try.pinned (OpenSpec.ofChange schedNilSpec)

/-- ITS FALSE NEIGHBOUR: 'it returns false'. Refute it at one input. -/
def schedNilWrong : ChangeSpec := { name := "schedNil", fn := fun _ => fun
  | [d1, d2] => { results := [.lit (.bool false)], args := [d1, d2] }
  | _ => none }
def SchedNilWrongFalsely : Prop := schedNilRow.holds Try.pinned (OpenSpec.ofChange schedNilWrong)

/- THE SECOND FORM. 'bulk': how many values and letters a reading holds, each counted each time it is reached (what is shared counts as often as it is met; a slice's spare places count too). A statement '..UptoSaid' is the law's where the arguments, and the package variables that the reading takes, are together of bulk at most 1048576: NARROWER than '..Said'. Prove '..Said' where nothing that the law and all that it calls make is longer than what came in: it says more and counts as full. Else prove '..UptoSaid'. A law counts once. -/
mutual
def uptoBulk {H : Type} : DataW H → Nat
  | .lit (.string bytes) => bytes.length + 1
  | .lit _ => 1
  | .nil => 1
  | .ptr d => uptoBulk d + 1
  | .slice elems spare => uptoBulkAll elems + uptoBulkAll spare + 1
  | .agg parts => uptoBulkAll parts + 1
  | .iface _ d => uptoBulk d + 1
  | .map entries => uptoBulkEntries entries + 1
  | .held _ => 1
def uptoBulkAll {H : Type} : List (DataW H) → Nat
  | [] => 0
  | d :: r => uptoBulk d + uptoBulkAll r
def uptoBulkEntries {H : Type} : List (Lit × DataW H) → Nat
  | [] => 0
  | x :: r => uptoBulkEntry x + uptoBulkEntries r
def uptoBulkEntry {H : Type} : Lit × DataW H → Nat
  | (.string bytes, d) => bytes.length + uptoBulk d + 1
  | (_, d) => uptoBulk d + 1
 end
def uptoSmall : (H : Type) → List (DataW H) → Bool := fun _ ds => decide (uptoBulkAll ds ≤ 1048576)
def OpenSpec.upto (s : _root_.Go.ChangeSpec) : _root_.Go.OpenSpec := { _root_.Go.OpenSpec.ofChange s with cond := some uptoSmall }

/-- 'silolaw05.SchedRuns', WHERE WHAT IT READS IS OF BULK AT MOST 1048576: true; the input reads as it did. -/
def schedRunsUptoRow : OpenClaim := { program := "ytlljfopacdnpbaa", sum := "3327717479f5ee4e8deafb785ed813d52d67c302169bf25fc45d6a2711d6ee69", func := "silo/silolaw05.SchedRuns", spec := "schedRuns", unfollowed := true, recurses := true, apart := false, narrowed := true }
def SchedRunsUptoSaid : Prop := schedRunsUptoRow.holds Try.pinned (OpenSpec.upto schedRunsSpec)

/-- 'silolaw05.SchedAdds', WHERE WHAT IT READS IS OF BULK AT MOST 1048576: true; the input reads as it did. -/
def schedAddsUptoRow : OpenClaim := { program := "ytlljfopacdnpbaa", sum := "3327717479f5ee4e8deafb785ed813d52d67c302169bf25fc45d6a2711d6ee69", func := "silo/silolaw05.SchedAdds", spec := "schedAdds", unfollowed := true, recurses := true, apart := false, narrowed := true }
def SchedAddsUptoSaid : Prop := schedAddsUptoRow.holds Try.pinned (OpenSpec.upto schedAddsSpec)

/-- 'silolaw05.SchedCells', WHERE WHAT IT READS IS OF BULK AT MOST 1048576: true; the input reads as it did. -/
def schedCellsUptoRow : OpenClaim := { program := "ytlljfopacdnpbaa", sum := "3327717479f5ee4e8deafb785ed813d52d67c302169bf25fc45d6a2711d6ee69", func := "silo/silolaw05.SchedCells", spec := "schedCells", unfollowed := true, recurses := true, apart := false, narrowed := true }
def SchedCellsUptoSaid : Prop := schedCellsUptoRow.holds Try.pinned (OpenSpec.upto schedCellsSpec)

/-- 'silolaw05.SchedSteps', WHERE WHAT IT READS IS OF BULK AT MOST 1048576: true; the input reads as it did. -/
def schedStepsUptoRow : OpenClaim := { program := "ytlljfopacdnpbaa", sum := "3327717479f5ee4e8deafb785ed813d52d67c302169bf25fc45d6a2711d6ee69", func := "silo/silolaw05.SchedSteps", spec := "schedSteps", unfollowed := true, recurses := true, apart := false, narrowed := true }
def SchedStepsUptoSaid : Prop := schedStepsUptoRow.holds Try.pinned (OpenSpec.upto schedStepsSpec)

/-- 'silolaw05.SchedNil', WHERE WHAT IT READS IS OF BULK AT MOST 1048576: true; the input reads as it did. -/
def schedNilUptoRow : OpenClaim := { program := "ytlljfopacdnpbaa", sum := "3327717479f5ee4e8deafb785ed813d52d67c302169bf25fc45d6a2711d6ee69", func := "silo/silolaw05.SchedNil", spec := "schedNil", unfollowed := true, recurses := true, apart := false, narrowed := true }
def SchedNilUptoSaid : Prop := schedNilUptoRow.holds Try.pinned (OpenSpec.upto schedNilSpec)

end Rows
end Go.Proofs.Ytlljfopacdnpbaa
