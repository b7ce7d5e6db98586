/-
  No cell of these rows narrows 'for every input' (looked for: loops, veiled, ifaces, maps, wideKeys, modest, calm, conditions, laid).
  DERIVED. THE GIVEN ROWS OF THIS SEAT. 4 by the template 'for every input the law returns true; each argument reads behind the call as it read before'; 0 by the template 'total and deterministic' (their statements: YtkodepdbnkghfaaTotals.lean).
  GIVEN WITH THE SEED: the statements are not yours to turn. If you find one false, say at which input.
  Laid BY PROGRAM, IN A SANDBOX (cutbox-rows.mjs): the forced cells as the released guide's own fill.sh prints them over the translation 6ce20b5becf04495… (all of the seat's roots in one cut). By AI agents, Wed Nov 11 2026. No macro, syntax, notation, axiom, sorry.
-/
import Derived.Test.YtkodepdbnkghfaaChecked
import GoSem.Claim
import GoSem.ClaimJoined
import GoSem.ClaimMapViews
import Derived.JoinedTies
import Derived.KernelRfl
namespace Go.Proofs.Ytkodepdbnkghfaa
/- THE CELL 'sum', in the pinned program and in every row, IS THE sha256 OF THE DUMP (.gsa) THAT YtkodepdbnkghfaaProg.lean LOADS. Nothing in Lean hashes anything: it is a label: what it is worth is what the hold of that sum in a sandbox is worth. -/
noncomputable def Try.pinned : Pinned := { name := "ytkodepdbnkghfaa", sum := "6ce20b5becf04495855aa3fa9910e4e616c9e6af2ddc8f2a01a2e4975faeef62", checked := Try.checked }
namespace Rows
def none {H : Type} : Left H := { results := [], args := [] }

/-- 'silolaw11.MemRanges': WHATEVER THE INPUT: true; the input reads as it did. -/
def memRangesSpec : ChangeSpec := { name := "memRanges", fn := fun _ => fun
  | [d1, d2, d3] => { results := [.lit (.bool true)], args := [d1, d2, d3] }
  | _ => none }
def memRangesRow : OpenClaim := { program := "ytkodepdbnkghfaa", sum := "6ce20b5becf04495855aa3fa9910e4e616c9e6af2ddc8f2a01a2e4975faeef62", func := "silo/silolaw11.MemRanges", spec := "memRanges", unfollowed := true, recurses := true, apart := false }
def MemRangesSaid : Prop := memRangesRow.holds Try.pinned (OpenSpec.ofChange memRangesSpec)

/-- ITS FALSE NEIGHBOUR: 'it returns false'. Refute it at one input. -/
def memRangesWrong : ChangeSpec := { name := "memRanges", fn := fun _ => fun
  | [d1, d2, d3] => { results := [.lit (.bool false)], args := [d1, d2, d3] }
  | _ => none }
def MemRangesWrongFalsely : Prop := memRangesRow.holds Try.pinned (OpenSpec.ofChange memRangesWrong)

/-- 'silolaw11.MemPlays': WHATEVER THE INPUT: true; the input reads as it did. -/
def memPlaysSpec : ChangeSpec := { name := "memPlays", fn := fun _ => fun
  | [d] => { results := [.lit (.bool true)], args := [d] }
  | _ => none }
def memPlaysRow : OpenClaim := { program := "ytkodepdbnkghfaa", sum := "6ce20b5becf04495855aa3fa9910e4e616c9e6af2ddc8f2a01a2e4975faeef62", func := "silo/silolaw11.MemPlays", spec := "memPlays", unfollowed := true, recurses := true, apart := false }
def MemPlaysSaid : Prop := memPlaysRow.holds Try.pinned (OpenSpec.ofChange memPlaysSpec)

/-- ITS FALSE NEIGHBOUR: 'it returns false'. Refute it at one input. -/
def memPlaysWrong : ChangeSpec := { name := "memPlays", fn := fun _ => fun
  | [d] => { results := [.lit (.bool false)], args := [d] }
  | _ => none }
def MemPlaysWrongFalsely : Prop := memPlaysRow.holds Try.pinned (OpenSpec.ofChange memPlaysWrong)

/-- 'silolaw11.MemStays': WHATEVER THE INPUT: true; the input reads as it did. -/
def memStaysSpec : ChangeSpec := { name := "memStays", fn := fun _ => fun
  | [d] => { results := [.lit (.bool true)], args := [d] }
  | _ => none }
def memStaysRow : OpenClaim := { program := "ytkodepdbnkghfaa", sum := "6ce20b5becf04495855aa3fa9910e4e616c9e6af2ddc8f2a01a2e4975faeef62", func := "silo/silolaw11.MemStays", spec := "memStays", unfollowed := true, recurses := true, apart := false }
def MemStaysSaid : Prop := memStaysRow.holds Try.pinned (OpenSpec.ofChange memStaysSpec)

/-- ITS FALSE NEIGHBOUR: 'it returns false'. Refute it at one input. -/
def memStaysWrong : ChangeSpec := { name := "memStays", fn := fun _ => fun
  | [d] => { results := [.lit (.bool false)], args := [d] }
  | _ => none }
def MemStaysWrongFalsely : Prop := memStaysRow.holds Try.pinned (OpenSpec.ofChange memStaysWrong)

/-- 'silolaw11.MemHigh': WHATEVER THE INPUT: true; the input reads as it did. -/
def memHighSpec : ChangeSpec := { name := "memHigh", fn := fun _ => fun
  | [d1, d2, d3] => { results := [.lit (.bool true)], args := [d1, d2, d3] }
  | _ => none }
def memHighRow : OpenClaim := { program := "ytkodepdbnkghfaa", sum := "6ce20b5becf04495855aa3fa9910e4e616c9e6af2ddc8f2a01a2e4975faeef62", func := "silo/silolaw11.MemHigh", spec := "memHigh", unfollowed := true, recurses := true, apart := false }
def MemHighSaid : Prop := memHighRow.holds Try.pinned (OpenSpec.ofChange memHighSpec)

/-- ITS FALSE NEIGHBOUR: 'it returns false'. Refute it at one input. -/
def memHighWrong : ChangeSpec := { name := "memHigh", fn := fun _ => fun
  | [d1, d2, d3] => { results := [.lit (.bool false)], args := [d1, d2, d3] }
  | _ => none }
def MemHighWrongFalsely : Prop := memHighRow.holds Try.pinned (OpenSpec.ofChange memHighWrong)

/- THE SECOND FORM. 'bulk': how many values and letters a reading holds, each counted each time it is reached (what is shared counts as often as it is met; a slice's spare places count too). A statement '..UptoSaid' is the law's where the arguments, and the package variables that the reading takes, are together of bulk at most 1048576: NARROWER than '..Said'. Prove '..Said' where nothing that the law and all that it calls make is longer than what came in: it says more and counts as full. Else prove '..UptoSaid'. A law counts once. -/
mutual
def uptoBulk {H : Type} : DataW H → Nat
  | .lit (.string bytes) => bytes.length + 1
  | .lit _ => 1
  | .nil => 1
  | .ptr d => uptoBulk d + 1
  | .slice elems spare => uptoBulkAll elems + uptoBulkAll spare + 1
  | .agg parts => uptoBulkAll parts + 1
  | .iface _ d => uptoBulk d + 1
  | .map entries => uptoBulkEntries entries + 1
  | .held _ => 1
def uptoBulkAll {H : Type} : List (DataW H) → Nat
  | [] => 0
  | d :: r => uptoBulk d + uptoBulkAll r
def uptoBulkEntries {H : Type} : List (Lit × DataW H) → Nat
  | [] => 0
  | x :: r => uptoBulkEntry x + uptoBulkEntries r
def uptoBulkEntry {H : Type} : Lit × DataW H → Nat
  | (.string bytes, d) => bytes.length + uptoBulk d + 1
  | (_, d) => uptoBulk d + 1
 end
def uptoSmall : (H : Type) → List (DataW H) → Bool := fun _ ds => decide (uptoBulkAll ds ≤ 1048576)
def OpenSpec.upto (s : _root_.Go.ChangeSpec) : _root_.Go.OpenSpec := { _root_.Go.OpenSpec.ofChange s with cond := some uptoSmall }

/-- 'silolaw11.MemRanges', WHERE WHAT IT READS IS OF BULK AT MOST 1048576: true; the input reads as it did. -/
def memRangesUptoRow : OpenClaim := { program := "ytkodepdbnkghfaa", sum := "6ce20b5becf04495855aa3fa9910e4e616c9e6af2ddc8f2a01a2e4975faeef62", func := "silo/silolaw11.MemRanges", spec := "memRanges", unfollowed := true, recurses := true, apart := false, narrowed := true }
def MemRangesUptoSaid : Prop := memRangesUptoRow.holds Try.pinned (OpenSpec.upto memRangesSpec)

/-- 'silolaw11.MemPlays', WHERE WHAT IT READS IS OF BULK AT MOST 1048576: true; the input reads as it did. -/
def memPlaysUptoRow : OpenClaim := { program := "ytkodepdbnkghfaa", sum := "6ce20b5becf04495855aa3fa9910e4e616c9e6af2ddc8f2a01a2e4975faeef62", func := "silo/silolaw11.MemPlays", spec := "memPlays", unfollowed := true, recurses := true, apart := false, narrowed := true }
def MemPlaysUptoSaid : Prop := memPlaysUptoRow.holds Try.pinned (OpenSpec.upto memPlaysSpec)

/-- 'silolaw11.MemStays', WHERE WHAT IT READS IS OF BULK AT MOST 1048576: true; the input reads as it did. -/
def memStaysUptoRow : OpenClaim := { program := "ytkodepdbnkghfaa", sum := "6ce20b5becf04495855aa3fa9910e4e616c9e6af2ddc8f2a01a2e4975faeef62", func := "silo/silolaw11.MemStays", spec := "memStays", unfollowed := true, recurses := true, apart := false, narrowed := true }
def MemStaysUptoSaid : Prop := memStaysUptoRow.holds Try.pinned (OpenSpec.upto memStaysSpec)

/-- 'silolaw11.MemHigh', WHERE WHAT IT READS IS OF BULK AT MOST 1048576: true; the input reads as it did. -/
def memHighUptoRow : OpenClaim := { program := "ytkodepdbnkghfaa", sum := "6ce20b5becf04495855aa3fa9910e4e616c9e6af2ddc8f2a01a2e4975faeef62", func := "silo/silolaw11.MemHigh", spec := "memHigh", unfollowed := true, recurses := true, apart := false, narrowed := true }
def MemHighUptoSaid : Prop := memHighUptoRow.holds Try.pinned (OpenSpec.upto memHighSpec)

end Rows
end Go.Proofs.Ytkodepdbnkghfaa
