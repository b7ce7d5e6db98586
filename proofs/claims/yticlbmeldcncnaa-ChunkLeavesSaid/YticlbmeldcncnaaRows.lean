/-
  No cell of these rows narrows 'for every input' (looked for: loops, veiled, ifaces, maps, wideKeys, modest, calm, conditions, laid).
  DERIVED. THE GIVEN ROWS OF THIS SEAT. 5 by the template 'for every input the law returns true; each argument reads behind the call as it read before'; 0 by the template 'total and deterministic' (their statements: YticlbmeldcncnaaTotals.lean).
  GIVEN WITH THE SEED: the statements are not yours to turn. If you find one false, say at which input.
  Laid BY PROGRAM, IN A SANDBOX (cutbox-rows.mjs): the forced cells as the released guide's own fill.sh prints them over the translation 3178f212c568fea9… (all of the seat's roots in one cut). By AI agents, Wed Nov 11 2026. No macro, syntax, notation, axiom, sorry.
-/
import Derived.Test.YticlbmeldcncnaaChecked
import GoSem.Claim
import GoSem.ClaimJoined
import GoSem.ClaimMapViews
import Derived.JoinedTies
import Derived.KernelRfl
namespace Go.Proofs.Yticlbmeldcncnaa
/- THE CELL 'sum', in the pinned program and in every row, IS THE sha256 OF THE DUMP (.gsa) THAT YticlbmeldcncnaaProg.lean LOADS. Nothing in Lean hashes anything: it is a label: what it is worth is what the hold of that sum in a sandbox is worth. -/
noncomputable def Try.pinned : Pinned := { name := "yticlbmeldcncnaa", sum := "3178f212c568fea9944541c1d602f222d0bffc2624bd876f072180bc1a1d5f61", checked := Try.checked }
namespace Rows
def none {H : Type} : Left H := { results := [], args := [] }

/-- 'silolaw16.ChunkCuts': WHATEVER THE INPUT: true; the input reads as it did. -/
def chunkCutsSpec : ChangeSpec := { name := "chunkCuts", fn := fun _ => fun
  | [d1, d2] => { results := [.lit (.bool true)], args := [d1, d2] }
  | _ => none }
def chunkCutsRow : OpenClaim := { program := "yticlbmeldcncnaa", sum := "3178f212c568fea9944541c1d602f222d0bffc2624bd876f072180bc1a1d5f61", func := "silo/silolaw16.ChunkCuts", spec := "chunkCuts", unfollowed := true, recurses := true, apart := false }
def ChunkCutsSaid : Prop := chunkCutsRow.holds Try.pinned (OpenSpec.ofChange chunkCutsSpec)

/-- ITS FALSE NEIGHBOUR: 'it returns false'. Refute it at one input. -/
def chunkCutsWrong : ChangeSpec := { name := "chunkCuts", fn := fun _ => fun
  | [d1, d2] => { results := [.lit (.bool false)], args := [d1, d2] }
  | _ => none }
def ChunkCutsWrongFalsely : Prop := chunkCutsRow.holds Try.pinned (OpenSpec.ofChange chunkCutsWrong)

/-- 'silolaw16.ChunkPieces': WHATEVER THE INPUT: true; the input reads as it did. -/
def chunkPiecesSpec : ChangeSpec := { name := "chunkPieces", fn := fun _ => fun
  | [d1, d2, d3] => { results := [.lit (.bool true)], args := [d1, d2, d3] }
  | _ => none }
def chunkPiecesRow : OpenClaim := { program := "yticlbmeldcncnaa", sum := "3178f212c568fea9944541c1d602f222d0bffc2624bd876f072180bc1a1d5f61", func := "silo/silolaw16.ChunkPieces", spec := "chunkPieces", unfollowed := true, recurses := true, apart := false }
def ChunkPiecesSaid : Prop := chunkPiecesRow.holds Try.pinned (OpenSpec.ofChange chunkPiecesSpec)

/-- ITS FALSE NEIGHBOUR: 'it returns false'. Refute it at one input. -/
def chunkPiecesWrong : ChangeSpec := { name := "chunkPieces", fn := fun _ => fun
  | [d1, d2, d3] => { results := [.lit (.bool false)], args := [d1, d2, d3] }
  | _ => none }
def ChunkPiecesWrongFalsely : Prop := chunkPiecesRow.holds Try.pinned (OpenSpec.ofChange chunkPiecesWrong)

/-- 'silolaw16.ChunkBounds': WHATEVER THE INPUT: true; the input reads as it did. -/
def chunkBoundsSpec : ChangeSpec := { name := "chunkBounds", fn := fun _ => fun
  | [d1, d2] => { results := [.lit (.bool true)], args := [d1, d2] }
  | _ => none }
def chunkBoundsRow : OpenClaim := { program := "yticlbmeldcncnaa", sum := "3178f212c568fea9944541c1d602f222d0bffc2624bd876f072180bc1a1d5f61", func := "silo/silolaw16.ChunkBounds", spec := "chunkBounds", unfollowed := true, recurses := true, apart := false }
def ChunkBoundsSaid : Prop := chunkBoundsRow.holds Try.pinned (OpenSpec.ofChange chunkBoundsSpec)

/-- ITS FALSE NEIGHBOUR: 'it returns false'. Refute it at one input. -/
def chunkBoundsWrong : ChangeSpec := { name := "chunkBounds", fn := fun _ => fun
  | [d1, d2] => { results := [.lit (.bool false)], args := [d1, d2] }
  | _ => none }
def ChunkBoundsWrongFalsely : Prop := chunkBoundsRow.holds Try.pinned (OpenSpec.ofChange chunkBoundsWrong)

/-- 'silolaw16.ChunkMeets': WHATEVER THE INPUT: true; the input reads as it did. -/
def chunkMeetsSpec : ChangeSpec := { name := "chunkMeets", fn := fun _ => fun
  | [d1, d2, d3, d4] => { results := [.lit (.bool true)], args := [d1, d2, d3, d4] }
  | _ => none }
def chunkMeetsRow : OpenClaim := { program := "yticlbmeldcncnaa", sum := "3178f212c568fea9944541c1d602f222d0bffc2624bd876f072180bc1a1d5f61", func := "silo/silolaw16.ChunkMeets", spec := "chunkMeets", unfollowed := true, recurses := true, apart := false }
def ChunkMeetsSaid : Prop := chunkMeetsRow.holds Try.pinned (OpenSpec.ofChange chunkMeetsSpec)

/-- ITS FALSE NEIGHBOUR: 'it returns false'. Refute it at one input. -/
def chunkMeetsWrong : ChangeSpec := { name := "chunkMeets", fn := fun _ => fun
  | [d1, d2, d3, d4] => { results := [.lit (.bool false)], args := [d1, d2, d3, d4] }
  | _ => none }
def ChunkMeetsWrongFalsely : Prop := chunkMeetsRow.holds Try.pinned (OpenSpec.ofChange chunkMeetsWrong)

/-- 'silolaw16.ChunkLeaves': WHATEVER THE INPUT: true; the input reads as it did. -/
def chunkLeavesSpec : ChangeSpec := { name := "chunkLeaves", fn := fun _ => fun
  | [d1, d2, d3] => { results := [.lit (.bool true)], args := [d1, d2, d3] }
  | _ => none }
def chunkLeavesRow : OpenClaim := { program := "yticlbmeldcncnaa", sum := "3178f212c568fea9944541c1d602f222d0bffc2624bd876f072180bc1a1d5f61", func := "silo/silolaw16.ChunkLeaves", spec := "chunkLeaves", unfollowed := true, recurses := true, apart := false }
def ChunkLeavesSaid : Prop := chunkLeavesRow.holds Try.pinned (OpenSpec.ofChange chunkLeavesSpec)

/-- ITS FALSE NEIGHBOUR: 'it returns false'. Refute it at one input. -/
def chunkLeavesWrong : ChangeSpec := { name := "chunkLeaves", fn := fun _ => fun
  | [d1, d2, d3] => { results := [.lit (.bool false)], args := [d1, d2, d3] }
  | _ => none }
def ChunkLeavesWrongFalsely : Prop := chunkLeavesRow.holds Try.pinned (OpenSpec.ofChange chunkLeavesWrong)

/- THE SECOND FORM. 'bulk': how many values and letters a reading holds, each counted each time it is reached (what is shared counts as often as it is met; a slice's spare places count too). A statement '..UptoSaid' is the law's where the arguments, and the package variables that the reading takes, are together of bulk at most 1048576: NARROWER than '..Said'. Prove '..Said' where nothing that the law and all that it calls make is longer than what came in: it says more and counts as full. Else prove '..UptoSaid'. A law counts once. -/
mutual
def uptoBulk {H : Type} : DataW H → Nat
  | .lit (.string bytes) => bytes.length + 1
  | .lit _ => 1
  | .nil => 1
  | .ptr d => uptoBulk d + 1
  | .slice elems spare => uptoBulkAll elems + uptoBulkAll spare + 1
  | .agg parts => uptoBulkAll parts + 1
  | .iface _ d => uptoBulk d + 1
  | .map entries => uptoBulkEntries entries + 1
  | .held _ => 1
def uptoBulkAll {H : Type} : List (DataW H) → Nat
  | [] => 0
  | d :: r => uptoBulk d + uptoBulkAll r
def uptoBulkEntries {H : Type} : List (Lit × DataW H) → Nat
  | [] => 0
  | x :: r => uptoBulkEntry x + uptoBulkEntries r
def uptoBulkEntry {H : Type} : Lit × DataW H → Nat
  | (.string bytes, d) => bytes.length + uptoBulk d + 1
  | (_, d) => uptoBulk d + 1
 end
def uptoSmall : (H : Type) → List (DataW H) → Bool := fun _ ds => decide (uptoBulkAll ds ≤ 1048576)
def OpenSpec.upto (s : _root_.Go.ChangeSpec) : _root_.Go.OpenSpec := { _root_.Go.OpenSpec.ofChange s with cond := some uptoSmall }

/-- 'silolaw16.ChunkCuts', WHERE WHAT IT READS IS OF BULK AT MOST 1048576: true; the input reads as it did. -/
def chunkCutsUptoRow : OpenClaim := { program := "yticlbmeldcncnaa", sum := "3178f212c568fea9944541c1d602f222d0bffc2624bd876f072180bc1a1d5f61", func := "silo/silolaw16.ChunkCuts", spec := "chunkCuts", unfollowed := true, recurses := true, apart := false, narrowed := true }
def ChunkCutsUptoSaid : Prop := chunkCutsUptoRow.holds Try.pinned (OpenSpec.upto chunkCutsSpec)

/-- 'silolaw16.ChunkPieces', WHERE WHAT IT READS IS OF BULK AT MOST 1048576: true; the input reads as it did. -/
def chunkPiecesUptoRow : OpenClaim := { program := "yticlbmeldcncnaa", sum := "3178f212c568fea9944541c1d602f222d0bffc2624bd876f072180bc1a1d5f61", func := "silo/silolaw16.ChunkPieces", spec := "chunkPieces", unfollowed := true, recurses := true, apart := false, narrowed := true }
def ChunkPiecesUptoSaid : Prop := chunkPiecesUptoRow.holds Try.pinned (OpenSpec.upto chunkPiecesSpec)

/-- 'silolaw16.ChunkBounds', WHERE WHAT IT READS IS OF BULK AT MOST 1048576: true; the input reads as it did. -/
def chunkBoundsUptoRow : OpenClaim := { program := "yticlbmeldcncnaa", sum := "3178f212c568fea9944541c1d602f222d0bffc2624bd876f072180bc1a1d5f61", func := "silo/silolaw16.ChunkBounds", spec := "chunkBounds", unfollowed := true, recurses := true, apart := false, narrowed := true }
def ChunkBoundsUptoSaid : Prop := chunkBoundsUptoRow.holds Try.pinned (OpenSpec.upto chunkBoundsSpec)

/-- 'silolaw16.ChunkMeets', WHERE WHAT IT READS IS OF BULK AT MOST 1048576: true; the input reads as it did. -/
def chunkMeetsUptoRow : OpenClaim := { program := "yticlbmeldcncnaa", sum := "3178f212c568fea9944541c1d602f222d0bffc2624bd876f072180bc1a1d5f61", func := "silo/silolaw16.ChunkMeets", spec := "chunkMeets", unfollowed := true, recurses := true, apart := false, narrowed := true }
def ChunkMeetsUptoSaid : Prop := chunkMeetsUptoRow.holds Try.pinned (OpenSpec.upto chunkMeetsSpec)

/-- 'silolaw16.ChunkLeaves', WHERE WHAT IT READS IS OF BULK AT MOST 1048576: true; the input reads as it did. -/
def chunkLeavesUptoRow : OpenClaim := { program := "yticlbmeldcncnaa", sum := "3178f212c568fea9944541c1d602f222d0bffc2624bd876f072180bc1a1d5f61", func := "silo/silolaw16.ChunkLeaves", spec := "chunkLeaves", unfollowed := true, recurses := true, apart := false, narrowed := true }
def ChunkLeavesUptoSaid : Prop := chunkLeavesUptoRow.holds Try.pinned (OpenSpec.upto chunkLeavesSpec)

end Rows
end Go.Proofs.Yticlbmeldcncnaa
