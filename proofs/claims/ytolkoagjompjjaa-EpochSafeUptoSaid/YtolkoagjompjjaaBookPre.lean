/- Words for the books of Epoch: what a book's memory holds. Conditions: those of the lemmas. -/
import Derived.Test.YtolkoagjompjjaaRowK
import Derived.Deep.RegionHeld3
import Derived.Deep.RegionLaw
namespace Go.Proofs.Ytolkoagjompjjaa
open Go.RowKit
def i64s (l : List Int) : List Value := l.map (Value.int .i64)
theorem i64s_len (xs : List Int) : (i64s xs).length = xs.length := by simp [i64s]
theorem i64s_at {xs : List Int} {k : Nat} (h : k < xs.length) : (i64s xs)[k]? = some (.int .i64 (xs.getD k 0)) := by
  simp [i64s, List.getElem?_eq_getElem h, List.getD_eq_getElem?_getD]
def waits (old : List (Value × Int)) : List (List Value) := old.map fun p => [p.1, .int .i64 p.2]
theorem waits_len (old : List (Value × Int)) : (waits old).length = old.length := by simp [waits]
theorem waits_snoc (old : List (Value × Int)) (x : Value) (t : Int) : waits (old ++ [(x, t)]) = waits old ++ [[x, .int .i64 t]] := by simp [waits]
/-- The pure book. -/
def enterE (now : Int) (slots : List Int) (slot at_ : Int) : Int :=
  if slot < 0 ∨ (slots.length : Int) ≤ slot ∨ at_ < 1 ∨ now < at_ then 1 else if slots.getD slot.toNat 0 ≠ 0 then 11 else 0
def leaveE (slots : List Int) (slot : Int) : Int :=
  if slot < 0 ∨ (slots.length : Int) ≤ slot then 1 else if slots.getD slot.toNat 0 = 0 then 11 else 0
def firstOf (now : Int) (slots : List Int) : Int := slots.foldl (fun f at_ => if at_ ≠ 0 then min f at_ else f) now
def readers (slots : List Int) : Nat := (slots.filter fun at_ => decide (at_ ≠ 0)).length
theorem readers_le (l : List Int) : readers l ≤ l.length := List.length_filter_le _ _
theorem readers_step (slots : List Int) (k : Nat) (h : k < slots.length) : readers (slots.take (k + 1)) = if slots.getD k 0 = 0 then readers (slots.take k) else readers (slots.take k) + 1 := by
  unfold readers
  rw [List.take_add_one, List.filter_append, List.length_append, List.getD_eq_getElem?_getD, List.getElem?_eq_getElem h]
  by_cases hz : slots[k] = 0
  · simp [hz]
  · simp [hz]
theorem firstOf_step (now : Int) (slots : List Int) (k : Nat) (h : k < slots.length) : firstOf now (slots.take (k + 1)) = if slots.getD k 0 ≠ 0 then min (firstOf now (slots.take k)) (slots.getD k 0) else firstOf now (slots.take k) := by
  unfold firstOf
  rw [List.take_add_one, List.foldl_append, List.getD_eq_getElem?_getD, List.getElem?_eq_getElem h]
  simp
theorem made_zero (n : Nat) : (i64s (List.replicate n 0)).toArray = madeCells #[.int .i64 0] n := by
  simp only [i64s, List.map_replicate, madeCells]
  apply Array.ext
  · simp
  · intro i h1 h2
    simp [Nat.mod_one]
end Go.Proofs.Ytolkoagjompjjaa
