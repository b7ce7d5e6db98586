/- Cells (of one kind of value). Conditions: those of the lemmas. -/
import Derived.Test.YtlljfopacdnpbaaSPre
namespace Go.Proofs.Ytlljfopacdnpbaa
open Go.RowKit
def CelI (W : World) (b : Nat) (v : Int) (n : Int) : Prop := Blk W b [Value.int .i64 v, .int .i64 n] 81
theorem newCellI_any (v : Int) (W : World) : Calls Try.prog 16 #[Value.int .i64 v] W fun e w' => ∃ b, e = .returned (.pointer (some ⟨b, 0, none⟩)) ∧ CelI w' b v 0 ∧ Fr (fun _ => False) W w' ∧ W.heap.size ≤ b := by
  go_enter Try.func16, Try.ntmps16
  go_wp2
  go_ret
  exact ⟨_, rfl, Blk.at_new _ _ _ _ _ rfl rfl, (Fr.refl _ W).alloc _, Nat.le_refl _⟩
theorem loadI_any {W : World} {b : Nat} {v : Int} {n : Int} (h : CelI W b v n) : Calls Try.prog 19 #[.pointer (some ⟨b, 0, none⟩)] W fun e w' => e = .returned (Value.int .i64 v) ∧ W = w' := by
  have k0 := Blk.cell h 0 rfl
  go_enter Try.func19, Try.ntmps19
  go_wp2
  go_ret
  exact ⟨rfl, rfl⟩
theorem loadI_nil (W : World) : Calls Try.prog 19 #[.pointer none] W fun e w' => e = .returned (Value.int .i64 0) ∧ W = w' := by
  go_enter Try.func19, Try.ntmps19
  go_wp2
  go_ret
  exact ⟨rfl, rfl⟩
theorem setsI_any {W : World} {b : Nat} {v : Int} {n : Int} (h : CelI W b v n) : Calls Try.prog 26 #[.pointer (some ⟨b, 0, none⟩)] W fun e w' => e = .returned (.int .i64 n) ∧ W = w' := by
  have k1 := Blk.cell h 1 rfl
  go_enter Try.func26, Try.ntmps26
  go_wp2
  go_ret
  exact ⟨rfl, rfl⟩
theorem setsI_nil (W : World) : Calls Try.prog 26 #[.pointer none] W fun e w' => e = .returned (.int .i64 0) ∧ W = w' := by
  go_enter Try.func26, Try.ntmps26
  go_wp2
  go_ret
  exact ⟨rfl, rfl⟩
theorem storeI_any {W : World} {b : Nat} {v : Int} {n : Int} (h : CelI W b v n) (u : Int) : Calls Try.prog 22 #[.pointer (some ⟨b, 0, none⟩), Value.int .i64 u] W fun e w' => e = .returned (.tuple #[]) ∧ CelI w' b u (wrap64 (n + 1)) ∧ Fr (fun q => q = b) W w' := by
  have k1 := Blk.cell h 1 rfl
  have k0 := Blk.cell h 0 rfl
  have f0 := Blk.free h 0
  have f1 := Blk.free h 1
  have hlt := Blk.lt h
  have h2 := (Blk.set h 0 (Value.int .i64 u)).set 1 (.int .i64 (wrap64 (n + 1)))
  go_enter Try.func22, Try.ntmps22
  go_wp2
  go_end0
  exact ⟨rfl, h2, ((Fr.refl _ W).set1 _ _).set1 _ _⟩
theorem storeI_nil (W : World) (u : Int) : Calls Try.prog 22 #[.pointer none, Value.int .i64 u] W fun e w' => e = .returned (.tuple #[]) ∧ W = w' := by
  go_enter Try.func22, Try.ntmps22
  go_wp2
  go_end0
  exact ⟨rfl, rfl⟩
theorem swapI_yes {W : World} {b : Nat} {v : Int} {n : Int} (h : CelI W b v n) (u : Int) : Calls Try.prog 21 #[.pointer (some ⟨b, 0, none⟩), Value.int .i64 v, Value.int .i64 u] W fun e w' => e = .returned (.bool true) ∧ CelI w' b u (wrap64 (n + 1)) ∧ Fr (fun q => q = b) W w' := by
  have k0 := Blk.cell h 0 rfl
  go_enter Try.func21, Try.ntmps21
  go_wp2_with fail
  refine (storeI_any h u).mono ?_
  rintro e w' ⟨rfl, hc, hf⟩
  go_wp2
  go_ret
  exact ⟨rfl, hc, hf⟩
theorem swapI_no {W : World} {b : Nat} {v : Int} {n : Int} (h : CelI W b v n) (o u : Int) (hne : v ≠ o) : Calls Try.prog 21 #[.pointer (some ⟨b, 0, none⟩), Value.int .i64 o, Value.int .i64 u] W fun e w' => e = .returned (.bool false) ∧ W = w' := by
  skip
  have k0 := Blk.cell h 0 rfl
  go_enter Try.func21, Try.ntmps21
  go_wp2
  go_ret
  exact ⟨rfl, rfl⟩
theorem swapI_nil (W : World) (o u : Int) : Calls Try.prog 21 #[.pointer none, Value.int .i64 o, Value.int .i64 u] W fun e w' => e = .returned (.bool false) ∧ W = w' := by
  go_enter Try.func21, Try.ntmps21
  go_wp2
  go_ret
  exact ⟨rfl, rfl⟩
end Go.Proofs.Ytlljfopacdnpbaa
