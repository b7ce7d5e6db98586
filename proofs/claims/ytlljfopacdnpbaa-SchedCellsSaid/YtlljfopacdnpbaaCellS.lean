/- Cells (of one kind of value). Conditions: those of the lemmas. -/
import Derived.Test.YtlljfopacdnpbaaSPre
namespace Go.Proofs.Ytlljfopacdnpbaa
open Go.RowKit
def CelS (W : World) (b : Nat) (v : ByteArray) (n : Int) : Prop := Blk W b [Value.string v, .int .i64 n] 85
theorem newCellS_any (v : ByteArray) (W : World) : Calls Try.prog 27 #[Value.string v] W fun e w' => ∃ b, e = .returned (.pointer (some ⟨b, 0, none⟩)) ∧ CelS w' b v 0 ∧ Fr (fun _ => False) W w' ∧ W.heap.size ≤ b := by
  go_enter Try.func27, Try.ntmps27
  go_wp2
  go_ret
  exact ⟨_, rfl, Blk.at_new _ _ _ _ _ rfl rfl, (Fr.refl _ W).alloc _, Nat.le_refl _⟩
theorem loadS_any {W : World} {b : Nat} {v : ByteArray} {n : Int} (h : CelS W b v n) : Calls Try.prog 30 #[.pointer (some ⟨b, 0, none⟩)] W fun e w' => e = .returned (Value.string v) ∧ W = w' := by
  have k0 := Blk.cell h 0 rfl
  go_enter Try.func30, Try.ntmps30
  go_wp2
  go_ret
  exact ⟨rfl, rfl⟩
theorem loadS_nil (W : World) : Calls Try.prog 30 #[.pointer none] W fun e w' => e = .returned (Value.string ⟨#[]⟩) ∧ W = w' := by
  go_enter Try.func30, Try.ntmps30
  go_wp2
  go_ret
  exact ⟨rfl, rfl⟩
theorem setsS_any {W : World} {b : Nat} {v : ByteArray} {n : Int} (h : CelS W b v n) : Calls Try.prog 31 #[.pointer (some ⟨b, 0, none⟩)] W fun e w' => e = .returned (.int .i64 n) ∧ W = w' := by
  have k1 := Blk.cell h 1 rfl
  go_enter Try.func31, Try.ntmps31
  go_wp2
  go_ret
  exact ⟨rfl, rfl⟩
theorem setsS_nil (W : World) : Calls Try.prog 31 #[.pointer none] W fun e w' => e = .returned (.int .i64 0) ∧ W = w' := by
  go_enter Try.func31, Try.ntmps31
  go_wp2
  go_ret
  exact ⟨rfl, rfl⟩
theorem storeS_any {W : World} {b : Nat} {v : ByteArray} {n : Int} (h : CelS W b v n) (u : ByteArray) : Calls Try.prog 28 #[.pointer (some ⟨b, 0, none⟩), Value.string u] W fun e w' => e = .returned (.tuple #[]) ∧ CelS w' b u (wrap64 (n + 1)) ∧ Fr (fun q => q = b) W w' := by
  have k1 := Blk.cell h 1 rfl
  have k0 := Blk.cell h 0 rfl
  have f0 := Blk.free h 0
  have f1 := Blk.free h 1
  have hlt := Blk.lt h
  have h2 := (Blk.set h 0 (Value.string u)).set 1 (.int .i64 (wrap64 (n + 1)))
  go_enter Try.func28, Try.ntmps28
  go_wp2
  go_end0
  exact ⟨rfl, h2, ((Fr.refl _ W).set1 _ _).set1 _ _⟩
theorem storeS_nil (W : World) (u : ByteArray) : Calls Try.prog 28 #[.pointer none, Value.string u] W fun e w' => e = .returned (.tuple #[]) ∧ W = w' := by
  go_enter Try.func28, Try.ntmps28
  go_wp2
  go_end0
  exact ⟨rfl, rfl⟩
theorem swapS_yes {W : World} {b : Nat} {v : ByteArray} {n : Int} (h : CelS W b v n) (u : ByteArray) : Calls Try.prog 29 #[.pointer (some ⟨b, 0, none⟩), Value.string v, Value.string u] W fun e w' => e = .returned (.bool true) ∧ CelS w' b u (wrap64 (n + 1)) ∧ Fr (fun q => q = b) W w' := by
  have k0 := Blk.cell h 0 rfl
  go_enter Try.func29, Try.ntmps29
  go_wp2_with fail
  refine (storeS_any h u).mono ?_
  rintro e w' ⟨rfl, hc, hf⟩
  go_wp2
  go_ret
  exact ⟨rfl, hc, hf⟩
theorem swapS_no {W : World} {b : Nat} {v : ByteArray} {n : Int} (h : CelS W b v n) (o u : ByteArray) (hne : v ≠ o) : Calls Try.prog 29 #[.pointer (some ⟨b, 0, none⟩), Value.string o, Value.string u] W fun e w' => e = .returned (.bool false) ∧ W = w' := by
  have hne2 := toList_ne hne
  have k0 := Blk.cell h 0 rfl
  go_enter Try.func29, Try.ntmps29
  go_wp2
  go_ret
  exact ⟨rfl, rfl⟩
theorem swapS_nil (W : World) (o u : ByteArray) : Calls Try.prog 29 #[.pointer none, Value.string o, Value.string u] W fun e w' => e = .returned (.bool false) ∧ W = w' := by
  go_enter Try.func29, Try.ntmps29
  go_wp2
  go_ret
  exact ⟨rfl, rfl⟩
end Go.Proofs.Ytlljfopacdnpbaa
