/- A slice of texts that came in: its elements. Conditions: none. -/
import Derived.Test.YtkodepdbnkghfaaOpen
import Derived.SliceStrings
import Derived.ChangeMaps5
namespace Go.Proofs.Ytkodepdbnkghfaa
open Go.ChangeShapes Go.WideShapes Go.ChangeAt Go.RowKit Go.Deep
section
variable {H : Type} {enc : TypeId × Value → H} {P : Program} {w : World}
theorem open_texts {t e : TypeId} {a : Option Addr} {len cap : Nat} {d : DataW H} {p : List MemPlace} (ht : P.underlying t = some (.slice e)) (he : P.underlying e = some .string) (hc : P.cellsOf e = 1)
    (h : DataW.Trod enc P w 0 (fun _ => true) true t (.slice a len cap) d p) :
    ∃ ss : List ByteArray, ss.length = len ∧ len ≤ cap ∧ cap ≤ maxLen ∧ (∀ s ∈ ss, s.size ≤ maxLen) ∧ Rd w a (ss.map Value.string) := by
  obtain ⟨fuel, hf⟩ := h
  rcases open_strings ht he hc hf with ⟨hcs, _⟩ | ⟨x, l, c, ss, hcs, _, hl, hm, hz, _, hcell, hsz⟩
  · simp [Value.cells] at hcs
    obtain ⟨rfl, rfl, rfl⟩ := hcs
    exact ⟨[], rfl, Nat.le_refl _, Nat.zero_le _, by simp, fun j v hj => by simp at hj⟩
  · simp [Value.cells] at hcs
    obtain ⟨rfl, rfl, rfl⟩ := hcs
    have hzc : ss.length = cap := by simpa using hz
    refine ⟨ss.take len, by rw [List.length_take]; omega, hl, hm, fun z hz' => hsz z (List.mem_of_mem_take hz'), fun j v hj => ⟨x, rfl, ?_⟩⟩
    have hjl : j < len := by
      have := (List.getElem?_eq_some_iff.1 hj).1
      rw [List.length_map, List.length_take] at this
      omega
    rw [hcell j (by omega)]
    rw [List.getElem?_map, List.getElem?_take_of_lt hjl, List.getElem?_eq_getElem (show j < ss.length by omega)] at hj
    rw [List.getD_eq_getElem?_getD, List.getElem?_eq_getElem (show j < ss.length by omega)]
    exact hj
end
end Go.Proofs.Ytkodepdbnkghfaa
