/- A slice of structs, or of texts, that came in: its elements. Conditions: none. -/
import Derived.Test.YtlljfopacdnpbaaOpen
import Derived.Test.YtlljfopacdnpbaaRowK
import Derived.Deep.Slices
namespace Go.Proofs.Ytlljfopacdnpbaa
open Go.ChangeShapes Go.WideShapes Go.ChangeAt Go.RowKit Go.Deep
section
variable {H : Type} {enc : TypeId × Value → H} {P : Program} {w : World}
theorem open_structs {α : Type} {t e : TypeId} {a : Option Addr} {len cap : Nat} {d : DataW H} {p : List MemPlace} (cells : α → List Value) (k : Nat) (hk0 : 0 < k) (hcl : ∀ o, (cells o).length = k) (ht : P.underlying t = some (.slice e)) (hk : P.cellsOf e = k)
    (hel : ∀ n cs y, DataW.trod enc P w 0 (fun _ => true) true n e cs = some y → cs.length = k → ∃ o : α, cs = cells o) (h : DataW.Trod enc P w 0 (fun _ => true) true t (.slice a len cap) d p) :
    ∃ os : List α, os.length = len ∧ len ≤ cap ∧ cap ≤ maxLen ∧ (a = none → cap = 0) ∧ Rd w a (os.map cells).flatten := by
  obtain ⟨fuel, hf⟩ := h
  rcases open_slice ht hf with ⟨hcs, _⟩ | ⟨x, l, c, m, n, D, Pl, hcs, _, hl, hm, hmm, _, hx⟩
  · simp [Value.cells] at hcs
    obtain ⟨rfl, rfl, rfl⟩ := hcs
    exact ⟨[], rfl, Nat.le_refl _, Nat.zero_le _, fun _ => rfl, fun j v hj => by simp at hj⟩
  · simp [Value.cells] at hcs
    obtain ⟨rfl, rfl, rfl⟩ := hcs
    have hmc : m = cap := by simpa using hmm
    have each : ∀ i, i < len → ∃ o : α, w.cells? 0 (x.add (i * k)) k = some (cells o) := by
      intro i hi
      obtain ⟨cs', h1, h2⟩ := hx i (by omega)
      rw [hk] at h1
      obtain ⟨_, hlen, _⟩ := World.cells?_some h1
      obtain ⟨o, rfl⟩ := hel _ _ _ h2 hlen
      exact ⟨o, h1⟩
    have key : ∀ m, m ≤ len → ∃ os : List α, os.length = m ∧ ∀ i o, os[i]? = some o → w.cells? 0 (x.add (i * k)) k = some (cells o) := by
      intro m
      induction m with
      | zero => exact fun _ => ⟨[], rfl, fun i o h => by simp at h⟩
      | succ m ih =>
        intro hm
        obtain ⟨os, h1, h2⟩ := ih (by omega)
        obtain ⟨o, ho⟩ := each m (by omega)
        refine ⟨os ++ [o], by simp [h1], fun i o' hi => ?_⟩
        by_cases him : i < os.length
        · rw [List.getElem?_append_left him] at hi
          exact h2 i o' hi
        · rw [List.getElem?_append_right (by omega)] at hi
          have hi0 : i - os.length = 0 := by
            have := (List.getElem?_eq_some_iff.1 hi).1
            simp at this
            omega
          rw [hi0] at hi
          simp at hi
          subst hi
          rw [show i = m by omega]
          exact ho
    obtain ⟨os, h1, h2⟩ := key len (Nat.le_refl _)
    refine ⟨os, h1, hl, hm, (fun e => by cases e), fun j v hj => ⟨x, rfl, ?_⟩⟩
    have hall : ∀ y ∈ os.map cells, y.length = k := fun y hy => by obtain ⟨o, _, rfl⟩ := List.mem_map.1 hy; exact hcl o
    have hjl := (List.getElem?_eq_some_iff.1 hj).1
    rw [flat_len _ hall, List.length_map, h1] at hjl
    have hi : j / k < len := Nat.div_lt_of_lt_mul (by rw [Nat.mul_comm]; exact hjl)
    have hr : j % k < k := Nat.mod_lt _ hk0
    have hjj : j = j / k * k + j % k := by rw [Nat.mul_comm]; exact (Nat.div_add_mod j k).symm
    have ho : os[j / k]? = some (os[j / k]'(by omega)) := List.getElem?_eq_getElem _
    obtain ⟨_, hlen, hcell⟩ := World.cells?_some (h2 _ _ ho)
    have hy : (os.map cells)[j / k]? = some (cells (os[j / k]'(by omega))) := by rw [List.getElem?_map, ho]; rfl
    have hv := flat_at (os.map cells) hall (j / k) (j % k) _ hy hr
    rw [← hjj, hj] at hv
    have h3 := hcell (j % k) hr
    rw [add_add, ← hjj] at h3
    rw [h3, hv]
/-- The cells of a struct whose fields have one cell each. -/
theorem cells_one {n : Nat} {t : TypeId} {cs : List Value} {y : DataW H × List MemPlace} {fs : Array Field} (hs : P.underlying t = some (.struct fs)) (hone : oneCellFields P fs = true) (h : DataW.trod enc P w 0 (fun _ => true) true n t cs = some y) (hl : cs.length = fs.size) :
    ∀ (i : Nat) (f : Field), fs[i]? = some f → ∃ v m y', cs[i]? = some v ∧ DataW.trod enc P w 0 (fun _ => true) true m f.type [v] = some y' := by
  intro i f hi
  obtain ⟨xs, m, _, rfl, _, hlen, hg⟩ := DataW.trod_struct hs h
  obtain ⟨o, k⟩ := hone_of hone i f hi
  have h1 := hg i f hi
  rw [o, k] at h1
  have hic : i < cs.length := by rw [hl]; exact (Array.getElem?_eq_some_iff.1 hi).1
  have hix : i < xs.length := by rw [hlen]; exact (Array.getElem?_eq_some_iff.1 hi).1
  rw [List.drop_eq_getElem_cons hic, List.take_succ_cons, List.take_zero, List.getElem?_eq_getElem hix] at h1
  exact ⟨cs[i], m, _, List.getElem?_eq_getElem hic, h1⟩
end
end Go.Proofs.Ytlljfopacdnpbaa
