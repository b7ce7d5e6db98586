/- A slice of structs that came in: its elements, and how many values they hold. Conditions: none. -/
import Derived.Test.YtlljfopacdnpbaaOpenS
import Derived.Deep.Strs
namespace Go.Proofs.Ytlljfopacdnpbaa
open Go.ChangeShapes Go.WideShapes Go.ChangeAt Go.RowKit Go.Deep
theorem bulkAll_app {H : Type} : ∀ (a b : List (DataW H)), Rows.uptoBulkAll (a ++ b) = Rows.uptoBulkAll a + Rows.uptoBulkAll b
  | [], b => by simp [Rows.uptoBulkAll]
  | d :: a, b => by
    simp only [List.cons_append, Rows.uptoBulkAll, bulkAll_app a b]
    omega
section
variable {H : Type} {enc : TypeId × Value → H} {P : Program} {w : World}
theorem open_bulk {α : Type} {t e : TypeId} {a : Option Addr} {len cap : Nat} {d : DataW H} {p : List MemPlace} (cells : α → List Value) (Q : α → Prop) (size : α → Nat) (k : Nat) (hk0 : 0 < k) (hcl : ∀ o, (cells o).length = k) (ht : P.underlying t = some (.slice e)) (hk : P.cellsOf e = k)
    (hel : ∀ n cs y, DataW.trod enc P w 0 (fun _ => true) true n e cs = some y → cs.length = k → ∃ o : α, cs = cells o ∧ Q o ∧ size o ≤ Rows.uptoBulk y.1) (h : DataW.Trod enc P w 0 (fun _ => true) true t (.slice a len cap) d p) :
    ∃ os : List α, os.length = len ∧ len ≤ cap ∧ cap ≤ maxLen ∧ (a = none → cap = 0) ∧ Rd w a (os.map cells).flatten ∧ (∀ o ∈ os, Q o) ∧ (os.map size).sum ≤ Rows.uptoBulk d := by
  obtain ⟨fuel, hf⟩ := h
  rcases open_slice ht hf with ⟨hcs, _⟩ | ⟨x, l, c, m, n, D, Pl, hcs, _, hl, hm, hmm, hd, hx⟩
  · simp [Value.cells] at hcs
    obtain ⟨rfl, rfl, rfl⟩ := hcs
    exact ⟨[], rfl, Nat.le_refl _, Nat.zero_le _, fun _ => rfl, (fun j v hj => by simp at hj), (fun o ho => by simp at ho), Nat.zero_le _⟩
  · simp [Value.cells] at hcs
    obtain ⟨rfl, rfl, rfl⟩ := hcs
    injection hd with hd1 hd2
    subst hd1
    have hmc : m = cap := by simpa using hmm
    have each : ∀ i, i < len → ∃ o : α, w.cells? 0 (x.add (i * k)) k = some (cells o) ∧ Q o ∧ size o ≤ Rows.uptoBulk (D i) := by
      intro i hi
      obtain ⟨cs', h1, h2⟩ := hx i (by omega)
      rw [hk] at h1
      obtain ⟨_, hlen, _⟩ := World.cells?_some h1
      obtain ⟨o, rfl, hq, hsz⟩ := hel _ _ _ h2 hlen
      exact ⟨o, h1, hq, hsz⟩
    have key : ∀ m, m ≤ len → ∃ os : List α, os.length = m ∧ (∀ i o, os[i]? = some o → w.cells? 0 (x.add (i * k)) k = some (cells o)) ∧ (∀ o ∈ os, Q o) ∧ (os.map size).sum ≤ Rows.uptoBulkAll ((List.range m).map D) := by
      intro m
      induction m with
      | zero => exact fun _ => ⟨[], rfl, (fun i o h => by simp at h), (fun o h => by simp at h), Nat.zero_le _⟩
      | succ m ih =>
        intro hm
        obtain ⟨os, h1, h2, h3, h4⟩ := ih (by omega)
        obtain ⟨o, ho, hq, hsz⟩ := each m (by omega)
        refine ⟨os ++ [o], by simp [h1], fun i o' hi => ?_, fun o' ho' => ?_, ?_⟩
        · by_cases him : i < os.length
          · rw [List.getElem?_append_left him] at hi
            exact h2 i o' hi
          · rw [List.getElem?_append_right (by omega)] at hi
            have hi0 : i - os.length = 0 := by
              have := (List.getElem?_eq_some_iff.1 hi).1
              simp at this
              omega
            rw [hi0] at hi
            simp at hi
            subst hi
            rw [show i = m by omega]
            exact ho
        · rcases List.mem_append.1 ho' with ho' | ho'
          · exact h3 o' ho'
          · rw [List.mem_singleton.1 ho']; exact hq
        · rw [List.range_succ, List.map_append, List.map_append, bulkAll_app, List.sum_append]
          simp only [List.map_cons, List.map_nil, List.sum_cons, List.sum_nil, Rows.uptoBulkAll]
          omega
    obtain ⟨os, h1, h2, h3, h4⟩ := key len (Nat.le_refl _)
    refine ⟨os, h1, hl, hm, (fun e => by cases e), (fun j v hj => ⟨x, rfl, ?_⟩), h3, ?_⟩
    · have hall : ∀ y ∈ os.map cells, y.length = k := fun y hy => by obtain ⟨o, _, rfl⟩ := List.mem_map.1 hy; exact hcl o
      have hjl := (List.getElem?_eq_some_iff.1 hj).1
      rw [flat_len _ hall, List.length_map, h1] at hjl
      have hi : j / k < len := Nat.div_lt_of_lt_mul (by rw [Nat.mul_comm]; exact hjl)
      have hr : j % k < k := Nat.mod_lt _ hk0
      have hjj : j = j / k * k + j % k := by rw [Nat.mul_comm]; exact (Nat.div_add_mod j k).symm
      have ho : os[j / k]? = some (os[j / k]'(by omega)) := List.getElem?_eq_getElem _
      obtain ⟨_, hlen, hcell⟩ := World.cells?_some (h2 _ _ ho)
      have hy : (os.map cells)[j / k]? = some (cells (os[j / k]'(by omega))) := by rw [List.getElem?_map, ho]; rfl
      have hv := flat_at (os.map cells) hall (j / k) (j % k) _ hy hr
      rw [← hjj, hj] at hv
      have h5 := hcell (j % k) hr
      rw [add_add, ← hjj] at h5
      rw [h5, hv]
    · simp only [Rows.uptoBulk]
      omega
theorem bulk_mem {d : DataW H} : ∀ {l : List (DataW H)}, d ∈ l → Rows.uptoBulk d ≤ Rows.uptoBulkAll l
  | e :: l, h => by
    simp only [Rows.uptoBulkAll]
    rcases List.mem_cons.1 h with rfl | h
    · omega
    · have := bulk_mem h; omega
theorem bulk_pos' (d : DataW H) : 1 ≤ Rows.uptoBulk d := by
  unfold Rows.uptoBulk
  split <;> omega
theorem bulk_len' : ∀ l : List (DataW H), l.length ≤ Rows.uptoBulkAll l
  | [] => Nat.zero_le _
  | d :: r => by
    have h1 := bulk_pos' d
    have h2 := bulk_len' r
    simp only [Rows.uptoBulkAll, List.length_cons]
    omega
theorem cells_bulk {n : Nat} {t : TypeId} {cs : List Value} {y : DataW H × List MemPlace} {fs : Array Field} (hs : P.underlying t = some (.struct fs)) (hone : oneCellFields P fs = true) (h : DataW.trod enc P w 0 (fun _ => true) true n t cs = some y) (hl : cs.length = fs.size) :
    ∀ (i : Nat) (f : Field), fs[i]? = some f → ∃ v m y', cs[i]? = some v ∧ DataW.trod enc P w 0 (fun _ => true) true m f.type [v] = some y' ∧ Rows.uptoBulk y'.1 ≤ Rows.uptoBulk y.1 := by
  intro i f hi
  obtain ⟨xs, m, _, rfl, _, hlen, hg⟩ := DataW.trod_struct hs h
  obtain ⟨o, k⟩ := hone_of hone i f hi
  have h1 := hg i f hi
  rw [o, k] at h1
  have hic : i < cs.length := by rw [hl]; exact (Array.getElem?_eq_some_iff.1 hi).1
  have hix : i < xs.length := by rw [hlen]; exact (Array.getElem?_eq_some_iff.1 hi).1
  rw [List.drop_eq_getElem_cons hic, List.take_succ_cons, List.take_zero, List.getElem?_eq_getElem hix] at h1
  refine ⟨cs[i], m, _, List.getElem?_eq_getElem hic, h1, ?_⟩
  simp only [Rows.uptoBulk]
  have : Rows.uptoBulk (xs[i]).1 ≤ Rows.uptoBulkAll (xs.map (·.1)) := bulk_mem (List.mem_map_of_mem (List.getElem_mem hix))
  omega
/-- A slice of texts in a cell. -/
theorem strs_bulk {n : Nat} {t e : TypeId} {v : Value} {y : DataW H × List MemPlace} (ht : P.underlying t = some (.slice e)) (he : P.underlying e = some .string) (hc : P.cellsOf e = 1) (h : DataW.trod enc P w 0 (fun _ => true) true n t [v] = some y) :
    ∃ A c, ∃ xs : List ByteArray, v = .slice A xs.length c ∧ Rd w A (xs.map Value.string) ∧ xs.length ≤ Rows.uptoBulk y.1 ∧ xs.length ≤ c ∧ c ≤ maxLen := by
  rcases open_strs ht he hc h with ⟨hcs, hy⟩ | ⟨x, l, c, m, Sx, hcs, _, hl, hm, hmm, hy, hx⟩
  · simp at hcs
    subst hcs
    exact ⟨none, 0, [], rfl, (fun j v hj => by simp at hj), Nat.zero_le _, Nat.le_refl _, Nat.zero_le _⟩
  · simp at hcs
    subst hcs
    have hmc : m = c := by simpa using hmm
    refine ⟨some x, c, (List.range l).map Sx, by simp, fun j v hj => ⟨x, rfl, ?_⟩, ?_, by simpa using hl, hm⟩
    · rw [List.map_map, List.getElem?_map, Option.map_eq_some_iff] at hj
      obtain ⟨i, hi, rfl⟩ := hj
      obtain ⟨hjl, e⟩ := List.getElem?_eq_some_iff.1 hi
      rw [List.getElem_range] at e
      subst e
      rw [List.length_range] at hjl
      exact (hx j (by omega)).1
    · subst hy
      simp only [Rows.uptoBulk, List.length_map, List.length_range]
      have := bulk_len' ((List.range l).map fun i => (DataW.lit (.string (Sx i).data.toList) : DataW H))
      simp only [List.length_map, List.length_range] at this
      omega
end
end Go.Proofs.Ytlljfopacdnpbaa
