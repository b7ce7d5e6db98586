/- From a row's reading of its arguments to what the walks are told of them. Conditions: none. -/
import Derived.Test.YtlljfopacdnpbaaBase
import Derived.ProofKit
import Derived.OpenShut
import Derived.ShutString
import Derived.ChangeOld
import Derived.SizedLaws
import Derived.Deep.Fields
namespace Go.Proofs.Ytlljfopacdnpbaa
open Go.ChangeShapes Go.WideShapes Go.ChangeAt Go.RowKit Go.Deep
theorem own : ownKnob Try.prog.godebug = none := by kernel_rfl
theorem laidOut : laidOutB Try.prog = true := by kernel_rfl
section
variable {H : Type} {enc : TypeId × Value → H} {P : Program} {w : World} {base : Nat} {spare : Nat → Bool} {held : Bool}
/-- A struct of whole numbers, by value. -/
theorem open_agg_ints {r : Reach} {b0 : Nat} {t : TypeId} {fs : Array Field} {v : Value} {d : DataW H} {p : List MemPlace} (hs : P.underlying t = some (.struct fs)) (hone : oneCellFields P fs = true) (hC : P.cellsOf t = fs.size)
    (hint : ∀ (i : Nat) (f : Field), fs[i]? = some f → P.underlying f.type = some (.int .i64)) (hv : Value.okWide P w r b0 t v) (h : DataW.Trod enc P w base spare held t v d p) :
    ∃ ns : List Int, ns.length = fs.size ∧ v = .agg (ns.map (Value.int .i64)).toArray := by
  obtain ⟨cs, rfl, hsz⟩ := okWide_struct hs hv
  obtain ⟨fuel, hf⟩ := h
  obtain ⟨xs, n, _, _, _, hlen, hg⟩ := DataW.trod_struct hs hf
  have each : ∀ j (hj : j < cs.size), ∃ q : Int, cs[j] = .int .i64 q := by
    intro j hj
    have hjf : fs[j]? = some (fs[j]'(by omega)) := Array.getElem?_eq_getElem (by omega)
    obtain ⟨o, k⟩ := hone_of hone j _ hjf
    have h1 := hg j _ hjf
    rw [o, k] at h1
    have hx : xs[j]? = some (xs[j]'(by omega)) := List.getElem?_eq_getElem (by omega)
    rw [hx] at h1
    obtain ⟨q, hq, _, _⟩ := DataW.trod_int (hint j _ hjf) h1
    have hd : (Value.agg cs).cells.toList = cs.toList := rfl
    rw [hd, List.drop_eq_getElem_cons (by simpa using hj)] at hq
    simp at hq
    exact ⟨q, hq⟩
  refine ⟨cs.toList.map intOf, by simp; omega, ?_⟩
  congr 1
  apply Array.ext
  · simp
  · intro i h1 h2
    obtain ⟨q, hq⟩ := each i h1
    simp [hq, intOf]
/-- A slice of whole numbers that came in: its elements. -/
theorem open_nums {t e : TypeId} {k : IntKind} {a : Option Addr} {len cap : Nat} {d : DataW H} {p : List MemPlace} (ht : P.underlying t = some (.slice e)) (he : P.underlying e = some (.int k)) (hc : P.cellsOf e = 1)
    (h : DataW.Trod enc P w 0 (fun _ => true) true t (.slice a len cap) d p) :
    ∃ zs : List Int, zs.length = len ∧ len ≤ cap ∧ cap ≤ maxLen ∧ (∀ z ∈ zs, (Lit.int k z).wf = true) ∧ Rd w a (zs.map (Value.int k)) := by
  obtain ⟨fuel, hf⟩ := h
  rcases open_ints ht he hc hf with ⟨hcs, _⟩ | ⟨x, l, c, zs, hcs, _, hl, hm, hz, _, hcell, hwz⟩
  · simp [Value.cells] at hcs
    obtain ⟨rfl, rfl, rfl⟩ := hcs
    exact ⟨[], rfl, Nat.le_refl _, Nat.zero_le _, by simp, fun j v hj => by simp at hj⟩
  · simp [Value.cells] at hcs
    obtain ⟨rfl, rfl, rfl⟩ := hcs
    have hzc : zs.length = cap := by simpa using hz
    refine ⟨zs.take len, by rw [List.length_take]; omega, hl, hm, fun z hz' => hwz z (List.mem_of_mem_take hz'), fun j v hj => ⟨x, rfl, ?_⟩⟩
    have hjl : j < len := by
      have := (List.getElem?_eq_some_iff.1 hj).1
      rw [List.length_map, List.length_take] at this
      omega
    rw [hcell j (by omega)]
    rw [List.getElem?_map, List.getElem?_take_of_lt hjl, List.getElem?_eq_getElem (show j < zs.length by omega)] at hj
    rw [List.getD_eq_getElem?_getD, List.getElem?_eq_getElem (show j < zs.length by omega)]
    exact hj
end
end Go.Proofs.Ytlljfopacdnpbaa
