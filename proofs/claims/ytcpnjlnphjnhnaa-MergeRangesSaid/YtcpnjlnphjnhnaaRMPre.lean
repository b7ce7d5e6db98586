/- The reference's Merge: words. Conditions: those of the lemmas. -/
import Derived.Test.YtcpnjlnphjnhnaaOvers
namespace Go.Proofs.Ytcpnjlnphjnhnaa
open Go.RowKit
theorem infoRow : (Try.prog.info? 24).map (fun i => (i.zero, i.size, i.bytes)) = some (some (.agg #[.slice none 0 0, .int .i64 0]), 2, 32) := by kernel_rfl
/-- The reference's rows: own row of rows; each with its entries. -/
structure LdI (B : Nat) (W : World) (v : Value) (LD : List RowD) : Prop where
  row : RowK W 24 2 v (rowsC LD)
  own : ∀ q, v.ownBlock = some q → B ≤ q
  es : ∀ r ∈ LD, RdE W r.A r.l ∧ (∀ ad, r.A = some ad → ∃ cur : Array Value, W.heap[ad.block]? = some (.cells cur 32 (0, 0))) ∧ r.l.length ≤ r.cp ∧ r.cp ≤ 9223372036854775807
def rwsOf (LD : List RowD) : List Rw := LD.map fun r => (r.l, r.e)
theorem LdI.fr {S : Nat → Prop} {B : Nat} {W W' : World} {v : Value} {LD : List RowD} (h : LdI B W v LD) (hf : Fr S W W') (h1 : ∀ q, v.ownBlock = some q → ¬ S q) (h2 : ∀ (k : Nat) (cur : Array Value), W.heap[k]? = some (.cells cur 32 (0, 0)) → k < W.heap.size → ¬ S k) : LdI B W' v LD :=
  ⟨h.row.fr hf h1, h.own, fun r hr => by
    obtain ⟨a, b, c⟩ := h.es r hr
    refine ⟨a.fr hf (fun ad e => ?_), fun ad e => ?_, c⟩
    · obtain ⟨cur, hc⟩ := b ad e
      exact h2 _ cur hc (Array.getElem?_eq_some_iff.1 hc).1
    · obtain ⟨cur, hc⟩ := b ad e
      exact ⟨cur, (hf.block _ (Array.getElem?_eq_some_iff.1 hc).1 (h2 _ cur hc (Array.getElem?_eq_some_iff.1 hc).1)).trans hc⟩⟩
theorem LdI.new {B : Nat} {W W' : World} {v : Value} {LD : List RowD} (h : LdI B W v LD) (hf : Fr (fun _ => False) W W') : LdI B W' v LD := h.fr hf (fun _ _ => id) (fun _ _ _ _ => id)
theorem rwsOf_at {LD : List RowD} {i : Nat} {r : RowD} (h : LD[i]? = some r) : (rwsOf LD)[i]? = some (r.l, r.e) := by
  unfold rwsOf
  rw [List.getElem?_map, h]
  rfl
/-- The best index so far. -/
def BestN (LD : List RowD) (j : Nat) (b : Int) : Prop := match bestOf ((rwsOf LD).take j) with
  | none => b = -1
  | some x => ∃ (i : Nat) (r : RowD) (l' : List En), b = (i : Int) ∧ i < j ∧ LD[i]? = some r ∧ r.l = x :: l'
theorem BestN.same {LD : List RowD} {j : Nat} {b : Int} (h : BestN LD j b) (hb : bestOf ((rwsOf LD).take (j + 1)) = bestOf ((rwsOf LD).take j)) : BestN LD (j + 1) b := by
  unfold BestN at *
  rw [hb]
  cases hbb : bestOf ((rwsOf LD).take j) with
  | none => rw [hbb] at h; exact h
  | some x =>
    rw [hbb] at h
    obtain ⟨i, r, l', a1, a2, a3⟩ := h
    exact ⟨i, r, l', a1, by omega, a3⟩
theorem BestN.new {LD : List RowD} {j : Nat} {r : RowD} {x : En} {l' : List En} (hb : bestOf ((rwsOf LD).take (j + 1)) = some x) (hr : LD[j]? = some r) (hl : r.l = x :: l') : BestN LD (j + 1) (j : Int) := by
  unfold BestN
  rw [hb]
  exact ⟨j, r, l', rfl, by omega, hr, hl⟩
/-- One row behind its head. -/
theorem LdI.cut {B : Nat} {W : World} {g n c : Nat} {LD : List RowD} (h : LdI B W (.slice (some ⟨g, 0, none⟩) n c) LD) {i : Nat} {r r' : RowD} (hi : LD[i]? = some r) (he : r'.e = r.e) (hr : RdE W r'.A r'.l) (hk : ∀ ad, r'.A = some ad → ∃ cur : Array Value, W.heap[ad.block]? = some (.cells cur 32 (0, 0))) (h1 : r'.l.length ≤ r'.cp) (h2 : r'.cp ≤ 9223372036854775807) :
    LdI B (W.setCell ⟨g, i * 2, none⟩ (.slice r'.A r'.l.length r'.cp)) (.slice (some ⟨g, 0, none⟩) n c) (LD.set i r') := by
  have hy : (rowsC LD)[i]? = some (rowC r) := by simp [rowsC, hi]
  have hs := h.row.set i 0 hy (by decide) (.slice r'.A r'.l.length r'.cp)
  rw [Nat.add_zero] at hs
  have e : (rowsC LD).set i ((rowC r).set 0 (.slice r'.A r'.l.length r'.cp)) = rowsC (LD.set i r') := by
    unfold rowsC
    rw [List.map_set]
    congr 1
    simp [rowC, he]
  rw [e] at hs
  have hf : Fr (fun k => k = g) W (W.setCell ⟨g, i * 2, none⟩ (.slice r'.A r'.l.length r'.cp)) := (Fr.refl _ W).set1 _ _
  obtain ⟨cur0, hc0⟩ := h.row.kind (q := g) rfl
  have key : ∀ (A : Option Addr) (l : List En), RdE W A l → (∀ ad, A = some ad → ∃ cur : Array Value, W.heap[ad.block]? = some (.cells cur 32 (0, 0))) → RdE (W.setCell ⟨g, i * 2, none⟩ (.slice r'.A r'.l.length r'.cp)) A l ∧ ∀ ad, A = some ad → ∃ cur : Array Value, (W.setCell ⟨g, i * 2, none⟩ (.slice r'.A r'.l.length r'.cp)).heap[ad.block]? = some (.cells cur 32 (0, 0)) := by
    intro A l hr hk
    refine ⟨hr.fr hf (fun ad e hh => ?_), fun ad e => ?_⟩
    · obtain ⟨cur, hc⟩ := hk ad e
      exact kinds_ne hc hc0 (by decide) hh
    · obtain ⟨cur, hc⟩ := hk ad e
      exact ⟨cur, (hf.block _ (Array.getElem?_eq_some_iff.1 hc).1 (fun hh => kinds_ne hc hc0 (by decide) hh)).trans hc⟩
  refine ⟨hs, h.own, fun q hq => ?_⟩
  rcases List.mem_or_eq_of_mem_set hq with hq | rfl
  · obtain ⟨a, b, c⟩ := h.es q hq
    obtain ⟨k1, k2⟩ := key q.A q.l a b
    exact ⟨k1, k2, c⟩
  · obtain ⟨k1, k2⟩ := key q.A q.l hr hk
    exact ⟨k1, k2, h1, h2⟩
theorem rwsOf_set (LD : List RowD) (i : Nat) (r : RowD) : rwsOf (LD.set i r) = (rwsOf LD).set i (r.l, r.e) := by
  unfold rwsOf
  rw [List.map_set]
theorem upTo_step {k : ByteArray} {j : Nat} {rs : List Rw} {r : Rw} (h : rs[j]? = some r) : upTo k (j + 1) rs = (upTo k j rs).set j (dropK k r) := by
  refine List.ext_getElem? (fun i => ?_)
  by_cases e : j = i
  · subst e
    rw [upTo_same, h, List.getElem?_set_self (by have := (List.getElem?_eq_some_iff.1 h).1; simpa [upTo] using this)]
    rfl
  · rw [List.getElem?_set_ne e, upTo_ne _ _ _ _ (Ne.symm e)]
theorem upTo_keep {k : ByteArray} {j : Nat} {rs : List Rw} {r : Rw} (h : rs[j]? = some r) (hd : dropK k r = r) : upTo k (j + 1) rs = upTo k j rs := by
  rw [upTo_step h, hd]
  refine List.ext_getElem? (fun i => ?_)
  by_cases e : j = i
  · subst e
    rw [List.getElem?_set_self (by have := (List.getElem?_eq_some_iff.1 h).1; simpa [upTo] using this), upTo_this, h]
  · rw [List.getElem?_set_ne e]
theorem upTo_zero (k : ByteArray) (rs : List Rw) : upTo k 0 rs = rs := by
  refine List.ext_getElem? (fun i => ?_)
  rw [upTo_at]
  simp
end Go.Proofs.Ytcpnjlnphjnhnaa
