/- Parts of a merge: words. Conditions: those of the lemmas. -/
import Derived.Test.YtcpnjlnphjnhnaaSame
import Derived.Test.YtcpnjlnphjnhnaaRisW
namespace Go.Proofs.Ytcpnjlnphjnhnaa
open Go.RowKit
/-- A list that came in. -/
structure LiD where
  A : Option Addr
  cp : Nat
  l : List En
structure RdL (W : World) (A : Option Addr) (ls : List LiD) : Prop where
  rd : Rd W A (ls.map fun x => [Value.slice x.A x.l.length x.cp]).flatten
  es : ∀ x ∈ ls, RdE W x.A x.l
theorem RdL.new {W W' : World} {A : Option Addr} {ls : List LiD} (h : RdL W A ls) (hf : Fr (fun _ => False) W W') : RdL W' A ls := ⟨h.rd.fr hf (fun _ _ => id), fun x hx => (h.es x hx).fr hf (fun _ _ => id)⟩
theorem RdL.cell {W : World} {A : Option Addr} {ls : List LiD} (h : RdL W A ls) {i : Nat} {x : LiD} (hi : ls[i]? = some x) : ∃ ad, A = some ad ∧ W.cell? (ad.add i) = some (.slice x.A x.l.length x.cp) := by
  have e : (ls.map fun x => [Value.slice x.A x.l.length x.cp]).flatten = ls.map fun x => Value.slice x.A x.l.length x.cp := by
    clear h hi
    induction ls with
    | nil => rfl
    | cons y ls ih => rw [List.map_cons, List.flatten_cons, ih]; rfl
  have h0 := h.rd
  rw [e] at h0
  exact h0 i _ (by simp [hi])
/-- One row more. -/
theorem LdI.push {B : Nat} {W4 W9 : World} {v : Value} {LD : List RowD} {g9 c9 : Nat} {r : RowD} (hD : LdI B W4 v LD) (hR9 : RowK W9 24 2 (.slice (some ⟨g9, 0, none⟩) ((rowsC LD).length + 1) c9) (rowsC LD ++ [rowC r])) (hor9 : v.ownBlock = some g9 ∨ W4.heap.size < g9) (hf9 : Fr (fun q => v.ownBlock = some q) W4 W9) (hB : B ≤ W4.heap.size)
    (hR4 : RdE W4 r.A r.l) (hA4 : ∀ ad, r.A = some ad → ∃ cur : Array Value, W4.heap[ad.block]? = some (.cells cur 32 (0, 0))) (h1 : r.l.length ≤ r.cp) (h2 : r.cp ≤ 9223372036854775807) : LdI B W9 (.slice (some ⟨g9, 0, none⟩) ((rowsC LD).length + 1) c9) (LD ++ [r]) := by
  have hn9 : ∀ (k : Nat) (cur : Array Value), W4.heap[k]? = some (.cells cur 32 (0, 0)) → ¬ v.ownBlock = some k := fun k cur hc hq => by
    obtain ⟨cur2, hc2⟩ := hD.row.kind hq
    exact kinds_ne hc hc2 (by decide) rfl
  refine ⟨?_, fun q hq => ?_, fun r' hr' => ?_⟩
  · unfold rowsC at hR9 ⊢
    rw [List.map_append]
    exact hR9
  · have hq' : g9 = q := by simpa [Value.ownBlock] using hq
    subst hq'
    rcases hor9 with h | h
    · exact hD.own _ h
    · omega
  · have key : RdE W4 r'.A r'.l ∧ (∀ ad, r'.A = some ad → ∃ cur : Array Value, W4.heap[ad.block]? = some (.cells cur 32 (0, 0))) ∧ r'.l.length ≤ r'.cp ∧ r'.cp ≤ 9223372036854775807 := by
      rcases List.mem_append.1 hr' with hr' | hr'
      · exact hD.es r' hr'
      · rw [List.mem_singleton] at hr'
        subst hr'
        exact ⟨hR4, hA4, h1, h2⟩
    obtain ⟨a, b, c⟩ := key
    refine ⟨a.fr hf9 (fun ad e => ?_), fun ad e => ?_, c⟩
    · obtain ⟨cur, hc⟩ := b ad e
      exact hn9 _ cur hc
    · obtain ⟨cur, hc⟩ := b ad e
      exact ⟨cur, (hf9.block _ (Array.getElem?_eq_some_iff.1 hc).1 (hn9 _ cur hc)).trans hc⟩
/-- A row that rises and is clean. -/
def Part (r : RowD) : Prop := Ris r.l ∧ Clean r.l ∧ r.e = 0 ∧ r.l.length ≤ 300
theorem toldR_part {r : RowD} (h : Part r) : toldR r = (r.l, 0) := by
  unfold toldR
  rw [told_none h.1, h.2.2.1]
theorem parts_ris {LD : List RowD} (h : ∀ r ∈ LD, Part r) : ∀ r ∈ LD.map toldR, Ris r.1 ∧ r.2 = 0 := fun r hr => by
  obtain ⟨r0, hr0, rfl⟩ := List.mem_map.1 hr
  rw [toldR_part (h r0 hr0)]
  exact ⟨(h r0 hr0).1, rfl⟩
theorem parts_clean {LD : List RowD} (h : ∀ r ∈ LD, Part r) {L : List En} {E : Int} (hm : Mg (LD.map toldR) L E) : Clean L := fun x hx => by
  obtain ⟨r, hr, hx⟩ := hm.mem x hx
  obtain ⟨r0, hr0, rfl⟩ := List.mem_map.1 hr
  rw [toldR_part (h r0 hr0)] at hx
  exact (h r0 hr0).2.1 x hx
theorem LdI.rdr {B : Nat} {W : World} {A : Option Addr} {n c : Nat} {LD : List RowD} (h : LdI B W (.slice A n c) LD) : RdR W A LD := by
  obtain ⟨A', c', e, hrd, _⟩ := h.row.rd
  injection e with e1
  subst e1
  exact ⟨hrd, fun r hr => (h.es r hr).1⟩
theorem LdI.fr3 {S : Nat → Prop} {B : Nat} {W0 W W' : World} {v : Value} {LD : List RowD} (h0 : LdI B W0 v LD) (h : LdI B W v LD) (hf : Fr S W W') (hS : ∀ k, k < W0.heap.size → ¬ S k) : LdI B W' v LD :=
  h.fr2 hf (fun q hq => hS q (h0.row.lt hq)) (fun r hr ad e => by
    obtain ⟨_, b, _⟩ := h0.es r hr
    obtain ⟨cur, hc⟩ := b ad e
    exact hS _ (Array.getElem?_eq_some_iff.1 hc).1)
theorem at_in (n : Int) (k : Nat) (hk : k ≤ 1000) : ∃ m : Nat, m ≤ k ∧ wrap64 ((IntKind.u64.wrap n).tmod ((k : Int) + 1)) = (m : Int) := by
  have h0 : 0 ≤ IntKind.u64.wrap n := by rw [IntKind.wrap_u64]; omega
  have h1 := Int.tmod_nonneg ((k : Int) + 1) h0
  have h2 := Int.tmod_lt_of_pos (IntKind.u64.wrap n) (show (0 : Int) < (k : Int) + 1 by omega)
  generalize (IntKind.u64.wrap n).tmod ((k : Int) + 1) = t at h1 h2
  exact ⟨t.toNat, by omega, by rw [IntWalk.wrap64_in _ (by omega)]; omega⟩
/-- The rows at one half, with nothing beside: what they hold. -/
theorem nested_eq {LD : List RowD} (h : ∀ r ∈ LD, Part r) (m : Nat) {L A B N : List En} {e1 e2 e3 e4 : Int} (hL : Mg (LD.map toldR) L e1) (hA : Mg ((LD.take m).map toldR) A e2) (hB : Mg ((LD.drop m).map toldR) B e3) (hN : Mg [([], 0), (A, e2), ([], 0), (B, e3)] N e4) : N = L ∧ e1 = 0 ∧ e2 = 0 ∧ e3 = 0 ∧ e4 = 0 := by
  obtain ⟨z1, k1⟩ := hL.look (parts_ris h)
  obtain ⟨z2, k2⟩ := hA.look (parts_ris (fun r hr => h r (List.mem_of_mem_take hr)))
  obtain ⟨z3, k3⟩ := hB.look (parts_ris (fun r hr => h r (List.mem_of_mem_drop hr)))
  have rA := hA.ris (toldR_ris _)
  have rB := hB.ris (toldR_ris _)
  have hr4 : ∀ r ∈ [(([] : List En), (0 : Int)), (A, e2), ([], 0), (B, e3)], Ris r.1 ∧ r.2 = 0 := by
    intro r hr
    simp only [List.mem_cons, List.not_mem_nil, or_false] at hr
    rcases hr with rfl | rfl | rfl | rfl
    · exact ⟨by simp [Ris], rfl⟩
    · exact ⟨rA, z2⟩
    · exact ⟨by simp [Ris], rfl⟩
    · exact ⟨rB, z3⟩
  obtain ⟨z4, k4⟩ := hN.look hr4
  refine ⟨ris_ext N L (hN.ris (fun r hr => (hr4 r hr).1)) (hL.ris (toldR_ris _)) (fun k => ?_), z1, z2, z3, z4⟩
  rw [k4 k, k1 k]
  conv => rhs; rw [← List.take_append_drop m LD, List.map_append, looks_app]
  rw [looks_cons, looks_cons, looks_cons, looks_cons, k2 k, k3 k]
  simp [look_nil, looks]
theorem twice_eq {LD : List RowD} (h : ∀ r ∈ LD, Part r) {L N : List En} {e1 e4 : Int} (hL : Mg (LD.map toldR) L e1) (hN : Mg (LD.map toldR ++ LD.map toldR) N e4) : N = L ∧ e4 = 0 := by
  obtain ⟨z1, k1⟩ := hL.look (parts_ris h)
  have hr4 : ∀ r ∈ LD.map toldR ++ LD.map toldR, Ris r.1 ∧ r.2 = 0 := by
    intro r hr
    rcases List.mem_append.1 hr with hr | hr
    · exact parts_ris h r hr
    · exact parts_ris h r hr
  obtain ⟨z4, k4⟩ := hN.look hr4
  refine ⟨ris_ext N L (hN.ris (fun r hr => (hr4 r hr).1)) (hL.ris (toldR_ris _)) (fun k => ?_), z4⟩
  rw [k4 k, k1 k, looks_app]
  cases looks k (LD.map toldR) <;> rfl
end Go.Proofs.Ytcpnjlnphjnhnaa
