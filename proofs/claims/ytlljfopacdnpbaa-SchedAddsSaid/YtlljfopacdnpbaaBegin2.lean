/- begin: the tasks are put one by one. Conditions: those of the lemmas. -/
import Derived.Test.YtlljfopacdnpbaaBegin
namespace Go.Proofs.Ytlljfopacdnpbaa
open Go.RowKit
def Fx (E : Env) (tb : Nat) (q : Nat) : Prop := (∃ j, j < 4 ∧ (q = E.c j ∨ q = E.m j)) ∨ q = E.sb ∨ q = tb ∨ q = E.wb
structure Mk2 (w W : World) (E : Env) (tb : Nat) (kv : Value) (ls : List PT) (T : List TV) (kk k : Nat) : Prop where
  obj : Blk W E.wb [.slice (some ⟨E.ca, 0, none⟩) 4 E.cc, .slice (some ⟨E.ma, 0, none⟩) 4 E.mc, kv, .pointer (some ⟨E.sb, 0, none⟩)] 38
  cs : Row W 47 (.slice (some ⟨E.ca, 0, none⟩) 4 E.cc) (ptrs E.c 4)
  ms : Row W 49 (.slice (some ⟨E.ma, 0, none⟩) 4 E.mc) (ptrs E.m 4)
  cel : ∀ j, j < 4 → CelI W (E.c j) 0 0
  mux : ∀ j, j < 4 → Blk W (E.m j) [.bool false, .int .i64 0] 83
  ci : ∀ i j, i < 4 → j < 4 → E.c i = E.c j → i = j
  mi : ∀ i j, i < 4 → j < 4 → E.m i = E.m j → i = j
  kn : Row W 3 kv (i64s (List.replicate kk 0))
  sch : Sch W E.sb tb 0 T
  len : T.length = ls.length
  tk : ∀ i p, i < k → ls[i]? = some p → ∃ n, T[i]? = some (nextV E p.l 0 n) ∧ (0 < p.l.length → Tk W E.wb p.A p.cp p.l 0 n ∧ (∀ q, Fx E tb q → ¬ (n ≤ q ∧ q < n + 5)) ∧ ∀ q, kv.ownBlock = some q → ¬ (n ≤ q ∧ q < n + 5))
  un : ∀ i, k ≤ i → i < ls.length → T[i]? = some (.nilFunc, .pointer none)
  fr : Fr (fun _ => False) w W
  nw : ∀ q, Fx E tb q → w.heap.size ≤ q
  wn : w.heap.size ≤ E.wb
  kw : ∀ q, kv.ownBlock = some q → w.heap.size ≤ q
section
variable {w W W' : World} {E : Env} {tb : Nat} {kv : Value} {ls : List PT} {T : List TV} {kk k : Nat}
theorem Mk2.lt (h : Mk2 w W E tb kv ls T kk k) : ∀ q, Fx E tb q → q < W.heap.size := by
  rintro q (⟨j, hj, rfl | rfl⟩ | rfl | rfl | rfl)
  · exact Blk.lt (h.cel j hj)
  · exact (h.mux j hj).lt
  · exact h.sch.blk.lt
  · exact h.sch.tsk.lt
  · exact h.obj.lt
theorem Mk2.fr' {S : Nat → Prop} (h : Mk2 w W E tb kv ls T kk k) (hf : Fr S W W') (hS : ∀ q, q < W.heap.size → ¬ S q) : Mk2 w W' E tb kv ls T kk k :=
  have hf : Fr (fun _ => False) W W' := hf.mono (fun q hq hs => hS q hq hs)
  ⟨hf.blk h.obj id, h.cs.fr hf (fun _ _ => id), h.ms.fr hf (fun _ _ => id), fun j hj => hf.blk (h.cel j hj) id, fun j hj => hf.blk (h.mux j hj) id, h.ci, h.mi, h.kn.fr hf (fun _ _ => id), h.sch.fr hf id id, h.len, fun i p hi hp => by
    obtain ⟨n, h1, h2⟩ := h.tk i p hi hp
    exact ⟨n, h1, fun hl => ⟨(h2 hl).1.fr hf (fun _ _ _ => id), (h2 hl).2⟩⟩, h.un, h.fr.trans hf (fun _ _ h => h), h.nw, h.wn, h.kw⟩
theorem Mk2.new (h : Mk2 w W E tb kv ls T kk k) (hf : Fr (fun _ => False) W W') : Mk2 w W' E tb kv ls T kk k := h.fr' hf (fun _ _ => id)
/-- One more known: zero. -/
structure Kn (W W' : World) (kv kv' : Value) (k : Nat) : Prop where
  row : Row W' 3 kv' (i64s (List.replicate (k + 1) 0))
  fr : Fr (fun q => kv.ownBlock = some q) W W'
  own : ∀ q, kv'.ownBlock = some q → kv.ownBlock = some q ∨ W.heap.size ≤ q
theorem Mk2.known (h : Mk2 w W E tb kv ls T k k) {kv' : Value} (hk : Kn W W' kv kv' k) : Mk2 w (W'.setCell ⟨E.wb, 2, none⟩ kv') E tb kv' ls T (k + 1) k := by
  have n1 : ∀ (q : Nat) (cs : List Value) (t : TypeId), Blk W q cs t → t ≠ 3 → ¬ (kv.ownBlock = some q) := fun q cs t hq ht => h.kn.ne hq (Ne.symm ht)
  have hf2 : Fr (fun q => q = E.wb) W' (W'.setCell ⟨E.wb, 2, none⟩ kv') := (Fr.refl _ W').set1 _ _
  have ho := hk.fr.blk h.obj (n1 _ _ _ h.obj (by decide))
  have hcs := h.cs.fr hk.fr (fun q hq hh => h.cs.ne_row h.kn (by decide) q hq hh)
  have hms := h.ms.fr hk.fr (fun q hq hh => h.ms.ne_row h.kn (by decide) q hq hh)
  have hcel : ∀ j, j < 4 → CelI W' (E.c j) 0 0 := fun j hj => hk.fr.blk (h.cel j hj) (n1 _ _ _ (h.cel j hj) (by decide))
  have hmux : ∀ j, j < 4 → Blk W' (E.m j) [.bool false, .int .i64 0] 83 := fun j hj => hk.fr.blk (h.mux j hj) (n1 _ _ _ (h.mux j hj) (by decide))
  have hsch := h.sch.fr hk.fr (n1 _ _ _ h.sch.blk (by decide)) (n1 _ _ _ h.sch.tsk (by decide))
  refine ⟨ho.set 2 kv', hcs.fr hf2 (fun q hq hh => ?_), hms.fr hf2 (fun q hq hh => ?_), fun j hj => hf2.blk (hcel j hj) (Blk.ne (hcel j hj) ho (by decide)), fun j hj => hf2.blk (hmux j hj) ((hmux j hj).ne ho (by decide)), h.ci, h.mi, hk.row.fr hf2 (fun q hq hh => ?_), hsch.fr hf2 (hsch.blk.ne ho (by decide)) (hsch.tsk.ne ho (by decide)), h.len, ?_, h.un, ?_, h.nw, h.wn, ?_⟩
  · subst hh; exact (hcs.ne ho (by decide)) hq
  · subst hh; exact (hms.ne ho (by decide)) hq
  · subst hh; exact (hk.row.ne ho (by decide)) hq
  · intro i p hi hp
    obtain ⟨n, h1, h2⟩ := h.tk i p hi hp
    refine ⟨n, h1, fun hl => ?_⟩
    obtain ⟨g1, g2, g3⟩ := h2 hl
    have hx : p.l[0]? = some p.l[0] := List.getElem?_eq_getElem hl
    have hsz := (g1.b2 _ hx).lt
    have hn2 := g1.fr hk.fr (fun q h1 h2 hh => g3 q hh ⟨h1, h2⟩)
    have hwbn : ¬ (n ≤ E.wb ∧ E.wb < n + 5) := g2 _ (.inr (.inr (.inr rfl)))
    refine ⟨hn2.fr hf2 (fun q h1 h2 hh => hwbn (by subst hh; exact ⟨h1, h2⟩)), g2, fun q hq => ?_⟩
    rcases hk.own q hq with hh | hh
    · exact g3 q hh
    · omega
  · exact (h.fr.trans hk.fr (fun q hq hh => by have := h.kw q hh; omega)).setCell _ _ (fun hh => by have := h.wn; simp at hh; omega)
  · intro q hq
    rcases hk.own q hq with hh | hh
    · exact h.kw q hh
    · have := h.fr.size; omega
theorem Mk2.put (h : Mk2 w W E tb kv ls T kk k) {p : PT} (hp : ls[k]? = some p) {n : Nat} (hf : Fr (fun q => q = tb) W W') (hsch : Sch W' E.sb tb 0 (T.set k (nextV E p.l 0 n))) (ht : 0 < p.l.length → Tk W E.wb p.A p.cp p.l 0 n ∧ (∀ q, Fx E tb q → ¬ (n ≤ q ∧ q < n + 5)) ∧ ∀ q, kv.ownBlock = some q → ¬ (n ≤ q ∧ q < n + 5)) : Mk2 w W' E tb kv ls (T.set k (nextV E p.l 0 n)) kk (k + 1) := by
  have hkl := (List.getElem?_eq_some_iff.1 hp).1
  have n1 : ∀ (q : Nat) (cs : List Value) (t : TypeId), Blk W q cs t → t ≠ 53 → q ≠ tb := fun q cs t hq ht => hq.ne h.sch.tsk ht
  refine ⟨hf.blk h.obj (n1 _ _ _ h.obj (by decide)), h.cs.fr hf (fun q hq hh => ?_), h.ms.fr hf (fun q hq hh => ?_), fun j hj => hf.blk (h.cel j hj) (n1 _ _ _ (h.cel j hj) (by decide)), fun j hj => hf.blk (h.mux j hj) (n1 _ _ _ (h.mux j hj) (by decide)), h.ci, h.mi, h.kn.fr hf (fun q hq hh => ?_), hsch, by rw [List.length_set]; exact h.len, ?_, ?_, ?_, h.nw, h.wn, h.kw⟩
  · subst hh; exact (h.cs.ne h.sch.tsk (by decide)) hq
  · subst hh; exact (h.ms.ne h.sch.tsk (by decide)) hq
  · subst hh; exact (h.kn.ne h.sch.tsk (by decide)) hq
  · intro i q hi hq
    by_cases e : i = k
    · subst e
      rw [hp] at hq
      injection hq with hq
      subst hq
      refine ⟨n, List.getElem?_set_self (by rw [h.len]; exact hkl), fun hl => ?_⟩
      obtain ⟨g1, g2, g3⟩ := ht hl
      exact ⟨g1.fr hf (fun q h1 h2 hh => g2 q (.inr (.inr (.inl hh))) ⟨h1, h2⟩), g2, g3⟩
    · obtain ⟨n2, h1, h2⟩ := h.tk i q (by omega) hq
      refine ⟨n2, by rw [List.getElem?_set_ne (Ne.symm e)]; exact h1, fun hl => ?_⟩
      obtain ⟨g1, g2, g3⟩ := h2 hl
      exact ⟨g1.fr hf (fun q h1 h2 hh => g2 q (.inr (.inr (.inl hh))) ⟨h1, h2⟩), g2, g3⟩
  · intro i hi hil
    rw [List.getElem?_set_ne (by omega)]
    exact h.un i (by omega) hil
  · exact h.fr.trans hf (fun q hq hh => by have := h.nw q (.inr (.inr (.inl hh))); omega)
end
end Go.Proofs.Ytlljfopacdnpbaa
