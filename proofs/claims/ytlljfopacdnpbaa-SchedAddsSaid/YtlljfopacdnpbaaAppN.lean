/- Append of a whole slice of structs. Conditions: those of the lemmas. -/
import Derived.Test.YtlljfopacdnpbaaRowK
namespace Go.Proofs.Ytlljfopacdnpbaa
open Go.RowKit
theorem RowK.rd {w : World} {e : TypeId} {k : Nat} {v : Value} {ys : List (List Value)} (h : RowK w e k v ys) : ∃ A c, v = .slice A ys.length c ∧ Rd w A ys.flatten ∧ ys.length ≤ c ∧ c ≤ maxLen ∧ (A = none → c = 0) := by
  rcases h.form with ⟨rfl, rfl⟩ | ⟨g, c, cur, rfl, hg, hle, hmx, hsz, htk⟩
  · exact ⟨none, 0, rfl, (fun j v hv => by simp at hv), Nat.le_refl _, Nat.zero_le _, fun _ => rfl⟩
  · refine ⟨_, c, rfl, (fun j v hv => ⟨_, rfl, ?_⟩), hle, hmx, fun e => by cases e⟩
    rw [add_plain]
    have := World.ownsRow.cells h.2 (g := g) rfl j v hv
    rwa [add_plain] at this
theorem Rd.append {w : World} {A : Option Addr} {a b : List Value} (h : Rd w A (a ++ b)) : Rd w A a := fun j v hj => h j v (by rw [List.getElem?_append_left (List.getElem?_eq_some_iff.1 hj).1]; exact hj)
theorem run_appNK {P : Program} (w : World) (t ty e : TypeId) (z : Value) (k bytes : Nat)
    (ht : P.underlying t = some (.slice e)) (hinfo : (P.info? e).map (fun i => (i.zero, i.size, i.bytes)) = some (some z, k, bytes)) (hz : z.cells.size = k) (hk0 : 0 < k) (hb0 : 0 < bytes)
    (v : Value) (xs : List (List Value)) (HO : RowK w e k v xs) (A : Option Addr) (ys : List (List Value)) (c : Nat) (hys : ∀ y ∈ ys, y.length = k) (hA : Rd w A ys.flatten) (h1 : ∀ u ∈ ys.flatten, u.oneCell' = true) (hl : (xs.length + ys.length) * bytes ≤ 140737488355328) :
    ∃ v1 w1, (Builtin.append_ #[t, t] ty #[v, .slice A ys.length c]).run P w = .ok v1 w1 ∧ RowK w1 e k v1 (xs ++ ys) ∧ Fr (fun q => v.ownBlock = some q) w w1 ∧ (v1.ownBlock = v.ownBlock ∨ v1.ownBlock = some w.heap.size) := by
  obtain ⟨i0, hi, hzz⟩ := Option.map_eq_some_iff.1 hinfo
  simp only [Prod.mk.injEq] at hzz
  obtain ⟨hz0, hz1, hz2⟩ := hzz
  have hlen : xs.length + ys.length ≤ 140737488355328 := Nat.le_trans (Nat.le_mul_of_pos_right _ hb0) hl
  rcases A with _ | ad
  · have hy : ys = [] := by
      rcases ys with _ | ⟨y, ys⟩
      · rfl
      · rcases y with _ | ⟨u, y⟩
        · have := hys [] (by simp); simp at this; omega
        · obtain ⟨_, e, _⟩ := hA 0 u rfl
          cases e
    subst hy
    refine ⟨v, w, ?_, by simpa using HO, Fr.refl _ _, .inl rfl⟩
    rcases HO.form with ⟨rfl, _⟩ | ⟨g, cap, cur, rfl, _, hnc, _⟩
    · simp [Builtin.append_, run_underlying ht, sizeOf, typeInfo, hi, Builtin.lenOf, Builtin.firstCells]
    · simp [Builtin.append_, run_underlying ht, sizeOf, typeInfo, hi, Builtin.lenOf, Builtin.firstCells, hnc, storeCells]
  · obtain ⟨v1, w1, hr, hown, hg, _, hat⟩ := run_append_own_at (P := P) w 0 t ty e i0 z k bytes ht hi hz0 hz1 hz2 hz (by omega) v xs.length xs.flatten HO.2 ad ys.length c ys.flatten (by rw [flat_len ys hys])
      (fun j u hu => by obtain ⟨ad', e', hc⟩ := hA j u hu; cases e'; exact hc) h1 (by simp only [maxLen]; omega) hl (Nat.zero_le _)
    refine ⟨v1, w1, hr, ⟨fun y hy => ?_, ?_⟩, Fr.grown hg, hat⟩
    · rcases List.mem_append.1 hy with hy | hy
      · exact HO.1 y hy
      · exact hys y hy
    · rw [List.length_append, List.flatten_append]
      exact hown
section
variable {P : Program} {ops : Array Oper} {rest : List Oper} {o : Oper} {a : Act} {Q : Exit → Act → World → Prop}
theorem appNK {W : World} (hgd : o.guard = none) (s x : Operand) (t e : TypeId) (z : Value) (k bytes : Nat)
    (ho : o.op = .call { callee := .builtin .append, args := #[s, x], argTypes := #[t, t] })
    (ht : P.underlying t = some (.slice e)) (hinfo : (P.info? e).map (fun i => (i.zero, i.size, i.bytes)) = some (some z, k, bytes)) (hz : z.cells.size = k) (hk0 : 0 < k) (hb0 : 0 < bytes)
    (v : Value) (xs : List (List Value)) (hs : a.eval s = v) (A : Option Addr) (ys : List (List Value)) (n c : Nat) (hn : n = ys.length) (hx : a.eval x = .slice A n c)
    (HO : RowK W e k v xs) (hys : ∀ y ∈ ys, y.length = k) (hA : Rd W A ys.flatten) (h1 : ∀ u ∈ ys.flatten, u.oneCell' = true) (hl : (xs.length + ys.length) * bytes ≤ 140737488355328)
    (h : ∀ v1 w1, RowK w1 e k v1 (xs ++ ys) → (v1.ownBlock = v.ownBlock ∨ v1.ownBlock = some W.heap.size) → Fr (fun q => v.ownBlock = some q) W w1 → wpList P ops Q rest (a.put o.dst v1) w1) :
    wpList P ops Q (o :: rest) a W := by
  subst hn
  refine wpList_plain hgd fun K hK => ?_
  obtain ⟨v1, w1, hr, hrow, hf, hat⟩ := run_appNK W t o.type e z k bytes ht hinfo hz hk0 hb0 v xs HO A ys c hys hA h1 hl
  unfold Oper.wp execOp
  simp only [ho, resolve, invoke, builtin, Sem.run_bind, Sem.run_pure, Result.andThen_ok, List.map_toArray, List.map_cons, List.map_nil, hs, hx, hr]
  exact hK _ _ (h v1 w1 hrow hat hf)
end
end Go.Proofs.Ytlljfopacdnpbaa
