/- Windows: slice values that lie in the midst of a block of their own, are cut at their head and appended to. Conditions: those of the lemmas. -/
import Derived.Test.YtolkoagjompjjaaRowK
import Derived.Deep.AppendSrc
import Derived.Laws.IdiomCopy
namespace Go.Proofs.Ytolkoagjompjjaa
open Go.RowKit
def Win (W : World) (e : TypeId) (v : Value) (xs : List Value) : Prop :=
  (v = .slice none 0 0 ∧ xs = []) ∨ ∃ g off c cs, v = .slice (some ⟨g, off, none⟩) xs.length c ∧ Blk W g cs e ∧ xs.length ≤ c ∧ c ≤ maxLen ∧ off + c ≤ cs.length ∧ ∀ j x, xs[j]? = some x → cs[off + j]? = some x
theorem Win.nil (W : World) (e : TypeId) : Win W e (.slice none 0 0) [] := .inl ⟨rfl, rfl⟩
theorem Win.ofRow {W : World} {e : TypeId} {v : Value} {xs : List Value} (h : Row W e v xs) : Win W e v xs := by
  rcases h.form with ⟨rfl, rfl⟩ | ⟨g, c, cur, rfl, hg, hle, hmx, hsz, htk⟩
  · exact Win.nil _ _
  · refine .inr ⟨g, 0, c, cur.toList, rfl, by unfold Blk; simpa using hg, hle, hmx, by simp [hsz], fun j x hx => ?_⟩
    rw [Nat.zero_add]
    rw [← htk] at hx
    rw [List.getElem?_take] at hx
    split at hx
    · exact hx
    · cases hx
theorem Win.slice {W : World} {e : TypeId} {v : Value} {xs : List Value} (h : Win W e v xs) : ∃ A c, v = .slice A xs.length c ∧ xs.length ≤ c ∧ c ≤ maxLen := by
  rcases h with ⟨rfl, rfl⟩ | ⟨g, off, c, cs, rfl, _, h1, h2, _⟩
  · exact ⟨none, 0, rfl, Nat.le_refl _, Nat.zero_le _⟩
  · exact ⟨_, c, rfl, h1, h2⟩
theorem Win.kind {W : World} {e : TypeId} {v : Value} {xs : List Value} (h : Win W e v xs) {q : Nat} (hq : v.ownBlock = some q) : ∃ cs, Blk W q cs e := by
  rcases h with ⟨rfl, _⟩ | ⟨g, off, c, cs, rfl, hb, _⟩
  · simp [Value.ownBlock] at hq
  · have : g = q := by simpa [Value.ownBlock] using hq
    subst this
    exact ⟨cs, hb⟩
theorem Win.lt {W : World} {e : TypeId} {v : Value} {xs : List Value} (h : Win W e v xs) {q : Nat} (hq : v.ownBlock = some q) : q < W.heap.size := by
  obtain ⟨cs, hb⟩ := h.kind hq
  exact hb.lt
theorem Win.fr {S : Nat → Prop} {W W' : World} {e : TypeId} {v : Value} {xs : List Value} (h : Win W e v xs) (hf : Fr S W W') (hS : ∀ k, v.ownBlock = some k → ¬ S k) : Win W' e v xs := by
  rcases h with h | ⟨g, off, c, cs, rfl, hb, rest⟩
  · exact .inl h
  · exact .inr ⟨g, off, c, cs, rfl, hf.blk hb (hS g rfl), rest⟩
theorem Win.rd {W : World} {e : TypeId} {A : Option Addr} {n c : Nat} {xs : List Value} (h : Win W e (.slice A n c) xs) : Rd W A xs := by
  rcases h with ⟨h1, rfl⟩ | ⟨g, off, c', cs, h1, hb, _, _, _, hx⟩
  · intro j v hj; simp at hj
  · injection h1 with e1
    subst e1
    intro j v hj
    refine ⟨_, rfl, ?_⟩
    have ha : (⟨g, off, none⟩ : Addr).add j = ⟨g, off + j, none⟩ := by unfold Addr.add; split <;> simp_all
    rw [ha]
    exact hb.cell (off + j) (hx j v hj)
theorem Win.form {W : World} {e : TypeId} {v : Value} {xs : List Value} (h : Win W e v xs) (hn : 0 < xs.length) : ∃ g off c, v = .slice (some ⟨g, off, none⟩) xs.length c ∧ xs.length ≤ c ∧ ∀ j x, xs[j]? = some x → W.cell? ⟨g, off + j, none⟩ = some x := by
  rcases h with ⟨_, rfl⟩ | ⟨g, off, c, cs, rfl, hb, h1, _, _, hx⟩
  · simp at hn
  · exact ⟨g, off, c, rfl, h1, fun j x hj => hb.cell _ (hx j x hj)⟩
/-- A window cut at its head. -/
theorem Win.drop {W : World} {e : TypeId} {g off n c k : Nat} {xs : List Value} (h : Win W e (.slice (some ⟨g, off, none⟩) n c) xs) (hk : k ≤ n) : Win W e (.slice (some ⟨g, off + k, none⟩) (n - k) (c - k)) (xs.drop k) := by
  rcases h with ⟨h1, _⟩ | ⟨g', off', c', cs, h1, hb, h2, h3, h4, hx⟩
  · cases h1
  · injection h1 with e1 e2 e3
    injection e1 with e1
    injection e1 with e1 e4
    subst e1 e2 e3 e4
    refine .inr ⟨g, off + k, c - k, cs, by rw [List.length_drop], hb, by rw [List.length_drop]; omega, by omega, by omega, fun j x hj => ?_⟩
    rw [List.getElem?_drop] at hj
    rw [Nat.add_assoc]
    exact hx _ _ hj
theorem Win.dropEnd {W : World} {e : TypeId} {g off n c : Nat} {xs : List Value} (h : Win W e (.slice (some ⟨g, off, none⟩) n c) xs) (k : Nat) (hk : k ≤ n) (hc : c = k) : Win W e (.slice (some ⟨g, off, none⟩) (n - k) 0) (xs.drop k) := by
  rcases h with ⟨h1, _⟩ | ⟨g', off', c', cs, h1, hb, h2, h3, h4, hx⟩
  · cases h1
  · injection h1 with e1 e2 e3
    injection e1 with e1
    injection e1 with e1 e4
    subst e1 e2 e3 e4
    have hnil : xs.drop k = [] := List.drop_of_length_le (by omega)
    rw [hnil, show xs.length - k = 0 by omega]
    exact .inr ⟨g, off, 0, cs, rfl, hb, Nat.le_refl _, Nat.zero_le _, by omega, fun j x hj => by simp at hj⟩
/-! ### Cells laid one behind the other -/
def spl : List Value → Nat → List Value → List Value
  | cs, _, [] => cs
  | cs, o, v :: vs => spl (cs.set o v) (o + 1) vs
theorem spl_len : ∀ (vs cs : List Value) (o : Nat), (spl cs o vs).length = cs.length
  | [], cs, o => rfl
  | v :: vs, cs, o => by rw [spl, spl_len vs, List.length_set]
theorem spl_low : ∀ (vs cs : List Value) (o i : Nat), i < o → (spl cs o vs)[i]? = cs[i]?
  | [], cs, o, i, _ => rfl
  | v :: vs, cs, o, i, h => by rw [spl, spl_low vs _ _ _ (by omega), List.getElem?_set_ne (by omega)]
theorem spl_in : ∀ (vs cs : List Value) (o j : Nat) (x : Value), o + vs.length ≤ cs.length → vs[j]? = some x → (spl cs o vs)[o + j]? = some x
  | v :: vs, cs, o, 0, x, h, hj => by
    simp at hj
    subst hj
    simp only [List.length_cons] at h
    rw [spl, spl_low vs _ _ _ (by omega), Nat.add_zero, List.getElem?_set_self (by omega)]
  | v :: vs, cs, o, j + 1, x, h, hj => by
    simp only [List.length_cons] at h
    rw [spl, show o + (j + 1) = (o + 1) + j by omega]
    exact spl_in vs _ _ _ _ (by rw [List.length_set]; omega) (by simpa using hj)
theorem Blk.setCells {e : TypeId} {g : Nat} : ∀ (vs : List Value) {W : World} {cs : List Value} (o : Nat), Blk W g cs e → Blk (W.setCells g o vs) g (spl cs o vs) e
  | [], _, _, _, h => h
  | v :: vs, _, _, o, h => Blk.setCells vs (o + 1) (h.set o v)
theorem Fr.setCells {g : Nat} : ∀ (vs : List Value) {a W : World} (o : Nat), Fr (fun k => k = g) a W → Fr (fun k => k = g) a (W.setCells g o vs)
  | [], _, _, _, h => h
  | v :: vs, _, _, o, h => Fr.setCells vs (o + 1) (h.set1 o v)
theorem run_appW {P : Program} (w : World) (t ty e : TypeId) (z : Value) (bytes : Nat)
    (ht : P.underlying t = some (.slice e)) (hinfo : (P.info? e).map (fun i => (i.zero, i.size, i.bytes)) = some (some z, 1, bytes)) (hz : z.cells.size = 1) (hb0 : 0 < bytes)
    (v : Value) (xs : List Value) (HO : Win w e v xs) (A : Option Addr) (ys : List Value) (c : Nat) (hA : Rd w A ys) (h1 : ∀ u ∈ ys, u.oneCell' = true) (hl : (xs.length + ys.length) * bytes ≤ 140737488355328) :
    ∃ v1 w1, (Builtin.append_ #[t, t] ty #[v, .slice A ys.length c]).run P w = .ok v1 w1 ∧ Win w1 e v1 (xs ++ ys) ∧ Fr (fun k => v.ownBlock = some k) w w1 ∧ (v1.ownBlock = v.ownBlock ∨ v1.ownBlock = some w.heap.size) := by
  rcases HO with ⟨rfl, rfl⟩ | ⟨g, off, cap, cs, rfl, hb, hle, hmx, hof, hx⟩
  · obtain ⟨v1, w1, hr, hrow, hf, hat⟩ := run_appN w t ty e z bytes ht hinfo hz hb0 (.slice none 0 0) [] (Row.nil _ _) A ys c hA h1 hl
    exact ⟨v1, w1, hr, Win.ofRow hrow, hf, hat⟩
  · obtain ⟨i0, hi, hzz⟩ := Option.map_eq_some_iff.1 hinfo
    simp only [Prod.mk.injEq] at hzz
    obtain ⟨hz0, hz1, hz2⟩ := hzz
    have hlen : xs.length + ys.length ≤ 140737488355328 := Nat.le_trans (Nat.le_mul_of_pos_right _ hb0) hl
    have hsrc : Src P i0.size t (.slice A ys.length c) ys.length ys w := by
      rw [hz1]
      rcases A with _ | ad
      · have hy : ys = [] := by
          rcases ys with _ | ⟨y, ys⟩
          · rfl
          · obtain ⟨_, e', _⟩ := hA 0 y rfl
            cases e'
        subst hy
        exact Src.ofNil w ht c
      · exact Src.ofSlice w ht ad ys.length c ys (by simp) (fun j u hu => by obtain ⟨ad', e', hc⟩ := hA j u hu; cases e'; exact hc) h1
    by_cases hroom : xs.length + ys.length ≤ cap
    · have hr := run_append_room_src (P := P) w t t ty e i0 ht hi g off xs.length cap (.slice A ys.length c) ys.length ys hsrc hroom
        (fun j hj => by
          rw [hz1, Nat.mul_one]
          have hjl : off + xs.length + j < cs.length := by omega
          rw [hb.cell (off + xs.length + j) (List.getElem?_eq_getElem hjl)]
          rfl) (fun j hj => hb.free _)
      rw [hz1, Nat.mul_one] at hr
      refine ⟨_, _, hr, .inr ⟨g, off, cap, _, by rw [List.length_append], hb.setCells ys _, by rw [List.length_append]; exact hroom, hmx, by rw [spl_len]; exact hof, fun j x hj => ?_⟩, ?_, .inl rfl⟩
      · by_cases hjx : j < xs.length
        · rw [List.getElem?_append_left hjx] at hj
          rw [spl_low _ _ _ _ (by omega)]
          exact hx j x hj
        · rw [List.getElem?_append_right (by omega)] at hj
          have := spl_in ys cs (off + xs.length) (j - xs.length) x (by omega) hj
          rwa [show off + xs.length + (j - xs.length) = off + j by omega] at this
      · have := Fr.setCells (g := g) ys (off + xs.length) (Fr.refl (fun k => k = g) w)
        exact this.mono (fun i _ h => by subst h; rfl)
    · have hold : (Builtin.firstCells i0.size xs.length (.slice (some ⟨g, off, none⟩) xs.length cap)).run P w.drew = .ok xs.toArray w.drew := by
        rw [hz1]
        refine run_firstCells_some w.drew 1 xs.length ⟨g, off, none⟩ xs.length cap xs (by simp) (fun j u hu => ?_)
        have ha : (⟨g, off, none⟩ : Addr).add j = ⟨g, off + j, none⟩ := by unfold Addr.add; split <;> simp_all
        rw [ha]
        exact hb.drew.cell _ (hx j u hu)
      have hr := run_append_grow_src (P := P) w t t ty e i0 z ht hi hz0 (some ⟨g, off, none⟩) xs.length cap xs hold (.slice A ys.length c) ys.length ys hsrc (by omega) (by omega) (growslice_fits (by omega) (by rw [hz2]; exact hl))
      have hge := grownCap_ge w (xs.length + ys.length) cap e
      have hcm : grownCap w (xs.length + ys.length) cap e ≤ maxLen := grownCap_le_maxLen w _ cap e (by simp only [maxLen]; omega)
      refine ⟨_, _, hr, .inr ⟨w.heap.size, 0, _, (xs ++ ys) ++ (Builtin.zeroCells z.cells (grownCap w (xs.length + ys.length) cap e - (xs.length + ys.length))).toList, by rw [List.length_append], Blk.at_new w.drew _ _ _ _ rfl (by apply Array.ext'; simp), by rw [List.length_append]; exact hge, hcm, ?_, fun j x hj => ?_⟩, ((Fr.refl _ w).drew).alloc _, .inr rfl⟩
      · have ez : ∀ k, (Builtin.zeroCells z.cells k).toList.length = k := fun k => by simp [size_zeroCells, hz]
        rw [List.length_append, List.length_append, ez]
        omega
      · rw [Nat.zero_add, List.getElem?_append_left (List.getElem?_eq_some_iff.1 hj).1]
        exact hj
section
variable {P : Program} {ops : Array Oper} {rest : List Oper} {o : Oper} {a : Act} {Q : Exit → Act → World → Prop}
theorem appW {W : World} (hgd : o.guard = none) (s x : Operand) (t e : TypeId) (z : Value) (bytes : Nat)
    (ho : o.op = .call { callee := .builtin .append, args := #[s, x], argTypes := #[t, t] })
    (ht : P.underlying t = some (.slice e)) (hinfo : (P.info? e).map (fun i => (i.zero, i.size, i.bytes)) = some (some z, 1, bytes)) (hz : z.cells.size = 1) (hb0 : 0 < bytes)
    (v : Value) (xs : List Value) (hs : a.eval s = v) (A : Option Addr) (ys : List Value) (n c : Nat) (hn : n = ys.length) (hx : a.eval x = .slice A n c)
    (HO : Win W e v xs) (hA : Rd W A ys) (h1 : ∀ u ∈ ys, u.oneCell' = true) (hl : (xs.length + ys.length) * bytes ≤ 140737488355328)
    (h : ∀ v1 w1, Win w1 e v1 (xs ++ ys) → (v1.ownBlock = v.ownBlock ∨ v1.ownBlock = some W.heap.size) → Fr (fun k => v.ownBlock = some k) W w1 → wpList P ops Q rest (a.put o.dst v1) w1) :
    wpList P ops Q (o :: rest) a W := by
  subst hn
  refine wpList_plain hgd fun K hK => ?_
  obtain ⟨v1, w1, hr, hrow, hf, hat⟩ := run_appW W t o.type e z bytes ht hinfo hz hb0 v xs HO A ys c hA h1 hl
  unfold Oper.wp execOp
  simp only [ho, resolve, invoke, builtin, Sem.run_bind, Sem.run_pure, Result.andThen_ok, List.map_toArray, List.map_cons, List.map_nil, hs, hx, hr]
  exact hK _ _ (h v1 w1 hrow hat hf)
end
end Go.Proofs.Ytolkoagjompjjaa
