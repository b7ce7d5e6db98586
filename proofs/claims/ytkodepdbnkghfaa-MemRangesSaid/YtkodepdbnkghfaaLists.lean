/- Lists of pairs in memory; append of a whole slice of structs. Conditions: those of the lemmas. -/
import Derived.Test.YtkodepdbnkghfaaPure
import Derived.Test.YtkodepdbnkghfaaRowK
namespace Go.Proofs.Ytkodepdbnkghfaa
open Go.RowKit
theorem RowK.rd {w : World} {e : TypeId} {k : Nat} {v : Value} {ys : List (List Value)} (h : RowK w e k v ys) : ∃ A c, v = .slice A ys.length c ∧ Rd w A ys.flatten ∧ ys.length ≤ c ∧ c ≤ maxLen ∧ (A = none → c = 0) := by
  rcases h.form with ⟨rfl, rfl⟩ | ⟨g, c, cur, rfl, hg, hle, hmx, hsz, htk⟩
  · exact ⟨none, 0, rfl, (fun j v hv => by simp at hv), Nat.le_refl _, Nat.zero_le _, fun _ => rfl⟩
  · refine ⟨_, c, rfl, (fun j v hv => ⟨_, rfl, ?_⟩), hle, hmx, fun e => by cases e⟩
    rw [add_plain]
    have := World.ownsRow.cells h.2 (g := g) rfl j v hv
    rwa [add_plain] at this
theorem add_one (a : Addr) : a.add 1 = ⟨a.block, a.off + 1, none⟩ := by unfold Addr.add; rw [if_neg (by omega)]
theorem Rd.append {w : World} {A : Option Addr} {a b : List Value} (h : Rd w A (a ++ b)) : Rd w A a := fun j v hj => h j v (by rw [List.getElem?_append_left (List.getElem?_eq_some_iff.1 hj).1]; exact hj)
theorem run_appNK {P : Program} (w : World) (t ty e : TypeId) (z : Value) (k bytes : Nat)
    (ht : P.underlying t = some (.slice e)) (hinfo : (P.info? e).map (fun i => (i.zero, i.size, i.bytes)) = some (some z, k, bytes)) (hz : z.cells.size = k) (hk0 : 0 < k) (hb0 : 0 < bytes)
    (v : Value) (xs : List (List Value)) (HO : RowK w e k v xs) (A : Option Addr) (ys : List (List Value)) (c : Nat) (hys : ∀ y ∈ ys, y.length = k) (hA : Rd w A ys.flatten) (h1 : ∀ u ∈ ys.flatten, u.oneCell' = true) (hl : (xs.length + ys.length) * bytes ≤ 140737488355328) :
    ∃ v1 w1, (Builtin.append_ #[t, t] ty #[v, .slice A ys.length c]).run P w = .ok v1 w1 ∧ RowK w1 e k v1 (xs ++ ys) ∧ Fr (fun q => v.ownBlock = some q) w w1 ∧ (v1.ownBlock = v.ownBlock ∨ v1.ownBlock = some w.heap.size) := by
  obtain ⟨i0, hi, hzz⟩ := Option.map_eq_some_iff.1 hinfo
  simp only [Prod.mk.injEq] at hzz
  obtain ⟨hz0, hz1, hz2⟩ := hzz
  have hlen : xs.length + ys.length ≤ 140737488355328 := Nat.le_trans (Nat.le_mul_of_pos_right _ hb0) hl
  rcases A with _ | ad
  · have hy : ys = [] := by
      rcases ys with _ | ⟨y, ys⟩
      · rfl
      · rcases y with _ | ⟨u, y⟩
        · have := hys [] (by simp); simp at this; omega
        · obtain ⟨_, e, _⟩ := hA 0 u rfl
          cases e
    subst hy
    refine ⟨v, w, ?_, by simpa using HO, Fr.refl _ _, .inl rfl⟩
    rcases HO.form with ⟨rfl, _⟩ | ⟨g, cap, cur, rfl, _, hnc, _⟩
    · simp [Builtin.append_, run_underlying ht, sizeOf, typeInfo, hi, Builtin.lenOf, Builtin.firstCells]
    · simp [Builtin.append_, run_underlying ht, sizeOf, typeInfo, hi, Builtin.lenOf, Builtin.firstCells, hnc, storeCells]
  · obtain ⟨v1, w1, hr, hown, hg, _, hat⟩ := run_append_own_at (P := P) w 0 t ty e i0 z k bytes ht hi hz0 hz1 hz2 hz (by omega) v xs.length xs.flatten HO.2 ad ys.length c ys.flatten (by rw [flat_len ys hys])
      (fun j u hu => by obtain ⟨ad', e', hc⟩ := hA j u hu; cases e'; exact hc) h1 (by simp only [maxLen]; omega) hl (Nat.zero_le _)
    refine ⟨v1, w1, hr, ⟨fun y hy => ?_, ?_⟩, Fr.grown hg, hat⟩
    · rcases List.mem_append.1 hy with hy | hy
      · exact HO.1 y hy
      · exact hys y hy
    · rw [List.length_append, List.flatten_append]
      exact hown
section
variable {P : Program} {ops : Array Oper} {rest : List Oper} {o : Oper} {a : Act} {Q : Exit → Act → World → Prop}
theorem appNK {W : World} (hgd : o.guard = none) (s x : Operand) (t e : TypeId) (z : Value) (k bytes : Nat)
    (ho : o.op = .call { callee := .builtin .append, args := #[s, x], argTypes := #[t, t] })
    (ht : P.underlying t = some (.slice e)) (hinfo : (P.info? e).map (fun i => (i.zero, i.size, i.bytes)) = some (some z, k, bytes)) (hz : z.cells.size = k) (hk0 : 0 < k) (hb0 : 0 < bytes)
    (v : Value) (xs : List (List Value)) (hs : a.eval s = v) (A : Option Addr) (ys : List (List Value)) (n c : Nat) (hn : n = ys.length) (hx : a.eval x = .slice A n c)
    (HO : RowK W e k v xs) (hys : ∀ y ∈ ys, y.length = k) (hA : Rd W A ys.flatten) (h1 : ∀ u ∈ ys.flatten, u.oneCell' = true) (hl : (xs.length + ys.length) * bytes ≤ 140737488355328)
    (h : ∀ v1 w1, RowK w1 e k v1 (xs ++ ys) → (v1.ownBlock = v.ownBlock ∨ v1.ownBlock = some W.heap.size) → Fr (fun q => v.ownBlock = some q) W w1 → wpList P ops Q rest (a.put o.dst v1) w1) :
    wpList P ops Q (o :: rest) a W := by
  subst hn
  refine wpList_plain hgd fun K hK => ?_
  obtain ⟨v1, w1, hr, hrow, hf, hat⟩ := run_appNK W t o.type e z k bytes ht hinfo hz hk0 hb0 v xs HO A ys c hys hA h1 hl
  unfold Oper.wp execOp
  simp only [ho, resolve, invoke, builtin, Sem.run_bind, Sem.run_pure, Result.andThen_ok, List.map_toArray, List.map_cons, List.map_nil, hs, hx, hr]
  exact hK _ _ (h v1 w1 hrow hat hf)
end
/-! ### Pairs -/
def pr (p : ByteArray × Int) : List Value := [.string p.1, .int .i64 p.2]
def prs (l : List (ByteArray × Int)) : List (List Value) := l.map pr
theorem prs_len (l : List (ByteArray × Int)) : (prs l).length = l.length := by simp [prs]
theorem prs_two (l : List (ByteArray × Int)) : ∀ y ∈ prs l, y.length = 2 := fun y hy => by obtain ⟨p, _, rfl⟩ := List.mem_map.1 hy; rfl
theorem prs_one (l : List (ByteArray × Int)) : ∀ u ∈ (prs l).flatten, u.oneCell' = true := fun u hu => by
  obtain ⟨y, hy, hu⟩ := List.mem_flatten.1 hu
  obtain ⟨p, _, rfl⟩ := List.mem_map.1 hy
  rcases List.mem_cons.1 hu with rfl | hu
  · rfl
  · rw [List.mem_singleton] at hu; subst hu; rfl
theorem prs_snoc (l : List (ByteArray × Int)) (p : ByteArray × Int) : prs (l ++ [p]) = prs l ++ [pr p] := by simp [prs]
theorem infoPr : (Try.prog.info? 59).map (fun i => (i.zero, i.size, i.bytes)) = some (some (.agg #[.string ⟨#[]⟩, .int .i64 0]), 2, 24) := by kernel_rfl
/-- The slice at A with this capacity reads as l. -/
structure Lst (W : World) (A : Option Addr) (c : Nat) (l : List (ByteArray × Int)) : Prop where
  le : l.length ≤ c
  mx : c ≤ 9223372036854775807
  nn : A = none → c = 0
  ty : ∀ ad, A = some ad → ∃ cur, W.heap[ad.block]? = some (.cells cur 59 (0, 0))
  rd : Rd W A (prs l).flatten
theorem Lst.fr {S : Nat → Prop} {W W' : World} {A : Option Addr} {c : Nat} {l : List (ByteArray × Int)} (h : Lst W A c l) (hf : Fr S W W') (hS : ∀ ad, A = some ad → ¬ S ad.block) : Lst W' A c l :=
  ⟨h.le, h.mx, h.nn, fun ad e => by
    obtain ⟨cur, hc⟩ := h.ty ad e
    exact ⟨cur, (hf.block _ (Array.getElem?_eq_some_iff.1 hc).1 (hS ad e)).trans hc⟩, h.rd.fr hf hS⟩
theorem Lst.frT {S : Nat → Prop} {W W' : World} {A : Option Addr} {c : Nat} {l : List (ByteArray × Int)} (h : Lst W A c l) (hf : Fr S W W') (hS : ∀ b cur, W.heap[b]? = some (.cells cur 59 (0, 0)) → ¬ S b) : Lst W' A c l :=
  h.fr hf (fun ad e => by obtain ⟨cur, hc⟩ := h.ty ad e; exact hS _ _ hc)
theorem Lst.new {W W' : World} {A : Option Addr} {c : Nat} {l : List (ByteArray × Int)} (h : Lst W A c l) (hf : Fr (fun _ => False) W W') : Lst W' A c l := h.fr hf (fun _ _ => id)
theorem Lst.cells {W : World} {A : Option Addr} {c : Nat} {l : List (ByteArray × Int)} (h : Lst W A c l) {i : Nat} {p : ByteArray × Int} (hi : l[i]? = some p) : ∃ ad, A = some ad ∧ W.cell? (ad.add (i * 2)) = some (.string p.1) ∧ W.cell? ⟨(ad.add (i * 2)).block, (ad.add (i * 2)).off + 1, none⟩ = some (.int .i64 p.2) := by
  have hy : (prs l)[i]? = some (pr p) := by simp [prs, hi]
  obtain ⟨ad, e, h0⟩ := h.rd (i * 2 + 0) (.string p.1) (by rw [flat_at (prs l) (prs_two l) i 0 _ hy (by decide)]; rfl)
  obtain ⟨ad', e', h1⟩ := h.rd (i * 2 + 1) (.int .i64 p.2) (by rw [flat_at (prs l) (prs_two l) i 1 _ hy (by decide)]; rfl)
  rw [e] at e'
  injection e' with e'
  subst e'
  exact ⟨ad, e, h0, by rw [← add_one, add_add]; exact h1⟩
theorem Lst.nil (W : World) : Lst W none 0 [] := ⟨Nat.le_refl _, by omega, fun _ => rfl, (fun ad e => by cases e), fun j v hv => by simp [prs] at hv⟩
theorem RowK.at_own {w : World} {e : TypeId} {k : Nat} {A : Option Addr} {n c : Nat} {ys : List (List Value)} (h : RowK w e k (.slice A n c) ys) {ad : Addr} (ha : A = some ad) : (Value.slice A n c).ownBlock = some ad.block := by
  rcases h.form with ⟨h', _⟩ | ⟨g, c', cur, h', _⟩
  · injection h' with h1
    rw [h1] at ha
    cases ha
  · injection h' with h1
    subst h1
    injection ha with ha
    subst ha
    rfl
theorem Lst.ofRow {W : World} {v : Value} {l : List (ByteArray × Int)} (h : RowK W 59 2 v (prs l)) : ∃ A c, v = .slice A l.length c ∧ Lst W A c l ∧ ∀ ad, A = some ad → v.ownBlock = some ad.block := by
  obtain ⟨A, c, hv, hr, h1, h2, h3⟩ := h.rd
  subst hv
  have h4 := fun ad => h.at_own (ad := ad)
  have h5 : ∀ ad, A = some ad → ∃ cur, W.heap[ad.block]? = some (.cells cur 59 (0, 0)) := fun ad e => h.kind (h4 ad e)
  rw [prs_len] at h1 h4 ⊢
  exact ⟨A, c, rfl, ⟨h1, h2, h3, h5, hr⟩, h4⟩
theorem Lst.fr2 {S : Nat → Prop} {W W' : World} {A : Option Addr} {c : Nat} {l : List (ByteArray × Int)} (h : Lst W A c l) (hf : Fr S W W') (hS : ∀ ad, A = some ad → ad.block < W.heap.size → ¬ S ad.block) : Lst W' A c l := by
  exact h.fr hf (fun ad e => hS ad e (by obtain ⟨cur, hc⟩ := h.ty ad e; exact (Array.getElem?_eq_some_iff.1 hc).1))
theorem Lst.drop {W : World} {ad : Addr} {c : Nat} {l : List (ByteArray × Int)} (h : Lst W (some ad) c l) (j : Nat) : Rd W (some (ad.add (j * 2))) (prs (l.drop j)).flatten := by
  intro i v hv
  refine ⟨_, rfl, ?_⟩
  rw [add_add]
  by_cases hj : j ≤ l.length
  · have e : (prs l).flatten = (prs (l.take j)).flatten ++ (prs (l.drop j)).flatten := by
      rw [← List.flatten_append]
      congr 1
      unfold prs
      rw [← List.map_append, List.take_append_drop]
    have hlen : (prs (l.take j)).flatten.length = j * 2 := by rw [flat_len _ (prs_two _), prs_len, List.length_take]; omega
    obtain ⟨ad', e', hc⟩ := h.rd (j * 2 + i) v (by rw [e, List.getElem?_append_right (by omega), hlen, show j * 2 + i - j * 2 = i by omega]; exact hv)
    cases e'
    exact hc
  · rw [List.drop_of_length_le (by omega)] at hv
    simp [prs] at hv
/-! ### The document's list, at the place where Put stops -/
theorem lput_at {V : Type} (k : ByteArray) (v : V) : ∀ (l : List (ByteArray × V)) (j : Nat), (∀ p ∈ l.take j, sLt p.1 k = true) → (∀ p, l[j]? = some p → sLt p.1 k = false) → j ≤ l.length →
    lput l k v = l.take j ++ (k, v) :: (if (l[j]?.map Prod.fst) = some k then l.drop (j + 1) else l.drop j)
  | [], j, _, _, h => by
    have : j = 0 := by simpa using h
    subst this
    simp [lput]
  | p :: l, 0, _, h, _ => by
    have h0 := h p rfl
    simp only [lput, List.take_zero, List.nil_append, List.getElem?_cons_zero, Option.map_some, Option.some.injEq, List.drop_zero, Nat.zero_add, List.drop_succ_cons]
    by_cases c : p.1 = k
    · subst c
      simp [h0]
    · have c2 := sLt_total c h0
      rw [if_pos c2, if_neg c]
  | p :: l, j + 1, h, h2, hj => by
    have h0 : sLt p.1 k = true := h p (by simp)
    simp only [lput]
    rw [sLt_asymm h0, if_neg (by simp), if_pos h0, lput_at k v l j (fun q hq => h q (by simp [hq])) (fun q hq => h2 q (by simpa using hq)) (by simpa using hj)]
    simp
end Go.Proofs.Ytkodepdbnkghfaa
