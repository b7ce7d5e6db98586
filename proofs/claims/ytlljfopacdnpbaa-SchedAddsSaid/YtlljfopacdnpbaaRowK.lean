/- Rows whose elements have k cells each (structs): a slice value that owns a block, its elements as lists of cells. Conditions: those of the lemmas. -/
import Derived.Test.YtlljfopacdnpbaaBase
namespace Go.Proofs.Ytlljfopacdnpbaa
open Go.RowKit
theorem flat_at {α : Type} {k : Nat} : ∀ (ys : List (List α)), (∀ y ∈ ys, y.length = k) → ∀ (i j : Nat) (y : List α), ys[i]? = some y → j < k → ys.flatten[i * k + j]? = y[j]?
  | [], _, i, j, y, h, _ => by simp at h
  | z :: ys, hk, 0, j, y, h, hj => by
    simp at h
    subst h
    rw [List.flatten_cons, Nat.zero_mul, Nat.zero_add, List.getElem?_append_left (by rw [hk z (by simp)]; exact hj)]
  | z :: ys, hk, i + 1, j, y, h, hj => by
    have hz := hk z (by simp)
    rw [List.flatten_cons, List.getElem?_append_right (by rw [hz, Nat.add_mul]; omega), hz, show (i + 1) * k + j - k = i * k + j by rw [Nat.add_mul]; omega]
    exact flat_at ys (fun y hy => hk y (by simp [hy])) i j y (by simpa using h) hj
theorem flat_len {α : Type} {k : Nat} : ∀ (ys : List (List α)), (∀ y ∈ ys, y.length = k) → ys.flatten.length = ys.length * k
  | [], _ => by simp
  | z :: ys, hk => by
    rw [List.flatten_cons, List.length_append, flat_len ys (fun y hy => hk y (by simp [hy])), hk z (by simp), List.length_cons, Nat.add_mul]
    omega
theorem flat_set {α : Type} {k : Nat} : ∀ (ys : List (List α)), (∀ y ∈ ys, y.length = k) → ∀ (i j : Nat) (y : List α) (u : α), ys[i]? = some y → j < k → (ys.set i (y.set j u)).flatten = ys.flatten.set (i * k + j) u
  | [], _, i, j, y, u, h, _ => by simp at h
  | z :: ys, hk, 0, j, y, u, h, hj => by
    simp at h
    subst h
    rw [List.set_cons_zero, List.flatten_cons, List.flatten_cons, Nat.zero_mul, Nat.zero_add, List.set_append_left _ _ (by rw [hk z (by simp)]; exact hj)]
  | z :: ys, hk, i + 1, j, y, u, h, hj => by
    have hz := hk z (by simp)
    rw [List.set_cons_succ, List.flatten_cons, List.flatten_cons, List.set_append_right _ _ (by rw [hz, Nat.add_mul]; omega), hz, show (i + 1) * k + j - k = i * k + j by rw [Nat.add_mul]; omega]
    rw [flat_set ys (fun y hy => hk y (by simp [hy])) i j y u (by simpa using h) hj]
/-- A slice value that owns its block; ys: its elements' cells. -/
def RowK (w : World) (e : TypeId) (k : Nat) (v : Value) (ys : List (List Value)) : Prop := (∀ y ∈ ys, y.length = k) ∧ w.ownsRow 0 e k v ys.length ys.flatten
theorem RowK.nil (w : World) (e : TypeId) (k : Nat) : RowK w e k (.slice none 0 0) [] := ⟨by simp, World.ownsRow_nil _ _ _ _⟩
theorem RowK.form {w : World} {e : TypeId} {k : Nat} {v : Value} {ys : List (List Value)} (h : RowK w e k v ys) :
    (v = .slice none 0 0 ∧ ys = []) ∨ ∃ g c cur, v = .slice (some ⟨g, 0, none⟩) ys.length c ∧ w.heap[g]? = some (.cells cur e (0, 0)) ∧ ys.length ≤ c ∧ c ≤ maxLen ∧ cur.size = c * k ∧ cur.toList.take (ys.length * k) = ys.flatten := by
  rcases h.2.2 with ⟨h1, h2⟩ | ⟨g, c, cur, h1, _, h2, h3, h4, h5, h6⟩
  · exact .inl ⟨h1, List.eq_nil_of_length_eq_zero h2⟩
  · exact .inr ⟨g, c, cur, h1, h2, h3, h4, h5, h6⟩
theorem RowK.slice {w : World} {e : TypeId} {k : Nat} {v : Value} {ys : List (List Value)} (h : RowK w e k v ys) : ∃ A c, v = .slice A ys.length c := by
  rcases h.form with ⟨rfl, rfl⟩ | ⟨g, c, _, rfl, _⟩
  · exact ⟨none, 0, rfl⟩
  · exact ⟨_, c, rfl⟩
theorem RowK.fr {S : Nat → Prop} {w w' : World} {e : TypeId} {k : Nat} {v : Value} {ys : List (List Value)} (h : RowK w e k v ys) (hf : Fr S w w') (hS : ∀ q, v.ownBlock = some q → ¬ S q) : RowK w' e k v ys := by
  refine ⟨h.1, h.2.1, ?_⟩
  rcases h.2.2 with hn | ⟨g, cap, cur, rfl, hb, hgg, rest⟩
  · exact .inl hn
  · refine .inr ⟨g, cap, cur, rfl, hb, ?_, rest⟩
    rw [hf.block g (Array.getElem?_eq_some_iff.1 hgg).1 (hS g rfl)]
    exact hgg
theorem RowK.lt {w : World} {e : TypeId} {k : Nat} {v : Value} {ys : List (List Value)} (h : RowK w e k v ys) {q : Nat} (hq : v.ownBlock = some q) : q < w.heap.size := (World.ownsRow.lt h.2 q hq).2
theorem RowK.drew {w : World} {e : TypeId} {k : Nat} {v : Value} {ys : List (List Value)} (h : RowK w e k v ys) : RowK w.drew e k v ys := h
theorem RowK.drewN {w : World} {e : TypeId} {k : Nat} {v : Value} {ys : List (List Value)} (h : RowK w e k v ys) (n : Nat) : RowK (w.drewN n) e k v ys := h
theorem RowK.alloc {w : World} {e : TypeId} {k : Nat} {v : Value} {ys : List (List Value)} (h : RowK w e k v ys) (o : Obj) : RowK (w.alloc o) e k v ys :=
  h.fr ((Fr.refl (fun _ => False) w).alloc o) (fun _ _ => id)
theorem RowK.other {w : World} {e : TypeId} {k : Nat} {v : Value} {ys : List (List Value)} (h : RowK w e k v ys) {a : Addr} (ha : v.ownBlock ≠ some a.block) (u : Value) : RowK (w.setCell a u) e k v ys :=
  h.fr ((Fr.refl (fun q => q = a.block) w).setCell a u (fun _ => rfl)) (fun q hq e => ha (by rw [hq, e]))
/-- The block that a row owns has the row's element type. -/
theorem RowK.kind {w : World} {e : TypeId} {k : Nat} {v : Value} {ys : List (List Value)} (h : RowK w e k v ys) {q : Nat} (hq : v.ownBlock = some q) : ∃ cur, w.heap[q]? = some (.cells cur e (0, 0)) := by
  rcases h.form with ⟨rfl, _⟩ | ⟨g, c, cur, rfl, hg, _⟩
  · simp [Value.ownBlock] at hq
  · have : g = q := by simpa [Value.ownBlock] using hq
    subst this
    exact ⟨cur, hg⟩
theorem Row.kind {w : World} {e : TypeId} {v : Value} {xs : List Value} (h : Row w e v xs) {q : Nat} (hq : v.ownBlock = some q) : ∃ cur, w.heap[q]? = some (.cells cur e (0, 0)) := by
  rcases h.form with ⟨rfl, _⟩ | ⟨g, c, cur, rfl, hg, _⟩
  · simp [Value.ownBlock] at hq
  · have : g = q := by simpa [Value.ownBlock] using hq
    subst this
    exact ⟨cur, hg⟩
theorem kinds_ne {w : World} {e t : TypeId} {q q' : Nat} {cur cur' : Array Value} (h : w.heap[q]? = some (.cells cur e (0, 0))) (h' : w.heap[q']? = some (.cells cur' t (0, 0))) (ht : e ≠ t) : q ≠ q' := by
  rintro rfl
  rw [h] at h'
  simp at h'
  exact ht h'.2
theorem RowK.ne {w : World} {e t : TypeId} {k : Nat} {v : Value} {ys : List (List Value)} {cs : List Value} {b : Nat} (h : RowK w e k v ys) (hb : Blk w b cs t) (ht : e ≠ t) : v.ownBlock ≠ some b := fun hq => by
  obtain ⟨cur, hc⟩ := h.kind hq
  exact kinds_ne hc hb.out ht rfl
theorem RowK.ne_row {w : World} {e t : TypeId} {k : Nat} {v v' : Value} {ys : List (List Value)} {xs : List Value} (h : RowK w e k v ys) (h' : Row w t v' xs) (ht : e ≠ t) (q : Nat) (hq : v.ownBlock = some q) : v'.ownBlock ≠ some q := fun hq' => by
  obtain ⟨cur, hc⟩ := h.kind hq
  obtain ⟨cur', hc'⟩ := h'.kind hq'
  exact kinds_ne hc hc' ht rfl
theorem RowK.cell {w : World} {e : TypeId} {k : Nat} {ys : List (List Value)} {g c n : Nat} (h : RowK w e k (.slice (some ⟨g, 0, none⟩) n c) ys) (i j : Nat) {y : List Value} {u : Value} (hi : ys[i]? = some y) (hj : y[j]? = some u) : w.cell? ⟨g, i * k + j, none⟩ = some u := by
  have hjk : j < k := by rw [← h.1 y (List.mem_of_getElem? hi)]; exact (List.getElem?_eq_some_iff.1 hj).1
  have := World.ownsRow.cells h.2 (g := g) rfl (i * k + j) u (by rw [flat_at ys h.1 i j y hi hjk]; exact hj)
  rwa [add_plain] at this
theorem RowK.free {w : World} {e : TypeId} {k : Nat} {ys : List (List Value)} {g c n : Nat} (h : RowK w e k (.slice (some ⟨g, 0, none⟩) n c) ys) (j : Nat) : w.frozen? ⟨g, j, none⟩ = false := by
  obtain ⟨cur, hg⟩ := h.kind (q := g) rfl
  simp [World.frozen?, hg]
theorem RowK.len {w : World} {e : TypeId} {k : Nat} {ys : List (List Value)} {A : Option Addr} {n c : Nat} (h : RowK w e k (.slice A n c) ys) : n = ys.length := by
  rcases h.form with ⟨h', rfl⟩ | ⟨g', c', cur, h', hg, _⟩
  · injection h'
  · injection h'
theorem RowK.head {w : World} {e : TypeId} {k : Nat} {ys : List (List Value)} {A : Option Addr} {n c : Nat} (h : RowK w e k (.slice A n c) ys) (hn : 0 < n) : ∃ g, A = some ⟨g, 0, none⟩ ∧ n ≤ c := by
  rcases h.form with ⟨h', rfl⟩ | ⟨g', c', cur, h', hg, hle, _⟩
  · injection h' with _ h2
    omega
  · injection h' with h1 h2 h3
    exact ⟨g', h1, by omega⟩
theorem Row.head {w : World} {e : TypeId} {xs : List Value} {A : Option Addr} {n c : Nat} (h : Row w e (.slice A n c) xs) (hn : 0 < n) : ∃ g, A = some ⟨g, 0, none⟩ ∧ n ≤ c := by
  rcases h.form with ⟨h', rfl⟩ | ⟨g', c', cur, h', hg, hle, _⟩
  · injection h' with _ h2
    omega
  · injection h' with h1 h2 h3
    exact ⟨g', h1, by omega⟩
theorem RowK.set {w : World} {e : TypeId} {k : Nat} {ys : List (List Value)} {g c n : Nat} (h : RowK w e k (.slice (some ⟨g, 0, none⟩) n c) ys) (i j : Nat) {y : List Value} (hi : ys[i]? = some y) (hj : j < k) (u : Value) :
    RowK (w.setCell ⟨g, i * k + j, none⟩ u) e k (.slice (some ⟨g, 0, none⟩) n c) (ys.set i (y.set j u)) := by
  have hn := h.len
  subst hn
  have hy := h.1 y (List.mem_of_getElem? hi)
  refine ⟨fun z hz => ?_, ?_⟩
  · rcases List.mem_or_eq_of_mem_set hz with hz | rfl
    · exact h.1 z hz
    · rw [List.length_set]; exact hy
  · rw [List.length_set, flat_set ys h.1 i j y u hi hj]
    exact (World.ownsRow.stored h.2 (i * k + j) u).1
section
variable {P : Program} {ops : Array Oper} {rest : List Oper} {o : Oper} {a : Act} {Q : Exit → Act → World → Prop}
theorem run_appK {P : Program} (W : World) (t ty e : TypeId) (z : Value) (k bytes : Nat)
    (ht : P.underlying t = some (.slice e)) (hinfo : (P.info? e).map (fun i => (i.zero, i.size, i.bytes)) = some (some z, k, bytes)) (hz : z.cells.size = k) (hk0 : 0 < k) (hb0 : 0 < bytes)
    (v : Value) (ys : List (List Value)) (y : List Value) (hy : y.length = k) (h1 : ∀ u ∈ y, u.oneCell' = true) (HO : RowK W e k v ys) (hl : (ys.length + 1) * bytes ≤ 140737488355328) :
    ∃ g c w1, (Builtin.append_ #[t, t] ty #[v, .slice (some ⟨W.heap.size, 0, none⟩) 1 1]).run P (W.alloc (.cells y.toArray e)) = .ok (.slice (some ⟨g, 0, none⟩) (ys.length + 1) c) w1 ∧
      RowK w1 e k (.slice (some ⟨g, 0, none⟩) (ys.length + 1) c) (ys ++ [y]) ∧ (v.ownBlock = some g ∨ W.heap.size < g) ∧ Fr (fun q => v.ownBlock = some q) W w1 ∧ W.heap.size < w1.heap.size := by
  obtain ⟨i0, hi, hzz⟩ := Option.map_eq_some_iff.1 hinfo
  simp only [Prod.mk.injEq] at hzz
  obtain ⟨hz0, hz1, hz2⟩ := hzz
  have hlen : ys.length + 1 ≤ 140737488355328 := Nat.le_trans (Nat.le_mul_of_pos_right _ hb0) hl
  obtain ⟨v1, w1, hr, hown, hg, hnil, hat⟩ := run_append_own_at (P := P) (W.alloc (.cells y.toArray e)) 0 t ty e i0 z k bytes ht hi hz0 hz1 hz2 hz hk0 v ys.length ys.flatten (HO.alloc _).2 ⟨W.heap.size, 0, none⟩ 1 1 y (by omega)
    (World.news_of_block (cs := y.toArray) (t := e) (fr := (0, 0)) (heap_alloc_new W _)) h1 (by simp only [maxLen]; omega) hl (Nat.zero_le _)
  have hown' : RowK w1 e k v1 (ys ++ [y]) := by
    refine ⟨fun x hx => ?_, ?_⟩
    · rcases List.mem_append.1 hx with hx | hx
      · exact HO.1 x hx
      · rw [List.mem_singleton] at hx; subst hx; exact hy
    · simpa using hown
  have hfr : Fr (fun q => v.ownBlock = some q) W w1 := ((Fr.refl _ W).alloc _).trans (Fr.grown hg) (fun _ _ h => h)
  have hsz : W.heap.size < w1.heap.size := by have := hg.size; simp at this; omega
  rcases hown'.form with ⟨rfl, hh⟩ | ⟨g, c, cur, rfl, hgg, _⟩
  · simp at hh
  · simp only [List.length_append, List.length_singleton] at hown' hr ⊢
    refine ⟨g, c, w1, hr, hown', ?_, hfr, hsz⟩
    rcases hat with hat | hat
    · left; rw [← hat]; rfl
    · right; simp [Value.ownBlock] at hat; omega
/-- append of one element of k cells. -/
theorem appK {W : World} (hgd : o.guard = none) (s x : Operand) (t e : TypeId) (z : Value) (k bytes : Nat)
    (ho : o.op = .call { callee := .builtin .append, args := #[s, x], argTypes := #[t, t] })
    (ht : P.underlying t = some (.slice e)) (hinfo : (P.info? e).map (fun i => (i.zero, i.size, i.bytes)) = some (some z, k, bytes)) (hz : z.cells.size = k) (hk0 : 0 < k) (hb0 : 0 < bytes)
    (v : Value) (ys : List (List Value)) (y : List Value) (hy : y.length = k) (hs : a.eval s = v) (hx : a.eval x = .slice (some ⟨W.heap.size, 0, none⟩) 1 1) (h1 : ∀ u ∈ y, u.oneCell' = true)
    (HO : RowK W e k v ys) (hl : (ys.length + 1) * bytes ≤ 140737488355328)
    (h : ∀ g c w1, RowK w1 e k (.slice (some ⟨g, 0, none⟩) (ys.length + 1) c) (ys ++ [y]) → (v.ownBlock = some g ∨ W.heap.size < g) → Fr (fun q => v.ownBlock = some q) W w1 → W.heap.size < w1.heap.size → wpList P ops Q rest (a.put o.dst (.slice (some ⟨g, 0, none⟩) (ys.length + 1) c)) w1) :
    wpList P ops Q (o :: rest) a (W.alloc (.cells y.toArray e)) := by
  refine wpList_plain hgd fun K hK => ?_
  obtain ⟨g, c, w1, hr, h2, h3, h4, h5⟩ := run_appK (P := P) W t o.type e z k bytes ht hinfo hz hk0 hb0 v ys y hy h1 HO hl
  unfold Oper.wp execOp
  simp only [ho, resolve, invoke, builtin, Sem.run_bind, Sem.run_pure, Result.andThen_ok, List.map_toArray, List.map_cons, List.map_nil, hs, hx, hr]
  exact hK _ _ (h g c w1 h2 h3 h4 h5)
/-- The same at a step of a region that draws its order. -/
theorem step_appK {W : World} {K : Act → World → Prop} {E : Prop} (hgd : o.guard = none) (s x : Operand) (t e : TypeId) (z : Value) (k bytes : Nat)
    (ho : o.op = .call { callee := .builtin .append, args := #[s, x], argTypes := #[t, t] })
    (ht : P.underlying t = some (.slice e)) (hinfo : (P.info? e).map (fun i => (i.zero, i.size, i.bytes)) = some (some z, k, bytes)) (hz : z.cells.size = k) (hk0 : 0 < k) (hb0 : 0 < bytes)
    (v : Value) (ys : List (List Value)) (y : List Value) (hy : y.length = k) (hs : a.eval s = v) (hx : a.eval x = .slice (some ⟨W.heap.size, 0, none⟩) 1 1) (h1 : ∀ u ∈ y, u.oneCell' = true)
    (HO : RowK W e k v ys) (hl : (ys.length + 1) * bytes ≤ 140737488355328)
    (h : ∀ g c w1, RowK w1 e k (.slice (some ⟨g, 0, none⟩) (ys.length + 1) c) (ys ++ [y]) → (v.ownBlock = some g ∨ W.heap.size < g) → Fr (fun q => v.ownBlock = some q) W w1 → W.heap.size < w1.heap.size → K (a.put o.dst (.slice (some ⟨g, 0, none⟩) (ys.length + 1) c)) w1) :
    if Region.wanted o (yielded ops a.tmps) = true then Oper.wp P o a (W.alloc (.cells y.toArray e)) K Q else E := by
  have hw : Region.wanted o (yielded ops a.tmps) = true := by simp [Region.wanted, hgd]
  rw [if_pos hw]
  obtain ⟨g, c, w1, hr, h2, h3, h4, h5⟩ := run_appK (P := P) W t o.type e z k bytes ht hinfo hz hk0 hb0 v ys y hy h1 HO hl
  unfold Oper.wp execOp
  simp only [ho, resolve, invoke, builtin, Sem.run_bind, Sem.run_pure, Result.andThen_ok, List.map_toArray, List.map_cons, List.map_nil, hs, hx, hr]
  exact h g c w1 h2 h3 h4 h5
theorem flat_one {α : Type} : ∀ xs : List α, (xs.map fun x => [x]).flatten = xs
  | [] => rfl
  | x :: xs => by rw [List.map_cons, List.flatten_cons, flat_one xs]; rfl
theorem Row.toK {w : World} {e : TypeId} {v : Value} {xs : List Value} (h : Row w e v xs) : RowK w e 1 v (xs.map fun x => [x]) :=
  ⟨fun y hy => by obtain ⟨x, _, rfl⟩ := List.mem_map.1 hy; rfl, by rw [flat_one, List.length_map]; exact h⟩
theorem RowK.ofK {w : World} {e : TypeId} {v : Value} {xs : List Value} (h : RowK w e 1 v (xs.map fun x => [x])) : Row w e v xs := by
  have := h.2
  rw [flat_one, List.length_map] at this
  exact this
/-- append of one element of one cell, at a step of a region that draws its order. -/
theorem step_app1 {W : World} {K : Act → World → Prop} {E : Prop} (hgd : o.guard = none) (s x : Operand) (t e : TypeId) (z : Value) (bytes : Nat)
    (ho : o.op = .call { callee := .builtin .append, args := #[s, x], argTypes := #[t, t] })
    (ht : P.underlying t = some (.slice e)) (hinfo : (P.info? e).map (fun i => (i.zero, i.size, i.bytes)) = some (some z, 1, bytes)) (hz : z.cells.size = 1) (hb0 : 0 < bytes)
    (v : Value) (xs : List Value) (y : Value) (hs : a.eval s = v) (hx : a.eval x = .slice (some ⟨W.heap.size, 0, none⟩) 1 1) (h1 : y.oneCell' = true)
    (HO : Row W e v xs) (hl : (xs.length + 1) * bytes ≤ 140737488355328)
    (h : ∀ g c w1, Row w1 e (.slice (some ⟨g, 0, none⟩) (xs.length + 1) c) (xs ++ [y]) → (v.ownBlock = some g ∨ W.heap.size < g) → Fr (fun q => v.ownBlock = some q) W w1 → W.heap.size < w1.heap.size → K (a.put o.dst (.slice (some ⟨g, 0, none⟩) (xs.length + 1) c)) w1) :
    if Region.wanted o (yielded ops a.tmps) = true then Oper.wp P o a (W.alloc (.cells #[y] e)) K Q else E := by
  refine step_appK (y := [y]) hgd s x t e z 1 bytes ho ht hinfo hz (by omega) hb0 v (xs.map fun x => [x]) rfl hs hx (by simpa using h1) HO.toK (by rw [List.length_map]; exact hl) ?_
  intro g c w1 hR hor hf hlt
  rw [List.length_map] at hR ⊢
  refine h g c w1 (RowK.ofK ?_) hor hf hlt
  rw [List.map_append]
  exact hR
end
end Go.Proofs.Ytlljfopacdnpbaa
