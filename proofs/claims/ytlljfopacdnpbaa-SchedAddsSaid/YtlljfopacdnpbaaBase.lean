/- Common words of this seat's proofs: blocks of cells, rows that a call owns, frames of worlds, one law for append of an element.
   Conditions: none beside those that each lemma names. -/
import Derived.Test.YtlljfopacdnpbaaRows
import Derived.WalkKit
import Derived.Deep.OwnRows
import Derived.Deep.Draws
import Derived.Maps.AppendAt
import Derived.Outline
import Derived.BigRegion
import Derived.Deep.QuietTactic
import Derived.BigQuiet
import Derived.Lib.Hide
import Derived.Deep.AppendLies
import Derived.Deep.DeepCutAuto
import Derived.WalkLawsBesides
import Derived.WalkSpells
namespace Go.Proofs.Ytlljfopacdnpbaa
open Go.RowKit

theorem ret_int {k : IntKind} {a b : Int} (h : a = b) : Ending.returned (.int k a) = .returned (.int k b) := by rw [h]
theorem ret_bool {a b : Bool} (h : a = b) : Ending.returned (.bool a) = .returned (.bool b) := by rw [h]
/-! ### Blocks -/
/-- Block b holds these cells, none frozen. -/
def Blk (w : World) (b : Nat) (cs : List Value) (t : TypeId) : Prop := w.heap[b]? = some (.cells cs.toArray t (0, 0))
theorem Blk.out {w : World} {b : Nat} {cs : List Value} {t : TypeId} (h : Blk w b cs t) : w.heap[b]? = some (.cells cs.toArray t (0, 0)) := h
theorem Blk.cell {w : World} {b : Nat} {cs : List Value} {t : TypeId} (h : Blk w b cs t) (o : Nat) {v : Value} (hv : cs[o]? = some v) : w.cell? ⟨b, o, none⟩ = some v := by
  simp [World.cell?, h.out, hv]
theorem Blk.free {w : World} {b : Nat} {cs : List Value} {t : TypeId} (h : Blk w b cs t) (o : Nat) : w.frozen? ⟨b, o, none⟩ = false := by
  simp [World.frozen?, h.out]
theorem Blk.lt {w : World} {b : Nat} {cs : List Value} {t : TypeId} (h : Blk w b cs t) : b < w.heap.size := (Array.getElem?_eq_some_iff.1 h.out).1
theorem Blk.set {w : World} {b : Nat} {cs : List Value} {t : TypeId} (h : Blk w b cs t) (o : Nat) (v : Value) : Blk (w.setCell ⟨b, o, none⟩ v) b (cs.set o v) t := by
  unfold Blk
  rw [heap_setCell_same w b o cs.toArray t v h]
  simp
theorem Blk.other {w : World} {b : Nat} {cs : List Value} {t : TypeId} (h : Blk w b cs t) {a : Addr} (ha : b ≠ a.block) (v : Value) : Blk (w.setCell a v) b cs t := by
  unfold Blk
  rw [heap_setCell_other w a b v ha]
  exact h
theorem Blk.drew {w : World} {b : Nat} {cs : List Value} {t : TypeId} (h : Blk w b cs t) : Blk w.drew b cs t := h
theorem Blk.drewN {w : World} {b : Nat} {cs : List Value} {t : TypeId} (h : Blk w b cs t) (n : Nat) : Blk (w.drewN n) b cs t := h
theorem Blk.alloc {w : World} {b : Nat} {cs : List Value} {t : TypeId} (h : Blk w b cs t) (o : Obj) : Blk (w.alloc o) b cs t :=
  (Below.heap_alloc w o b h.lt).trans h
theorem Blk.new (w : World) (cs : List Value) (t : TypeId) : Blk (w.alloc (.cells cs.toArray t)) w.heap.size cs t := heap_alloc_new w _
theorem Blk.at_new (w : World) (cs : List Value) (t : TypeId) (b : Nat) (arr : Array Value) (hb : b = w.heap.size) (ha : arr = cs.toArray) : Blk (w.alloc (.cells arr t)) b cs t := by
  subst hb
  subst ha
  exact Blk.new w cs t
theorem Blk.inj {w : World} {b : Nat} {cs cs' : List Value} {t t' : TypeId} (h : Blk w b cs t) (h' : Blk w b cs' t') : t = t' := by
  have e := h.out.symm.trans h'.out
  simp at e
  exact e.2
theorem Blk.ne {w : World} {b b' : Nat} {cs cs' : List Value} {t t' : TypeId} (h : Blk w b cs t) (h' : Blk w b' cs' t') (ht : t ≠ t') : b ≠ b' := by
  rintro rfl
  exact ht (h.inj h')

/-! ### Frames: but for the blocks in S, what was there is as it was -/
structure Fr (S : Nat → Prop) (w w' : World) : Prop where
  os : w'.os = w.os
  tape : w'.tape = w.tape
  output : w'.output = w.output
  size : w.heap.size ≤ w'.heap.size
  block : ∀ k, k < w.heap.size → ¬ S k → w'.heap[k]? = w.heap[k]?
theorem Fr.refl (S : Nat → Prop) (w : World) : Fr S w w := ⟨rfl, rfl, rfl, Nat.le_refl _, fun _ _ _ => rfl⟩
theorem Fr.trans {S S' : Nat → Prop} {a b c : World} (h : Fr S a b) (k : Fr S' b c) (hS : ∀ i, i < a.heap.size → S' i → S i) : Fr S a c :=
  ⟨k.os.trans h.os, k.tape.trans h.tape, k.output.trans h.output, Nat.le_trans h.size k.size, fun i hi hn => (k.block i (Nat.lt_of_lt_of_le hi h.size) (fun hs => hn (hS i hi hs))).trans (h.block i hi hn)⟩
theorem Fr.mono {S S' : Nat → Prop} {a b : World} (h : Fr S a b) (hS : ∀ i, i < a.heap.size → S i → S' i) : Fr S' a b :=
  ⟨h.os, h.tape, h.output, h.size, fun i hi hn => h.block i hi (fun hs => hn (hS i hi hs))⟩
theorem Fr.drew {S : Nat → Prop} {a b : World} (h : Fr S a b) : Fr S a b.drew := ⟨h.os, h.tape, h.output, h.size, h.block⟩
theorem Fr.drewN {S : Nat → Prop} {a b : World} (h : Fr S a b) (n : Nat) : Fr S a (b.drewN n) := ⟨h.os, h.tape, h.output, h.size, h.block⟩
theorem Fr.alloc {S : Nat → Prop} {a b : World} (h : Fr S a b) (o : Obj) : Fr S a (b.alloc o) :=
  ⟨h.os, h.tape, h.output, Nat.le_trans h.size (by simp), fun i hi hn => (Below.heap_alloc b o i (Nat.lt_of_lt_of_le hi h.size)).trans (h.block i hi hn)⟩
theorem Fr.setCell {S : Nat → Prop} {a b : World} (h : Fr S a b) (p : Addr) (v : Value) (hp : p.block < a.heap.size → S p.block) : Fr S a (b.setCell p v) :=
  ⟨h.os, h.tape, h.output, by simpa [World.setCell] using h.size, fun i hi hn => (Below.heap_setCell b p v i (by rintro rfl; exact hn (hp hi))).trans (h.block i hi hn)⟩
theorem Fr.set1 {a w : World} {b : Nat} (h : Fr (fun k => k = b) a w) (o : Nat) (v : Value) : Fr (fun k => k = b) a (w.setCell ⟨b, o, none⟩ v) := h.setCell _ _ (fun _ => rfl)
theorem Fr.grown {a b : World} {row : Option Nat} (h : a.grownBy b row) : Fr (fun k => row = some k) a b :=
  ⟨h.os, h.tape, h.output, h.size, fun i hi hn => h.block i hi (fun e => hn e.symm)⟩
theorem Fr.of_below {a b : World} (h : Below a.heap.size a b) (S : Nat → Prop) : Fr S a b := ⟨h.os, h.tape, h.output, h.size, fun i hi _ => h.block i hi⟩
theorem Fr.below {S : Nat → Prop} {a b : World} (h : Fr S a b) (B : Nat) (hB : B ≤ a.heap.size) (hS : ∀ k, k < B → ¬ S k) : Below B a b :=
  ⟨h.os, h.tape, h.output, h.size, fun i hi => h.block i (Nat.lt_of_lt_of_le hi hB) (hS i hi)⟩
theorem Fr.blk {S : Nat → Prop} {a b : World} (h : Fr S a b) {g : Nat} {cs : List Value} {t : TypeId} (hb : Blk a g cs t) (hS : ¬ S g) : Blk b g cs t :=
  (h.block g hb.lt hS).trans hb
theorem Fr.cell {S : Nat → Prop} {a b : World} (h : Fr S a b) {p : Addr} {v : Value} (hc : a.cell? p = some v) (hS : ¬ S p.block) : b.cell? p = some v :=
  (World.cell?_of_block (h.block p.block (World.block_lt_of_cell? a p hc) hS)).trans hc

/-! ### Rows: a slice value that owns a block from its head on (or is nil) -/
def Row (w : World) (e : TypeId) (v : Value) (xs : List Value) : Prop := w.ownsRow 0 e 1 v xs.length xs
theorem Row.nil (w : World) (e : TypeId) : Row w e (.slice none 0 0) [] := World.ownsRow_nil _ _ _ _
theorem Row.form {w : World} {e : TypeId} {v : Value} {xs : List Value} (h : Row w e v xs) :
    (v = .slice none 0 0 ∧ xs = []) ∨ ∃ g c cur, v = .slice (some ⟨g, 0, none⟩) xs.length c ∧ w.heap[g]? = some (.cells cur e (0, 0)) ∧ xs.length ≤ c ∧ c ≤ maxLen ∧ cur.size = c ∧ cur.toList.take xs.length = xs := by
  rcases h.2 with ⟨h1, h2⟩ | ⟨g, c, cur, h1, _, h2, h3, h4, h5, h6⟩
  · exact .inl ⟨h1, List.eq_nil_of_length_eq_zero h2⟩
  · exact .inr ⟨g, c, cur, h1, h2, h3, h4, by simpa using h5, by simpa using h6⟩
theorem Row.slice {w : World} {e : TypeId} {v : Value} {xs : List Value} (h : Row w e v xs) : ∃ A c, v = .slice A xs.length c := by
  rcases h.form with ⟨rfl, rfl⟩ | ⟨g, c, _, rfl, _⟩
  · exact ⟨none, 0, rfl⟩
  · exact ⟨_, c, rfl⟩
theorem Row.fr {S : Nat → Prop} {w w' : World} {e : TypeId} {v : Value} {xs : List Value} (h : Row w e v xs) (hf : Fr S w w') (hS : ∀ k, v.ownBlock = some k → ¬ S k) : Row w' e v xs := by
  refine ⟨h.1, ?_⟩
  rcases h.2 with hn | ⟨g, cap, cur, rfl, hb, hgg, rest⟩
  · exact .inl hn
  · refine .inr ⟨g, cap, cur, rfl, hb, ?_, rest⟩
    rw [hf.block g (Array.getElem?_eq_some_iff.1 hgg).1 (hS g rfl)]
    exact hgg
theorem Row.lt {w : World} {e : TypeId} {v : Value} {xs : List Value} (h : Row w e v xs) {k : Nat} (hk : v.ownBlock = some k) : k < w.heap.size := (World.ownsRow.lt h k hk).2
theorem Row.drew {w : World} {e : TypeId} {v : Value} {xs : List Value} (h : Row w e v xs) : Row w.drew e v xs := h
theorem Row.drewN {w : World} {e : TypeId} {v : Value} {xs : List Value} (h : Row w e v xs) (n : Nat) : Row (w.drewN n) e v xs := h
theorem Row.alloc {w : World} {e : TypeId} {v : Value} {xs : List Value} (h : Row w e v xs) (o : Obj) : Row (w.alloc o) e v xs :=
  h.fr ((Fr.refl (fun _ => False) w).alloc o) (fun _ _ => id)
theorem Row.other {w : World} {e : TypeId} {v : Value} {xs : List Value} (h : Row w e v xs) {a : Addr} (ha : v.ownBlock ≠ some a.block) (u : Value) : Row (w.setCell a u) e v xs :=
  ownsRow_setCell_other h ha u
/-- A row's block has the row's element type. -/
theorem Row.ne {w : World} {e t : TypeId} {v : Value} {xs cs : List Value} {b : Nat} (h : Row w e v xs) (hb : Blk w b cs t) (ht : e ≠ t) : v.ownBlock ≠ some b := by
  rcases h.form with ⟨rfl, _⟩ | ⟨g, c, cur, rfl, hg, _⟩
  · simp [Value.ownBlock]
  · intro he
    have : g = b := by simpa [Value.ownBlock] using he
    subst this
    have e2 := hg.symm.trans hb.out
    simp at e2
    exact ht e2.2
theorem Row.ne_row {w : World} {e t : TypeId} {v v' : Value} {xs xs' : List Value} (h : Row w e v xs) (h' : Row w t v' xs') (ht : e ≠ t) (k : Nat) (hk : v.ownBlock = some k) : v'.ownBlock ≠ some k := by
  rcases h.form with ⟨rfl, _⟩ | ⟨g, c, cur, rfl, hg, _⟩
  · simp [Value.ownBlock] at hk
  · have : g = k := by simpa [Value.ownBlock] using hk
    subst this
    rcases h'.form with ⟨rfl, _⟩ | ⟨g', c', cur', rfl, hg', _⟩
    · simp [Value.ownBlock]
    · intro he
      have : g' = g := by simpa [Value.ownBlock] using he
      subst this
      have e2 := hg.symm.trans hg'
      simp at e2
      exact ht e2.2
theorem Row.cell {w : World} {e : TypeId} {xs : List Value} {g c n : Nat} (h : Row w e (.slice (some ⟨g, 0, none⟩) n c) xs) (j : Nat) {u : Value} (hj : xs[j]? = some u) : w.cell? ⟨g, j, none⟩ = some u := by
  have := World.ownsRow.cells h (g := g) rfl j u hj
  have ha : (⟨g, 0, none⟩ : Addr).add j = ⟨g, j, none⟩ := by unfold Addr.add; split <;> simp_all
  rwa [ha] at this
theorem Row.free {w : World} {e : TypeId} {xs : List Value} {g c n : Nat} (h : Row w e (.slice (some ⟨g, 0, none⟩) n c) xs) (j : Nat) : w.frozen? ⟨g, j, none⟩ = false := by
  rcases h.form with ⟨h', _⟩ | ⟨g', c', cur, h', hg, _⟩
  · cases h'
  · have : g = g' := by injection h' with h'; injection h' with h'; injection h' with h'
    subst this
    simp [World.frozen?, hg]
theorem Row.len {w : World} {e : TypeId} {xs : List Value} {A : Option Addr} {n c : Nat} (h : Row w e (.slice A n c) xs) : n = xs.length := by
  rcases h.form with ⟨h', rfl⟩ | ⟨g', c', cur, h', hg, _⟩
  · injection h'
  · injection h'
theorem Row.set {w : World} {e : TypeId} {xs : List Value} {g c n : Nat} (h : Row w e (.slice (some ⟨g, 0, none⟩) n c) xs) (j : Nat) (u : Value) : Row (w.setCell ⟨g, j, none⟩ u) e (.slice (some ⟨g, 0, none⟩) n c) (xs.set j u) := by
  have hn := h.len
  subst hn
  have := (World.ownsRow.stored h j u).1
  unfold Row
  rw [List.length_set]
  exact this
/-- A row that is laid at once. -/
theorem Row.lit (w : World) (e : TypeId) (xs : List Value) (h : xs.length ≤ 9223372036854775807) : Row (w.alloc (.cells xs.toArray e)) e (.slice (some ⟨w.heap.size, 0, none⟩) xs.length xs.length) xs := by
  have := World.ownsRow_lit (base := 0) (e := e) (size := 1) w xs.toArray xs.length (Nat.zero_le _) (by simpa [maxLen] using h) (by simp)
  simpa [Row] using this

/-! ### Cells that are read -/
def Rd (w : World) (A : Option Addr) (vs : List Value) : Prop := ∀ (j : Nat) (v : Value), vs[j]? = some v → ∃ ad : Addr, A = some ad ∧ w.cell? (ad.add j) = some v
theorem add_plain (g j : Nat) : (⟨g, 0, none⟩ : Addr).add j = ⟨g, j, none⟩ := by unfold Addr.add; split <;> simp_all
theorem add_add (ad : Addr) (i j : Nat) : (ad.add i).add j = ad.add (i + j) := by
  unfold Addr.add
  by_cases q1 : i = 0
  · subst q1; simp
  · by_cases q2 : j = 0
    · subst q2; simp
    · rw [if_neg q1, if_neg q2, if_neg (by omega)]; simp [Nat.add_assoc]
theorem add_block (ad : Addr) (j : Nat) : (ad.add j).block = ad.block := by unfold Addr.add; split <;> rfl
theorem Row.rd {w : World} {e : TypeId} {v : Value} {xs : List Value} (h : Row w e v xs) : ∃ A c, v = .slice A xs.length c ∧ Rd w A xs := by
  rcases h.form with ⟨rfl, rfl⟩ | ⟨g, c, _, rfl, _⟩
  · exact ⟨none, 0, rfl, fun j v hv => by simp at hv⟩
  · exact ⟨_, c, rfl, fun j v hv => ⟨_, rfl, by rw [add_plain]; exact h.cell j hv⟩⟩
theorem Rd.fr {S : Nat → Prop} {w w' : World} {A : Option Addr} {vs : List Value} (h : Rd w A vs) (hf : Fr S w w') (hS : ∀ ad, A = some ad → ¬ S ad.block) : Rd w' A vs := fun j v hv => by
  obtain ⟨ad, e, hc⟩ := h j v hv
  exact ⟨ad, e, hf.cell hc (by rw [add_block]; exact hS ad e)⟩
theorem Rd.at_new (w : World) (vs : List Value) (t : TypeId) (fr : Nat × Nat) (arr : Array Value) (ha : arr = vs.toArray) : Rd (w.alloc (.cells arr t fr)) (some ⟨w.heap.size, 0, none⟩) vs := by
  subst ha
  intro j v hj
  refine ⟨_, rfl, ?_⟩
  rw [add_plain]
  unfold World.cell?
  rw [heap_alloc_new]
  simpa using hj
theorem Rd.drewN {w : World} {A : Option Addr} {vs : List Value} (h : Rd w A vs) (n : Nat) : Rd (w.drewN n) A vs := h
theorem Rd.lt {w : World} {A : Option Addr} {vs : List Value} (h : Rd w A vs) {v : Value} {j : Nat} (hj : vs[j]? = some v) {ad : Addr} (e : A = some ad) : ad.block < w.heap.size := by
  obtain ⟨ad', e', hc⟩ := h j v hj
  have : ad = ad' := by rw [e] at e'; injection e'
  subst this
  have := World.block_lt_of_cell? w _ hc
  rwa [add_block] at this

/-! ### append of one element of one cell -/
section
variable {P : Program} {ops : Array Oper} {rest : List Oper} {o : Oper} {a : Act} {Q : Exit → Act → World → Prop}
theorem app1 {W : World} (hgd : o.guard = none) (s x : Operand) (t e : TypeId) (z : Value) (bytes : Nat)
    (ho : o.op = .call { callee := .builtin .append, args := #[s, x], argTypes := #[t, t] })
    (ht : P.underlying t = some (.slice e)) (hinfo : (P.info? e).map (fun i => (i.zero, i.size, i.bytes)) = some (some z, 1, bytes)) (hz : z.cells.size = 1) (hb0 : 0 < bytes)
    (v : Value) (xs : List Value) (y : Value) (hs : a.eval s = v) (hx : a.eval x = .slice (some ⟨W.heap.size, 0, none⟩) 1 1) (h1 : y.oneCell' = true)
    (HO : Row W e v xs) (hl : (xs.length + 1) * bytes ≤ 140737488355328)
    (h : ∀ g c w1, Row w1 e (.slice (some ⟨g, 0, none⟩) (xs.length + 1) c) (xs ++ [y]) → (v.ownBlock = some g ∨ W.heap.size < g) → Fr (fun k => v.ownBlock = some k) W w1 → W.heap.size < w1.heap.size → wpList P ops Q rest (a.put o.dst (.slice (some ⟨g, 0, none⟩) (xs.length + 1) c)) w1) :
    wpList P ops Q (o :: rest) a (W.alloc (.cells #[y] e)) := by
  obtain ⟨i0, hi, hzz⟩ := Option.map_eq_some_iff.1 hinfo
  simp only [Prod.mk.injEq] at hzz
  obtain ⟨hz0, hz1, hz2⟩ := hzz
  have hlen : xs.length + 1 ≤ 140737488355328 := Nat.le_trans (Nat.le_mul_of_pos_right _ hb0) hl
  refine wpList_append_own_at (W.alloc (.cells #[y] e)) hgd s x t ho 0 e i0 z 1 bytes ht hi hz0 hz1 hz2 hz (by omega) v xs.length xs hs (HO.alloc _) ⟨W.heap.size, 0, none⟩ 1 1 [y] hx rfl
    (World.news_of_block (cs := #[y]) (t := e) (fr := (0, 0)) (heap_alloc_new W _)) (by simpa using h1) (by simp only [maxLen]; omega) hl (Nat.zero_le _) ?_
  intro v1 w1 hown hg hnil hat
  have hown' : Row w1 e v1 (xs ++ [y]) := by simpa [Row] using hown
  rcases hown'.form with ⟨rfl, hh⟩ | ⟨g, c, cur, rfl, hgg, _⟩
  · simp at hh
  · have hfr : Fr (fun k => v.ownBlock = some k) W w1 := ((Fr.refl _ W).alloc _).trans (Fr.grown hg) (fun _ _ h => h)
    have hsz : W.heap.size < w1.heap.size := by have := hg.size; simp at this; omega
    simp only [List.length_append, List.length_singleton] at hown' ⊢
    refine h g c w1 hown' ?_ hfr hsz
    rcases hat with hat | hat
    · left; rw [← hat]; rfl
    · right; simp [Value.ownBlock] at hat; omega
end
/-! ### A struct stored into its variable -/
theorem Blk.setRow {w : World} {b : Nat} {cs : List Value} {t : TypeId} (h : Blk w b cs t) (cs' : List Value) : Blk (w.setRow b cs'.toArray) b cs' t := setRow_heap w b _ _ t (0, 0) h
theorem Fr.setRow (w : World) (b : Nat) (cs : Array Value) : Fr (fun k => k = b) w (w.setRow b cs) :=
  ⟨rfl, rfl, rfl, by simp [World.setRow], fun k _ hn => setRow_other w b k cs hn⟩
section
variable {P : Program} {ops : Array Oper} {rest : List Oper} {o : Oper} {a : Act} {Q : Exit → Act → World → Prop}
theorem storeAgg {W : World} (hgd : o.guard = none) (ty : TypeId) (x y : Operand) (ho : o.op = .store ty x y) (g : Nat) (cells old : List Value) (hx : a.eval x = .pointer (some ⟨g, 0, none⟩)) (hy : a.eval y = .agg cells.toArray)
    (t : TypeId) (hB : Blk W g old t) (hi : (P.info? ty).map (·.size) = some cells.length) (hold : old.length = cells.length) (h1 : cells.all (·.oneCell') = true)
    (h : ∀ W1, Blk W1 g cells t → Fr (fun k => k = g) W W1 → wpList P ops Q rest (a.put o.dst undef) W1) : wpList P ops Q (o :: rest) a W :=
  wpList_store_row hgd ty x y ho g cells.toArray hx hy t old.toArray hB (by simpa using hi) (by simpa using hold) (by simpa using h1) (h _ (hB.setRow _) (Fr.setRow _ _ _))
end
/-! ### append of a whole slice -/
theorem run_appN {P : Program} (w : World) (t ty e : TypeId) (z : Value) (bytes : Nat)
    (ht : P.underlying t = some (.slice e)) (hinfo : (P.info? e).map (fun i => (i.zero, i.size, i.bytes)) = some (some z, 1, bytes)) (hz : z.cells.size = 1) (hb0 : 0 < bytes)
    (v : Value) (xs : List Value) (HO : Row w e v xs) (A : Option Addr) (ys : List Value) (c : Nat) (hA : Rd w A ys) (h1 : ∀ u ∈ ys, u.oneCell' = true) (hl : (xs.length + ys.length) * bytes ≤ 140737488355328) :
    ∃ v1 w1, (Builtin.append_ #[t, t] ty #[v, .slice A ys.length c]).run P w = .ok v1 w1 ∧ Row w1 e v1 (xs ++ ys) ∧ Fr (fun k => v.ownBlock = some k) w w1 ∧ (v1.ownBlock = v.ownBlock ∨ v1.ownBlock = some w.heap.size) := by
  obtain ⟨i0, hi, hzz⟩ := Option.map_eq_some_iff.1 hinfo
  simp only [Prod.mk.injEq] at hzz
  obtain ⟨hz0, hz1, hz2⟩ := hzz
  have hlen : xs.length + ys.length ≤ 140737488355328 := Nat.le_trans (Nat.le_mul_of_pos_right _ hb0) hl
  rcases A with _ | ad
  · have hy : ys = [] := by
      rcases ys with _ | ⟨y, ys⟩
      · rfl
      · obtain ⟨_, e, _⟩ := hA 0 y rfl
        cases e
    subst hy
    refine ⟨v, w, ?_, by simpa using HO, Fr.refl _ _, .inl rfl⟩
    rcases HO.form with ⟨rfl, _⟩ | ⟨g, cap, cur, rfl, _, hnc, _⟩
    · simp [Builtin.append_, run_underlying ht, sizeOf, typeInfo, hi, Builtin.lenOf, Builtin.firstCells]
    · simp [Builtin.append_, run_underlying ht, sizeOf, typeInfo, hi, Builtin.lenOf, Builtin.firstCells, hnc, storeCells]
  · obtain ⟨v1, w1, hr, hown, hg, _, hat⟩ := run_append_own_at (P := P) w 0 t ty e i0 z 1 bytes ht hi hz0 hz1 hz2 hz (by omega) v xs.length xs HO ad ys.length c ys (by simp)
      (fun j u hu => by obtain ⟨ad', e', hc⟩ := hA j u hu; cases e'; exact hc) h1 (by simp only [maxLen]; omega) hl (Nat.zero_le _)
    exact ⟨v1, w1, hr, by simpa [Row] using hown, Fr.grown hg, hat⟩
section
variable {P : Program} {ops : Array Oper} {rest : List Oper} {o : Oper} {a : Act} {Q : Exit → Act → World → Prop}
theorem appN {W : World} (hgd : o.guard = none) (s x : Operand) (t e : TypeId) (z : Value) (bytes : Nat)
    (ho : o.op = .call { callee := .builtin .append, args := #[s, x], argTypes := #[t, t] })
    (ht : P.underlying t = some (.slice e)) (hinfo : (P.info? e).map (fun i => (i.zero, i.size, i.bytes)) = some (some z, 1, bytes)) (hz : z.cells.size = 1) (hb0 : 0 < bytes)
    (v : Value) (xs : List Value) (hs : a.eval s = v) (A : Option Addr) (ys : List Value) (n c : Nat) (hn : n = ys.length) (hx : a.eval x = .slice A n c)
    (HO : Row W e v xs) (hA : Rd W A ys) (h1 : ∀ u ∈ ys, u.oneCell' = true) (hl : (xs.length + ys.length) * bytes ≤ 140737488355328)
    (h : ∀ v1 w1, Row w1 e v1 (xs ++ ys) → (v1.ownBlock = v.ownBlock ∨ v1.ownBlock = some W.heap.size) → Fr (fun k => v.ownBlock = some k) W w1 → wpList P ops Q rest (a.put o.dst v1) w1) :
    wpList P ops Q (o :: rest) a W := by
  subst hn
  refine wpList_plain hgd fun K hK => ?_
  obtain ⟨v1, w1, hr, hrow, hf, hat⟩ := run_appN W t o.type e z bytes ht hinfo hz hb0 v xs HO A ys c hA h1 hl
  unfold Oper.wp execOp
  simp only [ho, resolve, invoke, builtin, Sem.run_bind, Sem.run_pure, Result.andThen_ok, List.map_toArray, List.map_cons, List.map_nil, hs, hx, hr]
  exact hK _ _ (h v1 w1 hrow hat hf)
/-- append([]T{}, xs...): a copy in new memory. -/
theorem appC {W : World} (hgd : o.guard = none) (s x : Operand) (t e : TypeId) (z : Value) (bytes : Nat)
    (ho : o.op = .call { callee := .builtin .append, args := #[s, x], argTypes := #[t, t] })
    (ht : P.underlying t = some (.slice e)) (hinfo : (P.info? e).map (fun i => (i.zero, i.size, i.bytes)) = some (some z, 1, bytes)) (hz : z.cells.size = 1) (hb0 : 0 < bytes)
    (hs : a.eval s = .slice (some ⟨W.heap.size, 0, none⟩) 0 0) (A : Option Addr) (ys : List Value) (n c : Nat) (hn : n = ys.length) (hx : a.eval x = .slice A n c)
    (hA : Rd W A ys) (h1 : ∀ u ∈ ys, u.oneCell' = true) (hl : ys.length * bytes ≤ 140737488355328)
    (h : ∀ A1 c1 w1, Row w1 e (.slice A1 n c1) ys → Fr (fun _ => False) W w1 → (∀ g, (Value.slice A1 n c1).ownBlock = some g → W.heap.size ≤ g) → wpList P ops Q rest (a.put o.dst (.slice A1 n c1)) w1) :
    wpList P ops Q (o :: rest) a (W.alloc (.cells #[] e)) := by
  refine appN hgd s x t e z bytes ho ht hinfo hz hb0 _ [] hs A ys n c hn hx (Row.lit W e [] (by decide)) (hA.fr ((Fr.refl (fun _ => False) W).alloc _) (fun _ _ => id)) h1 (by simpa using hl) ?_
  intro v1 w1 hrow hat hf
  obtain ⟨A1, c1, hv⟩ := hrow.slice
  simp only [List.nil_append] at hrow hv
  rw [← hn] at hv
  subst hv
  have hfr : Fr (fun _ => False) W w1 := ((Fr.refl (fun _ => False) W).alloc _).trans hf (fun i hi h => by
    have h' : W.heap.size = i := by simpa [Value.ownBlock] using h
    omega)
  refine h A1 c1 w1 hrow hfr (fun g hg => ?_)
  rcases hat with hat | hat
  · rw [hat] at hg
    have h' : W.heap.size = g := by simpa [Value.ownBlock] using hg
    omega
  · rw [hat] at hg
    have h' : (W.alloc (.cells #[] e)).heap.size = g := by simpa using hg
    simp at h'
    omega
end
/-! ### Calls that leave the world alone, inside a region that is walked quietly -/
theorem quiet_left {P : Program} {f : FuncId} {args : Array Value} {w : World} {n : Nat} {v : Value}
    (h : Calls P f args (w.drewN n) fun e w' => e = .returned v ∧ w.drewN n = w') : Calls P f args (w.drewN n) fun e w'' => e = .returned v ∧ ∃ m, w'' = w.drewN m :=
  h.mono fun _ _ ⟨he, hm⟩ => ⟨he, n, hm.symm⟩
theorem quiet_drawn {P : Program} {f : FuncId} {args : Array Value} {w : World} {n : Nat} {v : Value}
    (h : Calls P f args (w.drewN n) fun e w' => e = .returned v ∧ ∃ m, w' = (w.drewN n).drewN m) : Calls P f args (w.drewN n) fun e w'' => e = .returned v ∧ ∃ m, w'' = w.drewN m :=
  h.mono fun _ _ ⟨he, m, hm⟩ => ⟨he, n + m, by rw [hm, World.drewN_drewN]⟩
end Go.Proofs.Ytlljfopacdnpbaa
