/- The reference's world in memory. Conditions: those of the lemmas. -/
import Derived.Test.YtlljfopacdnpbaaRight
namespace Go.Proofs.Ytlljfopacdnpbaa
open Go.RowKit
def four (f : Nat → Int) : List Value := [.int .i64 (f 0), .int .i64 (f 1), .int .i64 (f 2), .int .i64 (f 3)]
theorem four_at (f : Nat → Int) {k : Nat} (h : k < 4) : (four f)[k]? = some (.int .i64 (f k)) := by
  match k, h with
  | 0, _ | 1, _ | 2, _ | 3, _ => rfl
theorem four_set (f : Nat → Int) {k : Nat} (h : k < 4) (v : Int) : (four f).set k (.int .i64 v) = four (upd f k v) := by
  match k, h with
  | 0, _ | 1, _ | 2, _ | 3, _ => simp [four, upd]
/-- What the reference's world has of a task beside its list. -/
structure RT where
  at_ : Nat
  kn : Int
  gone : Bool
def tkV (p : PT) (t : RT) : List Value := [.slice p.A p.l.length p.cp, .int .i64 (t.at_ : Int), .int .i64 t.kn, .bool t.gone]
def tksV (ls : List PT) (ts : List RT) : List (List Value) := List.zipWith tkV ls ts
theorem tksV_at {ls : List PT} {ts : List RT} {i : Nat} {p : PT} {t : RT} (hp : ls[i]? = some p) (ht : ts[i]? = some t) : (tksV ls ts)[i]? = some (tkV p t) := by
  unfold tksV
  rw [List.getElem?_zipWith, hp, ht]
theorem tksV_set {ls : List PT} {ts : List RT} {i : Nat} {p : PT} (hp : ls[i]? = some p) (u : RT) : (tksV ls ts).set i (tkV p u) = tksV ls (ts.set i u) := by
  refine List.ext_getElem? (fun j => ?_)
  unfold tksV
  by_cases e : i = j
  · subst e
    rw [List.getElem?_set, if_pos rfl, List.getElem?_zipWith, List.getElem?_set, if_pos rfl, hp, List.length_zipWith]
    have hl := (List.getElem?_eq_some_iff.1 hp).1
    by_cases h2 : i < ts.length
    · rw [if_pos h2, if_pos (by omega)]
    · rw [if_neg h2, if_neg (by omega)]
  · rw [List.getElem?_set_ne e, List.getElem?_zipWith, List.getElem?_zipWith, List.getElem?_set_ne e]
structure RE where
  tb : Nat
  tc : Nat
  cb : Nat
  zb : Nat
  hb : Nat
def RE.foot (R : RE) (k : Nat) : Prop := k = R.tb ∨ k = R.cb ∨ k = R.zb ∨ k = R.hb
/-- The reference's world at block mb. -/
structure RefAt (W : World) (mb : Nat) (R : RE) (ls : List PT) (ts : List RT) (pos : Nat → Nat) (s : St) (st : Int) : Prop where
  obj : Blk W mb [.slice (some ⟨R.tb, 0, none⟩) ls.length R.tc, .slice (some ⟨R.cb, 0, none⟩) 4 4, .slice (some ⟨R.zb, 0, none⟩) 4 4, .slice (some ⟨R.hb, 0, none⟩) 4 4, .int .i64 st] 31
  tasks : RowK W 69 4 (.slice (some ⟨R.tb, 0, none⟩) ls.length R.tc) (tksV ls ts)
  cells : Blk W R.cb (four s.cells) 3
  sets : Blk W R.zb (four s.sets) 3
  held : Blk W R.hb (four fun k => (s.held k).getD (-1)) 3
  cz : R.cb ≠ R.zb
  ch : R.cb ≠ R.hb
  zh : R.zb ≠ R.hb
  lists : ∀ p ∈ ls, Rd W p.A (insR p.l)
  sep : ∀ p ∈ ls, ∀ ad, p.A = some ad → ad.block ≠ mb ∧ ¬ R.foot ad.block
  len : ts.length = ls.length
  kl : s.known.length = ls.length
  ok : ∀ (i : Nat) (p : PT) (t : RT), ls[i]? = some p → ts[i]? = some t → s.known[i]? = some t.kn ∧ (t.gone = true → p.l[pos i]? = none) ∧ (t.gone = false → t.at_ = pos i) ∧ t.at_ ≤ 1000
  few : ∀ p ∈ ls, p.l.length ≤ 60
section
variable {W W' : World} {mb : Nat} {R : RE} {ls : List PT} {ts : List RT} {pos : Nat → Nat} {s : St} {st : Int}
theorem RefAt.tbB (h : RefAt W mb R ls ts pos s st) : ∃ cs, Blk W R.tb cs 69 := by
  obtain ⟨cur, hc⟩ := h.tasks.kind (q := R.tb) rfl
  exact ⟨cur.toList, by unfold Blk; simpa using hc⟩
theorem RefAt.fr {S : Nat → Prop} (h : RefAt W mb R ls ts pos s st) (hf : Fr S W W') (h1 : ¬ S mb) (h2 : ∀ k, R.foot k → ¬ S k) (h3 : ∀ p ∈ ls, ∀ ad, p.A = some ad → ¬ S ad.block) : RefAt W' mb R ls ts pos s st :=
  ⟨hf.blk h.obj h1, h.tasks.fr hf (fun q hq => by
    have : R.tb = q := by simpa [Value.ownBlock] using hq
    rw [← this]; exact h2 _ (.inl rfl)), hf.blk h.cells (h2 _ (.inr (.inl rfl))), hf.blk h.sets (h2 _ (.inr (.inr (.inl rfl)))), hf.blk h.held (h2 _ (.inr (.inr (.inr rfl)))), h.cz, h.ch, h.zh, fun p hp => (h.lists p hp).fr hf (h3 p hp), h.sep, h.len, h.kl, h.ok, h.few⟩
theorem RefAt.new (h : RefAt W mb R ls ts pos s st) (hf : Fr (fun _ => False) W W') : RefAt W' mb R ls ts pos s st := h.fr hf id (fun _ _ => id) (fun _ _ _ _ => id)
theorem RefAt.lt (h : RefAt W mb R ls ts pos s st) : mb < W.heap.size ∧ ∀ k, R.foot k → k < W.heap.size := by
  refine ⟨h.obj.lt, ?_⟩
  rintro k (rfl | rfl | rfl | rfl)
  · obtain ⟨_, hb⟩ := h.tbB; exact hb.lt
  · exact h.cells.lt
  · exact h.sets.lt
  · exact h.held.lt
/-- The world at another block. -/
theorem RefAt.box (h : RefAt W mb R ls ts pos s st) {mb' : Nat} (hb : Blk W mb' [.slice (some ⟨R.tb, 0, none⟩) ls.length R.tc, .slice (some ⟨R.cb, 0, none⟩) 4 4, .slice (some ⟨R.zb, 0, none⟩) 4 4, .slice (some ⟨R.hb, 0, none⟩) 4 4, .int .i64 st] 31) (hs : ∀ p ∈ ls, ∀ ad, p.A = some ad → ad.block ≠ mb') : RefAt W mb' R ls ts pos s st :=
  ⟨hb, h.tasks, h.cells, h.sets, h.held, h.cz, h.ch, h.zh, h.lists, fun p hp ad e => ⟨hs p hp ad e, (h.sep p hp ad e).2⟩, h.len, h.kl, h.ok, h.few⟩
end
/-- The blocks of the reference's world differ. -/
theorem RefAt.ne {W : World} {mb : Nat} {R : RE} {ls : List PT} {ts : List RT} {pos : Nat → Nat} {s : St} {st : Int} (h : RefAt W mb R ls ts pos s st) : mb ≠ R.tb ∧ mb ≠ R.cb ∧ mb ≠ R.zb ∧ mb ≠ R.hb ∧ R.tb ≠ R.cb ∧ R.tb ≠ R.zb ∧ R.tb ≠ R.hb := by
  obtain ⟨_, ht⟩ := h.tbB
  exact ⟨h.obj.ne ht (by decide), h.obj.ne h.cells (by decide), h.obj.ne h.sets (by decide), h.obj.ne h.held (by decide), ht.ne h.cells (by decide), ht.ne h.sets (by decide), ht.ne h.held (by decide)⟩
end Go.Proofs.Ytlljfopacdnpbaa
