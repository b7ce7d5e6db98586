/- A task's step on cells, mutexes, what the tasks know. Conditions: those of the lemmas. -/
import Derived.Test.YtlljfopacdnpbaaPick
import Derived.Test.YtlljfopacdnpbaaCellI
import Derived.Deep.DeepCutAuto
namespace Go.Proofs.Ytlljfopacdnpbaa
open Go.RowKit
structure Ins where
  kind : Int
  cell : Int
  n : Int
  mutex : Int
  free : Int
def insV (x : Ins) : List Value := [.int .i64 x.kind, .int .i64 x.cell, .int .i64 x.n, .int .i64 x.mutex, .int .i64 x.free]
def Ins.ok (x : Ins) : Prop := (0 ≤ x.cell ∧ x.cell < 4) ∧ (0 ≤ x.mutex ∧ x.mutex ≤ 4) ∧ (0 ≤ x.free ∧ x.free ≤ 4)
def upd {α : Type} (f : Nat → α) (k : Nat) (v : α) : Nat → α := fun j => if j = k then v else f j
theorem upd_same {α : Type} (f : Nat → α) (k : Nat) (v : α) : upd f k v k = v := if_pos rfl
theorem upd_ne {α : Type} (f : Nat → α) {k j : Nat} (v : α) (h : j ≠ k) : upd f k v j = f j := if_neg h
structure St where
  cells : Nat → Int
  sets : Nat → Int
  held : Nat → Option Int
  known : List Int
structure Env where
  wb : Nat
  ca : Nat
  cc : Nat
  ma : Nat
  mc : Nat
  kb : Nat
  kc : Nat
  c : Nat → Nat
  m : Nat → Nat
  sb : Nat
def Env.mem (E : Env) (q : Nat) : Prop := q = E.kb ∨ ∃ k, k < 4 ∧ (q = E.c k ∨ q = E.m k)
structure WdAt (W : World) (E : Env) (s : St) : Prop where
  obj : Blk W E.wb [.slice (some ⟨E.ca, 0, none⟩) 4 E.cc, .slice (some ⟨E.ma, 0, none⟩) 4 E.mc, .slice (some ⟨E.kb, 0, none⟩) s.known.length E.kc, .pointer (some ⟨E.sb, 0, none⟩)] 38
  cs : Row W 47 (.slice (some ⟨E.ca, 0, none⟩) 4 E.cc) ((List.range 4).map fun k => .pointer (some ⟨E.c k, 0, none⟩))
  ms : Row W 49 (.slice (some ⟨E.ma, 0, none⟩) 4 E.mc) ((List.range 4).map fun k => .pointer (some ⟨E.m k, 0, none⟩))
  cel : ∀ k, k < 4 → CelI W (E.c k) (s.cells k) (s.sets k)
  mux : ∀ k, k < 4 → MuV W (.pointer (some ⟨E.m k, 0, none⟩)) (s.held k)
  kn : Row W 3 (.slice (some ⟨E.kb, 0, none⟩) s.known.length E.kc) (i64s s.known)
  ci : ∀ i j, i < 4 → j < 4 → E.c i = E.c j → i = j
  mi : ∀ i j, i < 4 → j < 4 → E.m i = E.m j → i = j
section
variable {W W' : World} {E : Env} {s : St}
theorem WdAt.fr {S : Nat → Prop} (h : WdAt W E s) (hf : Fr S W W') (h1 : ¬ S E.wb) (h2 : ¬ S E.ca) (h3 : ¬ S E.ma) (h4 : ¬ S E.kb) (h5 : ∀ k, k < 4 → ¬ S (E.c k)) (h6 : ∀ k, k < 4 → ¬ S (E.m k)) : WdAt W' E s :=
  ⟨hf.blk h.obj h1, h.cs.fr hf (fun q hq => by have : E.ca = q := by simpa [Value.ownBlock] using hq
                                               rw [← this]; exact h2),
    h.ms.fr hf (fun q hq => by have : E.ma = q := by simpa [Value.ownBlock] using hq
                               rw [← this]; exact h3), fun k hk => hf.blk (h.cel k hk) (h5 k hk), fun k hk => (h.mux k hk).fr hf (fun mb hm => by injection hm with hm; injection hm with hm; injection hm with hm; rw [← hm]; exact h6 k hk),
    h.kn.fr hf (fun q hq => by have : E.kb = q := by simpa [Value.ownBlock] using hq
                               rw [← this]; exact h4), h.ci, h.mi⟩
theorem WdAt.new (h : WdAt W E s) (hf : Fr (fun _ => False) W W') : WdAt W' E s := h.fr hf id id id id (fun _ _ => id) (fun _ _ => id)
theorem WdAt.csB (h : WdAt W E s) : ∃ cs, Blk W E.ca cs 47 := by
  obtain ⟨cur, hc⟩ := h.cs.kind (q := E.ca) rfl
  exact ⟨cur.toList, by unfold Blk; simpa using hc⟩
theorem WdAt.msB (h : WdAt W E s) : ∃ cs, Blk W E.ma cs 49 := by
  obtain ⟨cur, hc⟩ := h.ms.kind (q := E.ma) rfl
  exact ⟨cur.toList, by unfold Blk; simpa using hc⟩
theorem WdAt.knB (h : WdAt W E s) : ∃ cs, Blk W E.kb cs 3 := by
  obtain ⟨cur, hc⟩ := h.kn.kind (q := E.kb) rfl
  exact ⟨cur.toList, by unfold Blk; simpa using hc⟩
theorem WdAt.muB (h : WdAt W E s) {k : Nat} (hk : k < 4) : ∃ x, Blk W (E.m k) [.bool (s.held k).isSome, .int .i64 x] 83 ∧ ∀ y, s.held k = some y → x = y := by
  rcases h.mux k hk with ⟨e, _⟩ | ⟨mb, x, e, hb, hx⟩
  · cases e
  · injection e with e
    injection e with e
    injection e with e
    rw [e]
    exact ⟨x, hb, hx⟩
theorem WdAt.cAt (h : WdAt W E s) {k : Nat} (hk : k < 4) : W.cell? ⟨E.ca, k, none⟩ = some (.pointer (some ⟨E.c k, 0, none⟩)) := h.cs.cell k (by rw [List.getElem?_map, List.getElem?_range hk]; rfl)
theorem WdAt.mAt (h : WdAt W E s) {k : Nat} (hk : k < 4) : W.cell? ⟨E.ma, k, none⟩ = some (.pointer (some ⟨E.m k, 0, none⟩)) := h.ms.cell k (by rw [List.getElem?_map, List.getElem?_range hk]; rfl)
/-- A cell stored. -/
theorem WdAt.setC (h : WdAt W E s) {k : Nat} (hk : k < 4) {v n : Int} (hc : CelI W' (E.c k) v n) (hf : Fr (fun q => q = E.c k) W W') : WdAt W' E { s with cells := upd s.cells k v, sets := upd s.sets k n } := by
  have hck := h.cel k hk
  obtain ⟨a, ha⟩ := h.csB
  obtain ⟨b, hb⟩ := h.msB
  obtain ⟨c, hcc⟩ := h.knB
  refine ⟨hf.blk h.obj (h.obj.ne hck (by decide)), h.cs.fr hf (fun q hq hh => ?_), h.ms.fr hf (fun q hq hh => ?_), fun j hj => ?_, fun j hj => (h.mux j hj).fr hf (fun mb hm hh => ?_), h.kn.fr hf (fun q hq hh => ?_), h.ci, h.mi⟩
  · have : E.ca = q := by simpa [Value.ownBlock] using hq
    exact (ha.ne hck (by decide)) (this.trans hh)
  · have : E.ma = q := by simpa [Value.ownBlock] using hq
    exact (hb.ne hck (by decide)) (this.trans hh)
  · by_cases e : j = k
    · subst e
      simp only [upd_same]
      exact hc
    · simp only [upd_ne _ _ e]
      exact hf.blk (h.cel j hj) (fun hh => e (h.ci j k hj hk hh))
  · obtain ⟨x, hx, _⟩ := h.muB hj
    injection hm with hm
    injection hm with hm
    injection hm with hm
    exact (hx.ne hck (by decide)) (hm.trans hh)
  · have : E.kb = q := by simpa [Value.ownBlock] using hq
    exact (hcc.ne hck (by decide)) (this.trans hh)
/-- A mutex had or given back. -/
theorem WdAt.setM (h : WdAt W E s) {k : Nat} (hk : k < 4) {o : Option Int} (hc : MuV W' (.pointer (some ⟨E.m k, 0, none⟩)) o) (hf : Fr (fun q => q = E.m k) W W') : WdAt W' E { s with held := upd s.held k o } := by
  obtain ⟨x, hck, _⟩ := h.muB hk
  obtain ⟨a, ha⟩ := h.csB
  obtain ⟨b, hb⟩ := h.msB
  obtain ⟨c, hcc⟩ := h.knB
  refine ⟨hf.blk h.obj (h.obj.ne hck (by decide)), h.cs.fr hf (fun q hq hh => ?_), h.ms.fr hf (fun q hq hh => ?_), fun j hj => hf.blk (h.cel j hj) (Blk.ne (h.cel j hj) hck (by decide)), fun j hj => ?_, h.kn.fr hf (fun q hq hh => ?_), h.ci, h.mi⟩
  · have : E.ca = q := by simpa [Value.ownBlock] using hq
    exact (ha.ne hck (by decide)) (this.trans hh)
  · have : E.ma = q := by simpa [Value.ownBlock] using hq
    exact (hb.ne hck (by decide)) (this.trans hh)
  · by_cases e : j = k
    · subst e
      simp only [upd_same]
      exact hc
    · simp only [upd_ne _ _ e]
      refine (h.mux j hj).fr hf (fun mb hm hh => ?_)
      injection hm with hm
      injection hm with hm
      injection hm with hm
      exact e (h.mi j k hj hk (hm.trans hh))
  · have : E.kb = q := by simpa [Value.ownBlock] using hq
    exact (hcc.ne hck (by decide)) (this.trans hh)
/-- What a task knows. -/
theorem WdAt.setK (h : WdAt W E s) (k : Nat) (v : Int) : WdAt (W.setCell ⟨E.kb, k, none⟩ (.int .i64 v)) E { s with known := s.known.set k v } := by
  have hf : Fr (fun q => q = E.kb) W (W.setCell ⟨E.kb, k, none⟩ (.int .i64 v)) := (Fr.refl _ W).set1 _ _
  obtain ⟨c, hck⟩ := h.knB
  obtain ⟨a, ha⟩ := h.csB
  obtain ⟨b, hb⟩ := h.msB
  refine ⟨?_, h.cs.fr hf (fun q hq hh => ?_), h.ms.fr hf (fun q hq hh => ?_), fun j hj => hf.blk (h.cel j hj) (Blk.ne (h.cel j hj) hck (by decide)), fun j hj => (h.mux j hj).fr hf (fun mb hm hh => ?_), ?_, h.ci, h.mi⟩
  · rw [List.length_set]
    exact hf.blk h.obj (h.obj.ne hck (by decide))
  · have : E.ca = q := by simpa [Value.ownBlock] using hq
    exact (ha.ne hck (by decide)) (this.trans hh)
  · have : E.ma = q := by simpa [Value.ownBlock] using hq
    exact (hb.ne hck (by decide)) (this.trans hh)
  · obtain ⟨x, hx, _⟩ := h.muB hj
    injection hm with hm
    injection hm with hm
    injection hm with hm
    exact (hx.ne hck (by decide)) (hm.trans hh)
  · have := h.kn.set k (.int .i64 v)
    simp only [List.length_set]
    unfold i64s at this ⊢
    rw [List.map_set]
    exact this
end
theorem wrapE (x : Int) : IntKind.i64.wrap x = wrap64 x := IntWalk.i64_left x
/-- What a step does. -/
def doK (x : Ins) (slot : Nat) (s : St) : St :=
  if x.kind = 1 then { s with known := s.known.set slot (s.cells x.cell.toNat) }
  else if x.kind = 2 then { s with cells := upd s.cells x.cell.toNat (wrap64 (s.known.getD slot 0 + x.n)), sets := upd s.sets x.cell.toNat (wrap64 (s.sets x.cell.toNat + 1)) }
  else if x.kind = 3 then
    if s.cells x.cell.toNat = s.known.getD slot 0 then { s with cells := upd s.cells x.cell.toNat (wrap64 (s.known.getD slot 0 + x.n)), sets := upd s.sets x.cell.toNat (wrap64 (s.sets x.cell.toNat + 1)), known := s.known.set slot 1 }
    else { s with known := s.known.set slot 0 }
  else { s with known := s.known.set slot x.n }
def freeK (x : Ins) (slot : Nat) (s : St) : St :=
  if 0 < x.free ∧ s.held (x.free.toNat - 1) = some (slot : Int) then { s with held := upd s.held (x.free.toNat - 1) none } else s
end Go.Proofs.Ytlljfopacdnpbaa
