/- The reference's world: what a store changes. Conditions: those of the lemmas. -/
import Derived.Test.YtlljfopacdnpbaaRReady
namespace Go.Proofs.Ytlljfopacdnpbaa
open Go.RowKit
section
variable {W : World} {mb : Nat} {R : RE} {ls : List PT} {ts : List RT} {pos : Nat → Nat} {s : St} {st : Int}
theorem RefAt.setSteps (h : RefAt W mb R ls ts pos s st) (v : Int) : RefAt (W.setCell ⟨mb, 4, none⟩ (.int .i64 v)) mb R ls ts pos s v := by
  have hf : Fr (fun k => k = mb) W (W.setCell ⟨mb, 4, none⟩ (.int .i64 v)) := (Fr.refl _ W).set1 _ _
  obtain ⟨n1, n2, n3, n4, _⟩ := h.ne
  exact ⟨h.obj.set 4 _, h.tasks.fr hf (fun q hq e => by
    have : R.tb = q := by simpa [Value.ownBlock] using hq
    exact n1 (by rw [this, e])), hf.blk h.cells (Ne.symm n2), hf.blk h.sets (Ne.symm n3), hf.blk h.held (Ne.symm n4), h.cz, h.ch, h.zh, fun p hp => (h.lists p hp).fr hf (fun ad e => (h.sep p hp ad e).1), h.sep, h.len, h.kl, h.ok, h.few⟩
/-- A task's cells. -/
theorem RefAt.setTask (h : RefAt W mb R ls ts pos s st) {i : Nat} {p : PT} {t : RT} (hp : ls[i]? = some p) (ht : ts[i]? = some t) (o : Nat) (ho : o < 4) (u : Value) (t' : RT) (hu : (tkV p t).set o u = tkV p t') {pos' : Nat → Nat} {s' : St} (hc : s'.cells = s.cells) (hz : s'.sets = s.sets) (hh : s'.held = s.held)
    (hk : s'.known.length = ls.length) (hok : ∀ (j : Nat) (p : PT) (t : RT), ls[j]? = some p → (ts.set i t')[j]? = some t → s'.known[j]? = some t.kn ∧ (t.gone = true → p.l[pos' j]? = none) ∧ (t.gone = false → t.at_ = pos' j) ∧ t.at_ ≤ 1000) :
    RefAt (W.setCell ⟨R.tb, i * 4 + o, none⟩ u) mb R ls (ts.set i t') pos' s' st := by
  have hf : Fr (fun k => k = R.tb) W (W.setCell ⟨R.tb, i * 4 + o, none⟩ u) := (Fr.refl _ W).set1 _ _
  obtain ⟨n1, n2, n3, n4, n5, n6, n7⟩ := h.ne
  have hrow := tksV_at hp ht
  have hs := h.tasks.set i o hrow ho u
  rw [hu, tksV_set hp] at hs
  refine ⟨hf.blk h.obj n1, hs, ?_, ?_, ?_, h.cz, h.ch, h.zh, fun p hp => (h.lists p hp).fr hf (fun ad e hh => (h.sep p hp ad e).2 (.inl hh)), h.sep, by rw [List.length_set]; exact h.len, hk, hok, h.few⟩
  · rw [hc]; exact hf.blk h.cells (Ne.symm n5)
  · rw [hz]; exact hf.blk h.sets (Ne.symm n6)
  · rw [hh]; exact hf.blk h.held (Ne.symm n7)
theorem RefAt.setHeld (h : RefAt W mb R ls ts pos s st) {k : Nat} (hk : k < 4) (o : Option Int) : RefAt (W.setCell ⟨R.hb, k, none⟩ (.int .i64 (o.getD (-1)))) mb R ls ts pos { s with held := upd s.held k o } st := by
  have hf : Fr (fun q => q = R.hb) W (W.setCell ⟨R.hb, k, none⟩ (.int .i64 (o.getD (-1)))) := (Fr.refl _ W).set1 _ _
  obtain ⟨n1, n2, n3, n4, n5, n6, n7⟩ := h.ne
  refine ⟨hf.blk h.obj n4, h.tasks.fr hf (fun q hq e => by
    have : R.tb = q := by simpa [Value.ownBlock] using hq
    exact n7 (by rw [this, e])), hf.blk h.cells h.ch, hf.blk h.sets h.zh, ?_, h.cz, h.ch, h.zh, fun p hp => (h.lists p hp).fr hf (fun ad e hh => (h.sep p hp ad e).2 (.inr (.inr (.inr hh)))), h.sep, h.len, h.kl, h.ok, h.few⟩
  have := h.held.set k (.int .i64 (o.getD (-1)))
  rw [four_set _ hk] at this
  have e : upd (fun k => (s.held k).getD (-1)) k (o.getD (-1)) = fun j => (upd s.held k o j).getD (-1) := by
    funext j
    unfold upd
    split <;> rfl
  rw [e] at this
  exact this
theorem RefAt.setCell (h : RefAt W mb R ls ts pos s st) {k : Nat} (hk : k < 4) (v : Int) : RefAt (W.setCell ⟨R.cb, k, none⟩ (.int .i64 v)) mb R ls ts pos { s with cells := upd s.cells k v } st := by
  have hf : Fr (fun q => q = R.cb) W (W.setCell ⟨R.cb, k, none⟩ (.int .i64 v)) := (Fr.refl _ W).set1 _ _
  obtain ⟨n1, n2, n3, n4, n5, n6, n7⟩ := h.ne
  refine ⟨hf.blk h.obj n2, h.tasks.fr hf (fun q hq e => by
    have : R.tb = q := by simpa [Value.ownBlock] using hq
    exact n5 (by rw [this, e])), ?_, hf.blk h.sets (Ne.symm h.cz), hf.blk h.held (Ne.symm h.ch), h.cz, h.ch, h.zh, fun p hp => (h.lists p hp).fr hf (fun ad e hh => (h.sep p hp ad e).2 (.inr (.inl hh))), h.sep, h.len, h.kl, h.ok, h.few⟩
  have := h.cells.set k (.int .i64 v)
  rw [four_set _ hk] at this
  exact this
theorem RefAt.setSets (h : RefAt W mb R ls ts pos s st) {k : Nat} (hk : k < 4) (v : Int) : RefAt (W.setCell ⟨R.zb, k, none⟩ (.int .i64 v)) mb R ls ts pos { s with sets := upd s.sets k v } st := by
  have hf : Fr (fun q => q = R.zb) W (W.setCell ⟨R.zb, k, none⟩ (.int .i64 v)) := (Fr.refl _ W).set1 _ _
  obtain ⟨n1, n2, n3, n4, n5, n6, n7⟩ := h.ne
  refine ⟨hf.blk h.obj n3, h.tasks.fr hf (fun q hq e => by
    have : R.tb = q := by simpa [Value.ownBlock] using hq
    exact n6 (by rw [this, e])), hf.blk h.cells h.cz, ?_, hf.blk h.held (Ne.symm h.zh), h.cz, h.ch, h.zh, fun p hp => (h.lists p hp).fr hf (fun ad e hh => (h.sep p hp ad e).2 (.inr (.inr (.inl hh)))), h.sep, h.len, h.kl, h.ok, h.few⟩
  have := h.sets.set k (.int .i64 v)
  rw [four_set _ hk] at this
  exact this
theorem RefAt.setKnown (h : RefAt W mb R ls ts pos s st) {i : Nat} {p : PT} {t : RT} (hp : ls[i]? = some p) (ht : ts[i]? = some t) (v : Int) : RefAt (W.setCell ⟨R.tb, i * 4 + 2, none⟩ (.int .i64 v)) mb R ls (ts.set i { t with kn := v }) pos { s with known := s.known.set i v } st :=
  h.setTask hp ht 2 (by decide) _ { t with kn := v } rfl rfl rfl rfl (by simp [h.kl]) (fun j q u hq hu => by
    have hil := (List.getElem?_eq_some_iff.1 ht).1
    by_cases e : i = j
    · subst e
      rw [List.getElem?_set_self hil] at hu
      injection hu with hu
      subst hu
      rw [hp] at hq
      injection hq with hq
      subst hq
      obtain ⟨_, k2, k3, k4⟩ := h.ok i p t hp ht
      exact ⟨by simp only; rw [List.getElem?_set_self (by rw [h.kl, ← h.len]; exact hil)], k2, k3, k4⟩
    · rw [List.getElem?_set_ne e] at hu
      simp only
      rw [List.getElem?_set_ne e]
      exact h.ok j q u hq hu)
theorem RefAt.setAt (h : RefAt W mb R ls ts pos s st) {i : Nat} {p : PT} {t : RT} (hp : ls[i]? = some p) (ht : ts[i]? = some t) (hg : t.gone = false) (h9 : pos i < 1000) : RefAt (W.setCell ⟨R.tb, i * 4 + 1, none⟩ (.int .i64 ((t.at_ + 1 : Nat) : Int))) mb R ls (ts.set i { t with at_ := t.at_ + 1 }) (upd pos i (pos i + 1)) s st :=
  h.setTask hp ht 1 (by decide) _ { t with at_ := t.at_ + 1 } rfl rfl rfl rfl h.kl (fun j q u hq hu => by
    have hil := (List.getElem?_eq_some_iff.1 ht).1
    by_cases e : i = j
    · subst e
      rw [List.getElem?_set_self hil] at hu
      injection hu with hu
      subst hu
      rw [hp] at hq
      injection hq with hq
      subst hq
      obtain ⟨k1, k2, k3, k4⟩ := h.ok i p t hp ht
      have h3 := k3 hg
      refine ⟨k1, fun hh => ?_, fun _ => ?_, ?_⟩
      · have hh : t.gone = true := hh
        rw [hg] at hh; cases hh
      · rw [upd_same]; simp only; omega
      · simp only; omega
    · rw [List.getElem?_set_ne e] at hu
      rw [upd_ne _ _ (Ne.symm e)]
      exact h.ok j q u hq hu)
end
end Go.Proofs.Ytlljfopacdnpbaa
