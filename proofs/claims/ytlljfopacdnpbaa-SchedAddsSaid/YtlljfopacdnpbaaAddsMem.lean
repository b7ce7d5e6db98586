/- The memory of the tasks that add. Conditions: those of the lemmas. -/
import Derived.Test.YtlljfopacdnpbaaAddsFn
namespace Go.Proofs.Ytlljfopacdnpbaa
open Go.RowKit
structure AE where
  sb : Nat
  tb : Nat
  cb : Nat
  cc : Nat
  mx : Nat
  mm : Nat
  wb : Nat
  sn : Nat → Nat
  se : Nat → Nat
  lf : Nat → Nat
  ld : Nat → Nat
def loadF (e : AE) (i : Nat) : Value := .func (.func 18) #[] #[ptr e.cb, ptr (e.sn i), ptr (e.se i)]
def setF (e : AE) (i : Nat) : Value := .func (.func 20) #[] #[ptr e.wb, ptr e.cb, ptr (e.sn i), ptr e.mx, ptr (e.se i), ptr (e.lf i), ptr (e.ld i)]
def onA (e : AE) (sw : Bool) : Value := if sw then .pointer none else ptr e.mm
def tvA (e : AE) (sw : Bool) (i : Nat) (t : AT) : TV := if t.ph = 0 then (loadF e i, onA e sw) else if t.ph = 1 then (setF e i, .pointer none) else (.nilFunc, .pointer none)
def hI (held : Option Nat) : Option Int := held.map fun (k : Nat) => (k : Int)
structure ABox (W : World) (e : AE) (i : Nat) (t : AT) : Prop where
  sn : Blk W (e.sn i) [.int .i64 (t.seen : Int)] 3
  lf : Blk W (e.lf i) [.int .i64 (t.left : Int)] 3
  ld : Blk W (e.ld i) [loadF e i] 51
  se : Blk W (e.se i) [setF e i] 51
structure AAt (W : World) (e : AE) (sw : Bool) (st : Int) (ts : List AT) (v : Nat) (held : Option Nat) (T : List TV) : Prop where
  sch : Sch W e.sb e.tb st T
  len : T.length = ts.length
  tk : ∀ (i : Nat) (t : AT), ts[i]? = some t → T[i]? = some (tvA e sw i t)
  cv : Blk W e.cb [.pointer (some ⟨e.cc, 0, none⟩)] 47
  mv : Blk W e.mx [.pointer (some ⟨e.mm, 0, none⟩)] 49
  wv : Blk W e.wb [.bool sw] 4
  cel : CelI W e.cc (v : Int) (v : Int)
  mu : MuV W (ptr e.mm) (hI held)
  bx : ∀ (i : Nat) (t : AT), ts[i]? = some t → ABox W e i t
  d1 : ∀ i j, i < ts.length → j < ts.length → e.sn i ≠ e.lf j
  d2 : ∀ i j, i < ts.length → j < ts.length → e.sn i = e.sn j → i = j
  d3 : ∀ i j, i < ts.length → j < ts.length → e.lf i = e.lf j → i = j
def AS (e : AE) (n : Nat) (q : Nat) : Prop := q = e.sb ∨ q = e.tb ∨ q = e.cc ∨ q = e.mm ∨ ∃ j, j < n ∧ (q = e.sn j ∨ q = e.lf j)
section
variable {W W' : World} {e : AE} {sw : Bool} {st : Int} {ts : List AT} {v : Nat} {held : Option Nat} {T : List TV}
theorem AAt.muB (h : AAt W e sw st ts v held T) : ∃ x, Blk W e.mm [.bool (hI held).isSome, .int .i64 x] 83 ∧ ∀ y, hI held = some y → x = y := by
  rcases h.mu with ⟨h0, _⟩ | ⟨mb, s, h0, hb, hs⟩
  · cases h0
  · unfold ptr at h0
    injection h0 with h0
    injection h0 with h0
    injection h0 with h0
    subst h0
    exact ⟨s, hb, hs⟩
/-- What lies beside the tasks' own. -/
theorem AAt.far (h : AAt W e sw st ts v held T) {q : Nat} {cs : List Value} {t : TypeId} (hq : Blk W q cs t) (h1 : t ≠ 78) (h2 : t ≠ 53) (h3 : t ≠ 81) (h4 : t ≠ 83) (h5 : t ≠ 3) : ¬ AS e ts.length q := by
  obtain ⟨_, hm, _⟩ := h.muB
  rintro (hh | hh | hh | hh | ⟨j, hj, hh | hh⟩)
  · exact hq.ne h.sch.blk h1 hh
  · exact hq.ne h.sch.tsk h2 hh
  · exact Ne.symm (Blk.ne h.cel hq (Ne.symm h3)) hh
  · exact hq.ne hm h4 hh
  · exact hq.ne (h.bx j _ (List.getElem?_eq_getElem hj)).sn h5 hh
  · exact hq.ne (h.bx j _ (List.getElem?_eq_getElem hj)).lf h5 hh
theorem AAt.lt (h : AAt W e sw st ts v held T) : ∀ q, AS e ts.length q → q < W.heap.size := by
  obtain ⟨_, hm, _⟩ := h.muB
  rintro q (rfl | rfl | rfl | rfl | ⟨j, hj, rfl | rfl⟩)
  · exact h.sch.blk.lt
  · exact h.sch.tsk.lt
  · exact Blk.lt h.cel
  · exact hm.lt
  · exact (h.bx j _ (List.getElem?_eq_getElem hj)).sn.lt
  · exact (h.bx j _ (List.getElem?_eq_getElem hj)).lf.lt
theorem AAt.new (h : AAt W e sw st ts v held T) (hf : Fr (fun _ => False) W W') : AAt W' e sw st ts v held T :=
  ⟨h.sch.fr hf id id, h.len, h.tk, hf.blk h.cv id, hf.blk h.mv id, hf.blk h.wv id, hf.blk h.cel id, h.mu.fr hf (fun _ _ => id), fun i t ht => ⟨hf.blk (h.bx i t ht).sn id, hf.blk (h.bx i t ht).lf id, hf.blk (h.bx i t ht).ld id, hf.blk (h.bx i t ht).se id⟩, h.d1, h.d2, h.d3⟩
/-- Task i goes on. -/
theorem AAt.put {S : Nat → Prop} (h : AAt W e sw st ts v held T) {i : Nat} {t t' : AT} (hi : ts[i]? = some t) (hf : Fr S W W') (hS : ∀ q, S q → q = e.sb ∨ q = e.tb ∨ q = e.cc ∨ q = e.mm ∨ q = e.sn i ∨ q = e.lf i) {st' : Int} {v' : Nat} {held' : Option Nat}
    (hsch : Sch W' e.sb e.tb st' (T.set i (tvA e sw i t'))) (hcel : CelI W' e.cc (v' : Int) (v' : Int)) (hmu : MuV W' (ptr e.mm) (hI held')) (hsn : Blk W' (e.sn i) [.int .i64 (t'.seen : Int)] 3) (hlf : Blk W' (e.lf i) [.int .i64 (t'.left : Int)] 3) :
    AAt W' e sw st' (ts.set i t') v' held' (T.set i (tvA e sw i t')) := by
  have hil := (List.getElem?_eq_some_iff.1 hi).1
  have hAS : ∀ q, S q → AS e ts.length q := fun q hq => by
    rcases hS q hq with hh | hh | hh | hh | hh | hh
    · exact .inl hh
    · exact .inr (.inl hh)
    · exact .inr (.inr (.inl hh))
    · exact .inr (.inr (.inr (.inl hh)))
    · exact .inr (.inr (.inr (.inr ⟨i, hil, .inl hh⟩)))
    · exact .inr (.inr (.inr (.inr ⟨i, hil, .inr hh⟩)))
  have far : ∀ {q : Nat} {cs : List Value} {t : TypeId}, Blk W q cs t → t ≠ 78 → t ≠ 53 → t ≠ 81 → t ≠ 83 → t ≠ 3 → ¬ S q := fun hq h1 h2 h3 h4 h5 hs => h.far hq h1 h2 h3 h4 h5 (hAS _ hs)
  obtain ⟨_, hm, _⟩ := h.muB
  have own : ∀ (j : Nat) (u : AT), j ≠ i → ts[j]? = some u → ¬ S (e.sn j) ∧ ¬ S (e.lf j) := fun j u hj hu => by
    have hjl := (List.getElem?_eq_some_iff.1 hu).1
    have b := h.bx j u hu
    refine ⟨fun hs => ?_, fun hs => ?_⟩
    · rcases hS _ hs with hh | hh | hh | hh | hh | hh
      · exact b.sn.ne h.sch.blk (by decide) hh
      · exact b.sn.ne h.sch.tsk (by decide) hh
      · exact Ne.symm (Blk.ne h.cel b.sn (by decide)) hh
      · exact b.sn.ne hm (by decide) hh
      · exact hj (h.d2 j i hjl hil hh)
      · exact h.d1 j i hjl hil hh
    · rcases hS _ hs with hh | hh | hh | hh | hh | hh
      · exact b.lf.ne h.sch.blk (by decide) hh
      · exact b.lf.ne h.sch.tsk (by decide) hh
      · exact Ne.symm (Blk.ne h.cel b.lf (by decide)) hh
      · exact b.lf.ne hm (by decide) hh
      · exact h.d1 i j hil hjl hh.symm
      · exact hj (h.d3 j i hjl hil hh)
  refine ⟨hsch, by rw [List.length_set, List.length_set]; exact h.len, fun j u hu => ?_, hf.blk h.cv (far h.cv (by decide) (by decide) (by decide) (by decide) (by decide)), hf.blk h.mv (far h.mv (by decide) (by decide) (by decide) (by decide) (by decide)), hf.blk h.wv (far h.wv (by decide) (by decide) (by decide) (by decide) (by decide)), hcel, hmu, fun j u hu => ?_, by simpa using h.d1, by simpa using h.d2, by simpa using h.d3⟩
  · by_cases ej : i = j
    · subst ej
      rw [List.getElem?_set_self hil] at hu
      injection hu with hu
      subst hu
      exact List.getElem?_set_self (by rw [h.len]; exact hil)
    · rw [List.getElem?_set_ne ej] at hu ⊢
      exact h.tk j u hu
  · by_cases ej : i = j
    · subst ej
      rw [List.getElem?_set_self hil] at hu
      injection hu with hu
      subst hu
      have b := h.bx i t hi
      exact ⟨hsn, hlf, hf.blk b.ld (far b.ld (by decide) (by decide) (by decide) (by decide) (by decide)), hf.blk b.se (far b.se (by decide) (by decide) (by decide) (by decide) (by decide))⟩
    · rw [List.getElem?_set_ne ej] at hu
      have b := h.bx j u hu
      obtain ⟨o1, o2⟩ := own j u (Ne.symm ej) hu
      exact ⟨hf.blk b.sn o1, hf.blk b.lf o2, hf.blk b.ld (far b.ld (by decide) (by decide) (by decide) (by decide) (by decide)), hf.blk b.se (far b.se (by decide) (by decide) (by decide) (by decide) (by decide))⟩
end
end Go.Proofs.Ytlljfopacdnpbaa
