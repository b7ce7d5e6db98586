/- Tasks that add to a cell: how many steps are left, and that nothing is lost. Conditions: those of the lemmas. -/
import Derived.Test.YtlljfopacdnpbaaRuns
namespace Go.Proofs.Ytlljfopacdnpbaa
open Go.RowKit
/-- A task that adds: how often still, what it has seen, and where it is (0: ahead of its load, 1: ahead of its store, 2: done). -/
structure AT where
  left : Nat
  seen : Nat
  ph : Nat
def wt (v : Nat) (t : AT) : Nat := 16 * t.left + (if t.ph = 0 then 2 else if t.ph = 1 then (if t.seen = v then 1 else 3) else 0)
def loadA (v : Nat) (t : AT) : AT := ⟨t.left, v, 1⟩
def doneA (t : AT) : AT := ⟨t.left - 1, t.seen, if t.left = 1 then 2 else 0⟩
def backA (t : AT) : AT := ⟨t.left, t.seen, 0⟩
theorem sum_set {α : Type} (f : α → Nat) : ∀ (l : List α) (i : Nat) (a b : α), l[i]? = some a → ((l.set i b).map f).sum + f a = (l.map f).sum + f b
  | [], _, _, _, h => by simp at h
  | x :: l, 0, a, b, h => by
    simp at h
    subst h
    simp only [List.set_cons_zero, List.map_cons, List.sum_cons]
    omega
  | x :: l, i + 1, a, b, h => by
    have := sum_set f l i a b (by simpa using h)
    simp only [List.set_cons_succ, List.map_cons, List.sum_cons]
    omega
theorem sum_le {α : Type} (f g : α → Nat) (c : Nat) (h : ∀ a, f a ≤ g a + c) : ∀ l : List α, (l.map f).sum ≤ (l.map g).sum + c * l.length
  | [] => by simp
  | x :: l => by
    have h1 := h x
    have h2 := sum_le f g c h l
    simp only [List.map_cons, List.sum_cons, List.length_cons, Nat.mul_add, Nat.mul_one]
    omega
theorem sum_zero {α : Type} (f : α → Nat) (l : List α) (h : ∀ a ∈ l, f a = 0) : (l.map f).sum = 0 := by
  induction l with
  | nil => rfl
  | cons x l ih =>
    rw [List.map_cons, List.sum_cons, h x (by simp), ih (fun a ha => h a (by simp [ha]))]
theorem wt_next (v : Nat) (t : AT) : wt (v + 1) t ≤ wt v t + 2 := by
  unfold wt
  split
  · omega
  · split
    · split <;> split <;> omega
    · omega
def tot (v : Nat) (ts : List AT) : Nat := (ts.map (wt v)).sum
theorem tot_load {v : Nat} {ts : List AT} {i : Nat} {t : AT} (h : ts[i]? = some t) (h0 : t.ph = 0) : tot v (ts.set i (loadA v t)) + 1 = tot v ts := by
  have := sum_set (wt v) ts i t (loadA v t) h
  have e1 : wt v t = 16 * t.left + 2 := by unfold wt; rw [if_pos h0]
  have e2 : wt v (loadA v t) = 16 * t.left + 1 := by simp [wt, loadA]
  unfold tot
  omega
theorem tot_back {v : Nat} {ts : List AT} {i : Nat} {t : AT} (h : ts[i]? = some t) (h1 : t.ph = 1) (hs : t.seen ≠ v) : tot v (ts.set i (backA t)) + 1 = tot v ts := by
  have := sum_set (wt v) ts i t (backA t) h
  have e1 : wt v t = 16 * t.left + 3 := by simp [wt, h1, hs]
  have e2 : wt v (backA t) = 16 * t.left + 2 := by simp [wt, backA]
  unfold tot
  omega
theorem tot_done {v : Nat} {ts : List AT} {i : Nat} {t : AT} (h : ts[i]? = some t) (h1 : t.ph = 1) (hs : t.seen = v) (hl : 1 ≤ t.left) (h8 : ts.length ≤ 8) : tot (v + 1) (ts.set i (doneA t)) + 1 ≤ tot v ts := by
  have a1 := sum_set (wt (v + 1)) ts i t (doneA t) h
  have a2 := sum_le (wt (v + 1)) (wt v) 2 (wt_next v) ts
  have e1 : wt (v + 1) t = 16 * t.left + 3 := by
    unfold wt
    rw [if_neg (by omega), if_pos h1, if_neg (by omega)]
  have e2 : wt (v + 1) (doneA t) ≤ 16 * (t.left - 1) + 2 := by
    unfold wt doneA
    simp only
    by_cases e1 : t.left = 1
    · simp [e1]
    · simp [e1]
  unfold tot
  omega
/-- What holds of the tasks all along. -/
structure AInv (sw : Bool) (want : Nat) (ts : List AT) (v : Nat) (held : Option Nat) : Prop where
  sum : (ts.map (·.left)).sum + v = want
  ok : ∀ (i : Nat) (t : AT), ts[i]? = some t → (t.ph = 2 ↔ t.left = 0) ∧ t.ph ≤ 2 ∧ (t.ph = 1 → t.seen ≤ v)
  free : sw = true → held = none
  lock : sw = false → ∀ (i : Nat) (t : AT), ts[i]? = some t → t.ph = 1 → held = some i ∧ t.seen = v
  own : ∀ i, held = some i → ∃ t, ts[i]? = some t ∧ t.ph = 1
  few : ts.length ≤ 8
def rdyB (sw : Bool) (ts : List AT) (held : Option Nat) (i : Nat) : Bool := match ts[i]? with
  | some t => t.ph == 1 || (t.ph == 0 && (sw || held.isNone))
  | none => false
theorem rdyB_some {sw : Bool} {ts : List AT} {held : Option Nat} {i : Nat} {t : AT} (h : ts[i]? = some t) : rdyB sw ts held i = (t.ph == 1 || (t.ph == 0 && (sw || held.isNone))) := by
  unfold rdyB
  rw [h]
section
variable {sw : Bool} {want : Nat} {ts : List AT} {v : Nat} {held : Option Nat}
/-- Nobody is ready: all is added. -/
theorem AInv.over (h : AInv sw want ts v held) (hr : ∀ i, i < ts.length → rdyB sw ts held i = false) : v = want ∧ held = none := by
  have h1 : ∀ (i : Nat) (t : AT), ts[i]? = some t → t.ph ≠ 1 := fun i t ht e => by
    have := hr i (List.getElem?_eq_some_iff.1 ht).1
    rw [rdyB_some ht, e] at this
    simp at this
  have h2 : held = none := by
    rcases Option.eq_none_or_eq_some held with e | ⟨j, e⟩
    · exact e
    · obtain ⟨t, ht, hp⟩ := h.own j e
      exact absurd hp (h1 j t ht)
  refine ⟨?_, h2⟩
  have hz : ∀ t ∈ ts, t.left = 0 := fun t ht => by
    obtain ⟨i, hi, rfl⟩ := List.mem_iff_getElem.1 ht
    have hti : ts[i]? = some ts[i] := List.getElem?_eq_getElem hi
    obtain ⟨k1, k2, _⟩ := h.ok i _ hti
    have := hr i hi
    rw [rdyB_some hti, h2] at this
    have h3 := h1 i _ hti
    refine k1.1 ?_
    have h4 : ts[i].ph ≠ 0 := fun e => by rw [e] at this; simp at this
    omega
  have := h.sum
  rw [sum_zero _ _ hz] at this
  omega
theorem AInv.le (h : AInv sw want ts v held) : v ≤ want := by have := h.sum; omega
theorem AInv.load (h : AInv sw want ts v held) {i : Nat} {t : AT} (ht : ts[i]? = some t) (h0 : t.ph = 0) (hr : rdyB sw ts held i = true) : AInv sw want (ts.set i (loadA v t)) v (if sw then held else some i) := by
  have hil := (List.getElem?_eq_some_iff.1 ht).1
  have hs := sum_set (·.left) ts i t (loadA v t) ht
  have hw : sw = false → held = none := fun e => by
    rw [rdyB_some ht, h0, e] at hr
    simpa using hr
  have get : ∀ (j : Nat) (u : AT), (ts.set i (loadA v t))[j]? = some u → (j = i ∧ u = loadA v t) ∨ (j ≠ i ∧ ts[j]? = some u) := fun j u hu => by
    by_cases e : i = j
    · subst e
      rw [List.getElem?_set_self hil] at hu
      injection hu with hu
      exact .inl ⟨rfl, hu.symm⟩
    · rw [List.getElem?_set_ne e] at hu
      exact .inr ⟨Ne.symm e, hu⟩
  refine ⟨?_, fun j u hu => ?_, fun e => by rw [if_pos e]; exact h.free e, fun e j u hu hp => ?_, fun j hj => ?_, by rw [List.length_set]; exact h.few⟩
  · have := h.sum
    simp only [loadA] at hs ⊢
    omega
  · rcases get j u hu with ⟨rfl, rfl⟩ | ⟨hn, hu⟩
    · obtain ⟨k1, _, _⟩ := h.ok _ t ht
      refine ⟨⟨fun e => by simp [loadA] at e, fun e => ?_⟩, by simp [loadA], fun _ => by simp [loadA]⟩
      have := k1.2 (by simpa [loadA] using e)
      omega
    · exact h.ok j u hu
  · rw [e]
    simp only [Bool.false_eq_true, if_false]
    rcases get j u hu with ⟨rfl, rfl⟩ | ⟨hn, hu⟩
    · exact ⟨rfl, rfl⟩
    · have := (h.lock e j u hu hp).1
      rw [hw e] at this
      cases this
  · cases hsw : sw
    · rw [hsw] at hj
      simp only [Bool.false_eq_true, if_false] at hj
      injection hj with hj
      subst hj
      exact ⟨_, List.getElem?_set_self hil, rfl⟩
    · rw [hsw, if_pos rfl, h.free hsw] at hj
      cases hj
theorem AInv.back (h : AInv sw want ts v held) {i : Nat} {t : AT} (ht : ts[i]? = some t) (h1 : t.ph = 1) (hsw : sw = true) : AInv sw want (ts.set i (backA t)) v held := by
  have hil := (List.getElem?_eq_some_iff.1 ht).1
  have hs := sum_set (·.left) ts i t (backA t) ht
  have get : ∀ (j : Nat) (u : AT), (ts.set i (backA t))[j]? = some u → (j = i ∧ u = backA t) ∨ (j ≠ i ∧ ts[j]? = some u) := fun j u hu => by
    by_cases e : i = j
    · subst e
      rw [List.getElem?_set_self hil] at hu
      injection hu with hu
      exact .inl ⟨rfl, hu.symm⟩
    · rw [List.getElem?_set_ne e] at hu
      exact .inr ⟨Ne.symm e, hu⟩
  refine ⟨?_, fun j u hu => ?_, h.free, fun e => (by rw [hsw] at e; cases e), fun j hj => (by rw [h.free hsw] at hj; cases hj), by rw [List.length_set]; exact h.few⟩
  · have := h.sum
    simp only [backA] at hs ⊢
    omega
  · rcases get j u hu with ⟨rfl, rfl⟩ | ⟨hn, hu⟩
    · obtain ⟨k1, _, _⟩ := h.ok _ t ht
      refine ⟨⟨fun e => by simp [backA] at e, fun e => ?_⟩, by simp [backA], fun e => by simp [backA] at e⟩
      have := k1.2 (by simpa [backA] using e)
      omega
    · exact h.ok j u hu
theorem AInv.done (h : AInv sw want ts v held) {i : Nat} {t : AT} (ht : ts[i]? = some t) (h1 : t.ph = 1) (hs : t.seen = v) : 1 ≤ t.left ∧ AInv sw want (ts.set i (doneA t)) (v + 1) (if sw then held else none) := by
  have hil := (List.getElem?_eq_some_iff.1 ht).1
  have hm := sum_set (·.left) ts i t (doneA t) ht
  obtain ⟨k1, k2, _⟩ := h.ok _ t ht
  have hl : 1 ≤ t.left := by
    rcases Nat.eq_zero_or_pos t.left with e | e
    · have := k1.2 e; omega
    · exact e
  have get : ∀ (j : Nat) (u : AT), (ts.set i (doneA t))[j]? = some u → (j = i ∧ u = doneA t) ∨ (j ≠ i ∧ ts[j]? = some u) := fun j u hu => by
    by_cases e : i = j
    · subst e
      rw [List.getElem?_set_self hil] at hu
      injection hu with hu
      exact .inl ⟨rfl, hu.symm⟩
    · rw [List.getElem?_set_ne e] at hu
      exact .inr ⟨Ne.symm e, hu⟩
  refine ⟨hl, ?_, fun j u hu => ?_, fun e => by rw [if_pos e]; exact h.free e, fun e j u hu hp => ?_, fun j hj => ?_, by rw [List.length_set]; exact h.few⟩
  · have := h.sum
    simp only [doneA] at hm ⊢
    omega
  · rcases get j u hu with ⟨rfl, rfl⟩ | ⟨hn, hu⟩
    · unfold doneA
      simp only
      by_cases e : t.left = 1
      · rw [if_pos e, e]
        exact ⟨⟨fun _ => rfl, fun _ => rfl⟩, by omega, fun e => by omega⟩
      · rw [if_neg e]
        exact ⟨⟨fun e => by omega, fun e => by omega⟩, by omega, fun e => by omega⟩
    · obtain ⟨a1, a2, a3⟩ := h.ok j u hu
      exact ⟨a1, a2, fun e => by have := a3 e; omega⟩
  · rcases get j u hu with ⟨rfl, rfl⟩ | ⟨hn, hu⟩
    · unfold doneA at hp
      simp only at hp
      split at hp <;> omega
    · have a := (h.lock e j u hu hp).1
      have b := (h.lock e i t ht h1).1
      rw [a] at b
      injection b with b
      exact absurd b hn
  · cases hsw : sw
    · rw [hsw] at hj
      simp at hj
    · rw [hsw, if_pos rfl, h.free hsw] at hj
      cases hj
end
end Go.Proofs.Ytlljfopacdnpbaa
