/- Tasks at work: the scheduler, the world, where each task is. Conditions: those of the lemmas. -/
import Derived.Test.YtlljfopacdnpbaaClos
namespace Go.Proofs.Ytlljfopacdnpbaa
open Go.RowKit
structure PT where
  A : Option Addr
  cp : Nat
  l : List Ins
def Mem (E : Env) (tb : Nat) (q : Nat) : Prop := E.mem q ∨ q = E.sb ∨ q = tb
structure Run (w W : World) (E : Env) (tb : Nat) (st : Int) (ls : List PT) (pos : Nat → Nat) (s : St) (T : List TV) : Prop where
  wd : WdAt W E s
  sch : Sch W E.sb tb st T
  len : T.length = ls.length
  tk : ∀ i p, ls[i]? = some p → ∃ n, T[i]? = some (nextV E p.l (pos i) n) ∧ (pos i < p.l.length → Tk W E.wb p.A p.cp p.l (pos i) n ∧ ∀ q, Mem E tb q → ¬ (n ≤ q ∧ q < n + 5))
  rd : ∀ p ∈ ls, Rd W p.A (insR p.l) ∧ (∀ ad, p.A = some ad → ¬ Mem E tb ad.block) ∧ (∀ x ∈ p.l, x.ok) ∧ p.l.length ≤ 60
  kn : s.known.length = ls.length
  hp : ∀ k v, s.held k = some v → 0 ≤ v
  fr : Fr (fun _ => False) w W
  nw : ∀ q, Mem E tb q → w.heap.size ≤ q
/-- The step x begins: the mutex is had. -/
def takeK (x : Ins) (slot : Nat) (s : St) : St := if 0 < x.mutex then { s with held := upd s.held (x.mutex.toNat - 1) (some (slot : Int)) } else s
def stepK (x : Ins) (slot : Nat) (s : St) : St := freeK x slot (doK x slot (takeK x slot s))
/-- What holds a task up. -/
def upH (ls : List PT) (pos : Nat → Nat) (s : St) (i : Nat) : Option Int := match ls[i]? with
  | some p => match p.l[pos i]? with
    | some x => if 0 < x.mutex then s.held (x.mutex.toNat - 1) else none
    | none => none
  | none => none
def readyA (ls : List PT) (pos : Nat → Nat) (s : St) (i : Nat) : Bool := match ls[i]? with
  | some p => match p.l[pos i]? with
    | some x => if 0 < x.mutex then (s.held (x.mutex.toNat - 1)).isNone else true
    | none => false
  | none => false
theorem isF_next (E : Env) (l : List Ins) (a n : Nat) : isF (nextV E l a n).1 = (l[a]?).isSome := by
  unfold nextV
  split <;> rename_i h <;> rw [h] <;> rfl
section
variable {w W : World} {E : Env} {tb : Nat} {st : Int} {ls : List PT} {pos : Nat → Nat} {s : St} {T : List TV}
theorem Run.lt (h : Run w W E tb st ls pos s T) : ∀ q, Mem E tb q → q < W.heap.size := by
  rintro q ((rfl | ⟨k, hk, rfl | rfl⟩) | rfl | rfl)
  · obtain ⟨_, hc⟩ := h.wd.knB; exact hc.lt
  · exact Blk.lt (h.wd.cel k hk)
  · obtain ⟨_, hc, _⟩ := h.wd.muB hk; exact hc.lt
  · exact h.sch.blk.lt
  · exact h.sch.tsk.lt
theorem Run.new (h : Run w W E tb st ls pos s T) {W' : World} (hf : Fr (fun _ => False) W W') : Run w W' E tb st ls pos s T :=
  ⟨h.wd.new hf, h.sch.fr hf id id, h.len, fun i p hi => by obtain ⟨n, h1, h2⟩ := h.tk i p hi; exact ⟨n, h1, fun hl => ⟨(h2 hl).1.fr hf (fun _ _ _ => id), (h2 hl).2⟩⟩, fun p hp => ⟨(h.rd p hp).1.fr hf (fun _ _ => id), (h.rd p hp).2⟩, h.kn, h.hp, h.fr.trans hf (fun _ _ h => h), h.nw⟩
theorem muNone (W : World) : MuV W (.pointer none) none := .inl ⟨rfl, rfl⟩
theorem Run.mu (h : Run w W E tb st ls pos s T) : ∀ k p, T[k]? = some p → isF p.1 = true → MuV W p.2 (upH ls pos s k) := by
  intro k p hk hF
  have hkl : k < ls.length := by rw [← h.len]; exact (List.getElem?_eq_some_iff.1 hk).1
  have hls : ls[k]? = some ls[k] := List.getElem?_eq_getElem hkl
  obtain ⟨n, h1, _⟩ := h.tk k _ hls
  rw [hk] at h1
  injection h1 with h1
  subst h1
  unfold upH
  rw [hls]
  simp only
  rw [isF_next] at hF
  obtain ⟨x, hx⟩ := Option.isSome_iff_exists.1 hF
  unfold nextV
  rw [hx]
  simp only
  unfold onV
  have hok := (h.rd _ (List.getElem_mem hkl)).2.2.1 x (List.mem_of_getElem? hx)
  split
  · exact h.wd.mux _ (by have := hok.2.1; omega)
  · exact muNone W
theorem Run.ready (h : Run w W E tb st ls pos s T) (k : Nat) : rdy T (upH ls pos s) k = readyA ls pos s k := by
  by_cases hkl : k < ls.length
  · have hls : ls[k]? = some ls[k] := List.getElem?_eq_getElem hkl
    obtain ⟨n, h1, _⟩ := h.tk k _ hls
    rw [rdy_at h1, isF_next]
    unfold upH readyA
    rw [hls]
    simp only
    rcases Option.eq_none_or_eq_some ((ls[k].l)[pos k]?) with hx | ⟨x, hx⟩
    · simp only [hx]
      rfl
    · simp only [hx, Option.isSome_some, Bool.true_and]
      by_cases hm : 0 < x.mutex
      · simp only [hm, if_true]
        rcases Option.eq_none_or_eq_some (s.held (x.mutex.toNat - 1)) with hh | ⟨v, hh⟩
        · simp only [hh]
          rfl
        · have := h.hp _ v hh
          simp only [hh, Option.getD_some, Option.isNone_some, decide_eq_false_iff_not]
          omega
      · simp only [hm, if_false]
        rfl
  · unfold rdy readyA
    have : T[k]? = none := List.getElem?_eq_none (by rw [h.len]; omega)
    rw [List.getD_eq_getElem?_getD, this, List.getElem?_eq_none (by omega)]
    rfl
end
end Go.Proofs.Ytlljfopacdnpbaa
