/- A named task steps, or is taken away, with the reference beside it. Conditions: those of the lemmas. -/
import Derived.Test.YtlljfopacdnpbaaRuns
namespace Go.Proofs.Ytlljfopacdnpbaa
open Go.RowKit
section
variable {w W W' : World} {E : Env} {tb mb : Nat} {R : RE} {st : Int} {ls : List PT} {pos : Nat → Nat} {s : St} {T : List TV} {ts : List RT}
theorem nextV_none (E : Env) {l : List Ins} {a : Nat} (h : l[a]? = none) (n : Nat) : nextV E l a n = (.nilFunc, .pointer none) := by
  unfold nextV
  rw [h]
/-- A task is taken away. -/
theorem Run.drop (h : Run w W E tb st ls pos s T) {k : Nat} {p : PT} (hk : ls[k]? = some p) : Calls Try.prog 32 #[.pointer (some ⟨E.sb, 0, none⟩), .int .i64 (k : Int)] W fun e w' => e = .returned (.tuple #[]) ∧ Fr (Mem E tb) W w' ∧ ∃ T', Run w w' E tb st ls (upd pos k p.l.length) s T' := by
  obtain ⟨n, h1, h2⟩ := h.tk k p hk
  have hkl := (List.getElem?_eq_some_iff.1 hk).1
  refine (drop_in h.sch h1).mono ?_
  rintro e w' ⟨rfl, hs, hf⟩
  obtain ⟨a1, a2, a3, a4, a5, a6⟩ := h.parts (S := fun q => q = tb) (fun q hq => .inr hq)
  refine ⟨rfl, hf.mono (fun q _ hq => .inr (.inr hq)), _, h.wd.fr hf a1 a2 a3 a4 a5 a6, hs, ?_, fun i q hi => ?_, fun q hq => ⟨(h.rd q hq).1.fr hf (fun ad e hh => (h.rd q hq).2.1 ad e (.inr (.inr hh))), (h.rd q hq).2⟩, h.kn, h.hp, h.fr.trans hf (fun q _ hh => by have := h.nw q (.inr (.inr hh)); omega), h.nw⟩
  · split
    · rw [List.length_set]; exact h.len
    · exact h.len
  · by_cases e : i = k
    · subst e
      rw [hk] at hi
      injection hi with hi
      subst hi
      refine ⟨n, ?_, fun hl => by rw [upd_same] at hl; omega⟩
      rw [upd_same, nextV_none E (List.getElem?_eq_none (Nat.le_refl _))]
      split
      · exact List.getElem?_set_self (by rw [h.len]; exact hkl)
      · rename_i hF
        rw [isF_next] at hF
        rw [h1, nextV_none E (by simpa using hF)]
    · obtain ⟨m, g1, g2⟩ := h.tk i q hi
      refine ⟨m, ?_, fun hl => ?_⟩
      · rw [upd_ne _ _ e]
        split
        · rw [List.getElem?_set_ne (Ne.symm e)]; exact g1
        · exact g1
      · rw [upd_ne _ _ e] at hl ⊢
        obtain ⟨g3, g4⟩ := g2 hl
        exact ⟨g3.fr hf (fun q h1 h2 hh => g4 q (.inr (.inr hh)) ⟨h1, h2⟩), g4⟩
/-- And the reference is told that it is gone. -/
theorem two_gone {k : Nat} {p : PT} (hR : Run w W E tb st ls (upd pos k p.l.length) s T) (hA : RefAt W mb R ls ts pos s st) (hsep : ∀ q, Mem E tb q → ¬ rS mb R q) (hlow : ∀ q, rS mb R q → w.heap.size ≤ q) (hlst : ∀ p ∈ ls, ∀ ad, p.A = some ad → ad.block < w.heap.size) {t : RT} (hp : ls[k]? = some p) (ht : ts[k]? = some t) :
    Two w (W.setCell ⟨R.tb, k * 4 + 3, none⟩ (.bool true)) E tb mb R st ls (upd pos k p.l.length) s T (ts.set k { t with gone := true }) := by
  have hf : Fr (rS mb R) W (W.setCell ⟨R.tb, k * 4 + 3, none⟩ (.bool true)) := (Fr.refl _ W).setCell _ _ (fun _ => .inr (.inl rfl))
  refine ⟨run_rS hR hA hsep hlow hf, hA.setTask hp ht 3 (by decide) _ { t with gone := true } rfl rfl rfl rfl hA.kl (fun j q u hq hu => ?_), hsep, hlow, hlst⟩
  have hil := (List.getElem?_eq_some_iff.1 ht).1
  obtain ⟨k1, k2, k3, k4⟩ := hA.ok k p t hp ht
  by_cases e : k = j
  · subst e
    rw [List.getElem?_set_self hil] at hu
    injection hu with hu
    subst hu
    rw [hp] at hq
    injection hq with hq
    subst hq
    refine ⟨k1, fun _ => ?_, fun hg => by simp at hg, k4⟩
    rw [upd_same]
    exact List.getElem?_eq_none (Nat.le_refl _)
  · rw [List.getElem?_set_ne e] at hu
    rw [upd_ne _ _ (Ne.symm e)]
    exact hA.ok j q u hq hu
/-- What a named step answers. -/
def StepOut (w W' : World) (E : Env) (tb : Nat) (st : Int) (ls : List PT) (pos : Nat → Nat) (s : St) (W : World) (n c : Int) : Prop :=
  (c = 1 ∧ (n < 0 ∨ (ls.length : Int) ≤ n) ∧ W = W') ∨
  ∃ (k : Nat) (p : PT), n = (k : Int) ∧ ls[k]? = some p ∧
    ((c = 9 ∧ p.l[pos k]? = none ∧ W = W') ∨
     ∃ x, p.l[pos k]? = some x ∧ ((c = 11 ∧ readyA ls pos s k = false ∧ W = W') ∨ (c = 0 ∧ readyA ls pos s k = true ∧ Fr (Mem E tb) W W' ∧ ∃ T', Run w W' E tb (wrap64 (st + 1)) ls (upd pos k (pos k + 1)) (stepK x k s) T')))
theorem Run.step (h : Run w W E tb st ls pos s T) (n : Int) : Calls Try.prog 33 #[.pointer (some ⟨E.sb, 0, none⟩), .int .i64 n] W fun e w' => ∃ c, e = .returned (.int .i64 c) ∧ StepOut w w' E tb st ls pos s W n c := by
  by_cases ho : n < 0 ∨ (ls.length : Int) ≤ n
  · refine (step_out h.sch n (by rw [h.len]; exact ho)).mono ?_
    rintro e w' ⟨rfl, hw⟩
    exact ⟨1, rfl, .inl ⟨rfl, ho, hw⟩⟩
  · obtain ⟨k, rfl⟩ : ∃ k : Nat, n = (k : Int) := ⟨n.toNat, by omega⟩
    have hkl : k < ls.length := by omega
    have hp : ls[k]? = some ls[k] := List.getElem?_eq_getElem hkl
    generalize ls[k] = p at hp
    obtain ⟨m, h1, h2⟩ := h.tk k p hp
    rcases Option.eq_none_or_eq_some (p.l[pos k]?) with hx | ⟨x, hx⟩
    · refine (step_dead h.sch h1 (by rw [isF_next, hx]; rfl)).mono ?_
      rintro e w' ⟨rfl, hw⟩
      exact ⟨9, rfl, .inr ⟨k, p, rfl, hp, .inl ⟨rfl, hx, hw⟩⟩⟩
    · have hok := (h.rd p (List.mem_of_getElem? hp)).2.2.1 x (List.mem_of_getElem? hx)
      have hra := readyA_some (pos := pos) (s := s) hp hx
      have hF : isF (nextV E p.l (pos k) m).1 = true := by rw [isF_next, hx]; rfl
      cases hr : readyA ls pos s k
      · have hm := h.mu k _ h1 hF
        have hrd := h.ready k
        rw [rdy_at h1, hF, hr, Bool.true_and, decide_eq_false_iff_not] at hrd
        refine (step_busy h.sch h1 hF hm (by omega)).mono ?_
        rintro e w' ⟨rfl, hw⟩
        exact ⟨11, rfl, .inr ⟨k, p, rfl, hp, .inr ⟨x, hx, .inl ⟨rfl, hr, hw⟩⟩⟩⟩
      · refine (run_step h hp hx (fun hm => ?_)).mono ?_
        · rw [hr, if_pos hm] at hra
          simpa using hra.symm
        · rintro e w' ⟨rfl, hf, T', hR⟩
          exact ⟨0, rfl, .inr ⟨k, p, rfl, hp, .inr ⟨x, hx, .inr ⟨rfl, hr, hf, T', hR⟩⟩⟩⟩
/-- What is read of a task of the reference. -/
theorem RefAt.task (hA : RefAt W mb R ls ts pos s st) {k : Nat} {p : PT} (hp : ls[k]? = some p) : ∃ t : RT, ts[k]? = some t ∧
    W.cell? ⟨mb, 0, none⟩ = some (.slice (some ⟨R.tb, 0, none⟩) ls.length R.tc) ∧ W.cell? ⟨R.tb, k * 4, none⟩ = some (.slice p.A p.l.length p.cp) ∧ W.cell? ⟨R.tb, k * 4 + 1, none⟩ = some (.int .i64 (t.at_ : Int)) ∧ W.cell? ⟨R.tb, k * 4 + 3, none⟩ = some (.bool t.gone) ∧ W.frozen? ⟨R.tb, k * 4 + 3, none⟩ = false ∧ R.tb < W.heap.size ∧
    (t.gone = true → p.l[pos k]? = none) ∧ (t.gone = false → t.at_ = pos k) := by
  have hkl := (List.getElem?_eq_some_iff.1 hp).1
  have ht : ts[k]? = some (ts[k]'(by rw [hA.len]; exact hkl)) := List.getElem?_eq_getElem _
  refine ⟨_, ht, hA.obj.cell 0 rfl, ?_, hA.tasks.cell k 1 (tksV_at hp ht) rfl, hA.tasks.cell k 3 (tksV_at hp ht) rfl, hA.tasks.free _, hA.lt.2 _ (.inl rfl), (hA.ok k p _ hp ht).2.1, (hA.ok k p _ hp ht).2.2.1⟩
  have := hA.tasks.cell k 0 (tksV_at hp ht) rfl
  rwa [Nat.add_zero] at this
end
end Go.Proofs.Ytlljfopacdnpbaa
