/- Tasks at work: one is picked. Conditions: those of the lemmas. -/
import Derived.Test.YtlljfopacdnpbaaRunStep
namespace Go.Proofs.Ytlljfopacdnpbaa
open Go.RowKit
def readies (ls : List PT) (pos : Nat → Nat) (s : St) : List Nat := (List.range ls.length).filter (readyA ls pos s)
theorem ready_out' {ls : List PT} {pos : Nat → Nat} {s : St} {i : Nat} (h : readyA ls pos s i = true) : ∃ p x, ls[i]? = some p ∧ p.l[pos i]? = some x ∧ (0 < x.mutex → s.held (x.mutex.toNat - 1) = none) := by
  unfold readyA at h
  rcases Option.eq_none_or_eq_some (ls[i]?) with hp | ⟨p, hp⟩
  · rw [hp] at h; cases h
  · rw [hp] at h
    simp only at h
    rcases Option.eq_none_or_eq_some (p.l[pos i]?) with hx | ⟨x, hx⟩
    · rw [hx] at h; cases h
    · rw [hx] at h
      simp only at h
      refine ⟨p, x, hp, hx, fun hm => ?_⟩
      rw [if_pos hm] at h
      simpa using h
theorem turn_mem {l : List Nat} {n : Int} {k : Nat} (h : turn l n = some k) : k ∈ l := List.mem_of_getElem? h
section
variable {w W : World} {E : Env} {tb : Nat} {st : Int} {ls : List PT} {pos : Nat → Nat} {s : St} {T : List TV}
theorem run_pick (h : Run w W E tb st ls pos s T) (n : Int) :
    Calls Try.prog 12 #[.pointer (some ⟨E.sb, 0, none⟩), .int .i64 n] W fun e w' =>
      (readies ls pos s = [] ∧ e = .returned (.tuple #[.int .i64 0, .bool false]) ∧ Run w w' E tb st ls pos s T) ∨
      ∃ i p x T', turn (readies ls pos s) n = some i ∧ ls[i]? = some p ∧ p.l[pos i]? = some x ∧ (0 < x.mutex → s.held (x.mutex.toNat - 1) = none) ∧ e = .returned (.tuple #[.int .i64 (i : Int), .bool true]) ∧ Run w w' E tb (wrap64 (st + 1)) ls (upd pos i (pos i + 1)) (stepK x i s) T' := by
  have hrs : rdys T (upH ls pos s) T.length = readies ls pos s := by
    unfold rdys readies
    rw [h.len]
    exact List.filter_congr (fun k _ => h.ready k)
  have hp := pick_go h.sch h.mu n (Q := fun i W0 w' => ∃ p x T', ls[i]? = some p ∧ p.l[pos i]? = some x ∧ (0 < x.mutex → s.held (x.mutex.toNat - 1) = none) ∧ Run w w' E tb (wrap64 (st + 1)) ls (upd pos i (pos i + 1)) (stepK x i s) T') (fun k hk W0 hf => by
    rw [hrs] at hk
    have hm := turn_mem hk
    unfold readies at hm
    obtain ⟨p, x, hpk, hxk, hr⟩ := ready_out' (List.mem_filter.1 hm).2
    refine (run_step (h.new hf) hpk hxk hr).mono ?_
    rintro e w' ⟨rfl, hf', T', hR⟩
    exact ⟨rfl, hf'.mono (fun q _ hq => h.lt q hq), p, x, T', hpk, hxk, hr, hR⟩)
  rw [hrs] at hp
  refine hp.mono ?_
  rintro e w' (⟨h0, rfl, hf⟩ | ⟨k, W0, hk, rfl, hf, p, x, T', a1, a2, a3, a4⟩)
  · exact .inl ⟨h0, rfl, h.new hf⟩
  · exact .inr ⟨k, p, x, T', hk, a1, a2, a3, rfl, a4⟩
end
end Go.Proofs.Ytlljfopacdnpbaa
