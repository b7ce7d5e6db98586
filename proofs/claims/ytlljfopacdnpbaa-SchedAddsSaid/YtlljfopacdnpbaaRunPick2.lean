/- Tasks at work: one is picked, with what changes. Conditions: those of the lemmas. -/
import Derived.Test.YtlljfopacdnpbaaRPick
namespace Go.Proofs.Ytlljfopacdnpbaa
open Go.RowKit
section
variable {w W : World} {E : Env} {tb : Nat} {st : Int} {ls : List PT} {pos : Nat → Nat} {s : St} {T : List TV}
theorem run_pick2 (h : Run w W E tb st ls pos s T) (n : Int) :
    Calls Try.prog 12 #[.pointer (some ⟨E.sb, 0, none⟩), .int .i64 n] W fun e w' =>
      (readies ls pos s = [] ∧ e = .returned (.tuple #[.int .i64 0, .bool false]) ∧ Fr (fun _ => False) W w') ∨
      ∃ i p x T', turn (readies ls pos s) n = some i ∧ ls[i]? = some p ∧ p.l[pos i]? = some x ∧ e = .returned (.tuple #[.int .i64 (i : Int), .bool true]) ∧ Fr (Mem E tb) W w' ∧ Run w w' E tb (wrap64 (st + 1)) ls (upd pos i (pos i + 1)) (stepK x i s) T' := by
  have hrs : rdys T (upH ls pos s) T.length = readies ls pos s := by
    unfold rdys readies
    rw [h.len]
    exact List.filter_congr (fun k _ => h.ready k)
  have hp := pick_go h.sch h.mu n (Q := fun i W0 w' => Fr (Mem E tb) W0 w' ∧ ∃ p x T', ls[i]? = some p ∧ p.l[pos i]? = some x ∧ Run w w' E tb (wrap64 (st + 1)) ls (upd pos i (pos i + 1)) (stepK x i s) T') (fun k hk W0 hf => by
    rw [hrs] at hk
    have hm := turn_mem hk
    unfold readies at hm
    obtain ⟨p, x, hpk, hxk, hr⟩ := ready_out' (List.mem_filter.1 hm).2
    refine (run_step (h.new hf) hpk hxk hr).mono ?_
    rintro e w' ⟨rfl, hf', T', hR⟩
    exact ⟨rfl, hf'.mono (fun q _ hq => h.lt q hq), hf', p, x, T', hpk, hxk, hR⟩)
  rw [hrs] at hp
  refine hp.mono ?_
  rintro e w' (⟨h0, rfl, hf⟩ | ⟨k, W0, hk, rfl, hf, hf', p, x, T', a1, a2, a4⟩)
  · exact .inl ⟨h0, rfl, hf⟩
  · exact .inr ⟨k, p, x, T', hk, a1, a2, rfl, (hf.mono (fun _ _ h => h.elim)).trans hf' (fun _ _ h => h), a4⟩
end
end Go.Proofs.Ytlljfopacdnpbaa
