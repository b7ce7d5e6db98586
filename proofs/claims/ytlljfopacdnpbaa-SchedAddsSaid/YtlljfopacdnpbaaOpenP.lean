/- A slice of programs that came in. Conditions: none. -/
import Derived.Test.YtlljfopacdnpbaaRuns
import Derived.Test.YtlljfopacdnpbaaOpenB
namespace Go.Proofs.Ytlljfopacdnpbaa
open Go.ChangeShapes Go.WideShapes Go.ChangeAt Go.RowKit Go.Deep
section
variable {H : Type} {enc : TypeId × Value → H} {w : World}
theorem ins_el (n : Nat) (cs : List Value) (y : DataW H × List MemPlace) (h : DataW.trod enc Try.prog w 0 (fun _ => true) true n 73 cs = some y) (hl : cs.length = 5) : ∃ x : Ins, cs = insV x := by
  have g := cells_one Try.underlying73 (by kernel_rfl) h hl
  obtain ⟨v0, m0, y0, e0, h0⟩ := g 0 _ rfl
  obtain ⟨v1, m1, y1, e1, h1⟩ := g 1 _ rfl
  obtain ⟨v2, m2, y2, e2, h2⟩ := g 2 _ rfl
  obtain ⟨v3, m3, y3, e3, h3⟩ := g 3 _ rfl
  obtain ⟨v4, m4, y4, e4, h4⟩ := g 4 _ rfl
  obtain ⟨x0, hx0, _⟩ := DataW.trod_int Try.underlying3 h0
  obtain ⟨x1, hx1, _⟩ := DataW.trod_int Try.underlying3 h1
  obtain ⟨x2, hx2, _⟩ := DataW.trod_int Try.underlying3 h2
  obtain ⟨x3, hx3, _⟩ := DataW.trod_int Try.underlying3 h3
  obtain ⟨x4, hx4, _⟩ := DataW.trod_int Try.underlying3 h4
  refine ⟨⟨x0, x1, x2, x3, x4⟩, ?_⟩
  match cs, hl with
  | [c0, c1, c2, c3, c4], _ =>
    simp at e0 e1 e2 e3 e4 hx0 hx1 hx2 hx3 hx4
    subst e0 e1 e2 e3 e4 hx0 hx1 hx2 hx3 hx4
    rfl
theorem open_prog {a : Option Addr} {len cap : Nat} {d : DataW H} {p : List MemPlace} (h : DataW.Trod enc Try.prog w 0 (fun _ => true) true 67 (.slice a len cap) d p) : ∃ l : List Ins, l.length = len ∧ Rd w a (insR l) := by
  obtain ⟨s, hs, _, _, _, hr⟩ := open_structs insV 5 (by decide) (fun _ => rfl) Try.underlying67 (by kernel_rfl) (fun n cs y h hl => ins_el n cs y h hl) h
  exact ⟨s, hs, hr⟩
theorem prog_cell {n : Nat} {v : Value} {y : DataW H × List MemPlace} (h : DataW.trod enc Try.prog w 0 (fun _ => true) true n 67 [v] = some y) : ∃ p : PT, v = ptV p ∧ Rd w p.A (insR p.l) := by
  have hv : ∃ A len cp, v = .slice A len cp := by
    rcases DataW.trod_slice Try.underlying67 h with ⟨h0, _⟩ | ⟨a, len, cap, _, _, _, _, h0, _⟩
    · simp at h0
      exact ⟨_, _, _, h0⟩
    · simp at h0
      exact ⟨_, _, _, h0⟩
  obtain ⟨A, len, cp, rfl⟩ := hv
  obtain ⟨l, hl, h3⟩ := open_prog (a := A) (len := len) (cap := cp) (d := y.1) (p := y.2) ⟨n, by simpa [Value.cells] using h⟩
  subst hl
  exact ⟨⟨A, cp, l⟩, rfl, h3⟩
theorem open_progs {a : Option Addr} {len cap : Nat} {d : DataW H} {p : List MemPlace} (h : DataW.Trod enc Try.prog w 0 (fun _ => true) true 22 (.slice a len cap) d p) : ∃ ls : List PT, ls.length = len ∧ Rd w a (ls.map ptV) ∧ ∀ q ∈ ls, Rd w q.A (insR q.l) := by
  obtain ⟨os, h1, _, _, _, h5, h6, _⟩ := open_bulk (fun x : PT => [ptV x]) (fun x => Rd w x.A (insR x.l)) (fun _ => 0) 1 (by decide) (fun _ => rfl) Try.underlying22 (by kernel_rfl) (fun n cs y h hl => by
    match cs, hl with
    | [v], _ =>
    obtain ⟨q, rfl, hr⟩ := prog_cell h
    exact ⟨q, rfl, hr, Nat.zero_le _⟩) h
  refine ⟨os, h1, ?_, h6⟩
  have e : (os.map fun x => [ptV x]).flatten = os.map ptV := by
    have := flat_one (os.map ptV)
    rwa [List.map_map] at this
  rw [← e]
  exact h5
end
end Go.Proofs.Ytlljfopacdnpbaa
