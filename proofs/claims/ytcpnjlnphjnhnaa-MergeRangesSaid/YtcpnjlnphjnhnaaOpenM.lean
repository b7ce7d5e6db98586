/- Rows and lists of entries that came in. Conditions: none. -/
import Derived.Test.YtcpnjlnphjnhnaaFew
import Derived.Test.YtcpnjlnphjnhnaaOpenB
namespace Go.Proofs.Ytcpnjlnphjnhnaa
open Go.ChangeShapes Go.WideShapes Go.ChangeAt Go.RowKit Go.Deep
section
variable {H : Type} {enc : TypeId × Value → H} {w : World}
theorem en_cells (n : Nat) (cs : List Value) (y : DataW H × List MemPlace) (h : DataW.trod enc Try.prog w 0 (fun _ => true) true n 32 cs = some y) (hl : cs.length = 3) : ∃ x : En, cs = enV x := by
  have g := cells_one Try.underlying32 (by kernel_rfl) h hl
  obtain ⟨v0, m0, y0, e0, h0⟩ := g 0 _ rfl
  obtain ⟨v1, m1, y1, e1, h1⟩ := g 1 _ rfl
  obtain ⟨v2, m2, y2, e2, h2⟩ := g 2 _ rfl
  obtain ⟨k, hk, _⟩ := DataW.trod_string Try.underlying9 h0
  obtain ⟨s, hs, _⟩ := DataW.trod_string Try.underlying9 h1
  obtain ⟨x, hx, _⟩ := DataW.trod_bool Try.underlying4 h2
  refine ⟨⟨k, s, x⟩, ?_⟩
  match cs, hl with
  | [c0, c1, c2], _ =>
    simp at e0 e1 e2 hk hs hx
    subst e0 e1 e2 hk hs hx
    rfl
theorem open_list {a : Option Addr} {len cap : Nat} {d : DataW H} {p : List MemPlace} (h : DataW.Trod enc Try.prog w 0 (fun _ => true) true 22 (.slice a len cap) d p) : ∃ l : List En, l.length = len ∧ len ≤ cap ∧ cap ≤ maxLen ∧ RdE w a l := by
  obtain ⟨s, hs, hlc, hcm, _, hr⟩ := open_structs enV 3 (by decide) (fun _ => rfl) Try.underlying22 (by kernel_rfl) (fun n cs y h hl => en_cells n cs y h hl) h
  exact ⟨s, hs, hlc, hcm, hr⟩
theorem list_cell {n : Nat} {v : Value} {y : DataW H × List MemPlace} (h : DataW.trod enc Try.prog w 0 (fun _ => true) true n 22 [v] = some y) : ∃ A l cp, v = .slice A (l : List En).length cp ∧ RdE w A l ∧ l.length ≤ cp ∧ cp ≤ maxLen := by
  have hv : ∃ A len cp, v = .slice A len cp := by
    rcases DataW.trod_slice Try.underlying22 h with ⟨h0, _⟩ | ⟨a, len, cap, _, _, _, _, h0, _⟩
    · simp at h0
      exact ⟨_, _, _, h0⟩
    · simp at h0
      exact ⟨_, _, _, h0⟩
  obtain ⟨A, len, cp, rfl⟩ := hv
  obtain ⟨l, hl, h1, h2, h3⟩ := open_list (a := A) (len := len) (cap := cp) (d := y.1) (p := y.2) ⟨n, by simpa [Value.cells] using h⟩
  subst hl
  exact ⟨A, l, cp, rfl, h3, h1, h2⟩
theorem row_cells (n : Nat) (cs : List Value) (y : DataW H × List MemPlace) (h : DataW.trod enc Try.prog w 0 (fun _ => true) true n 24 cs = some y) (hl : cs.length = 2) : ∃ r : RowD, cs = rowC r ∧ RdE w r.A r.l := by
  have g := cells_one Try.underlying24 (by kernel_rfl) h hl
  obtain ⟨v0, m0, y0, e0, h0⟩ := g 0 _ rfl
  obtain ⟨v1, m1, y1, e1, h1⟩ := g 1 _ rfl
  obtain ⟨A, l, cp, rfl, hr, _⟩ := list_cell h0
  obtain ⟨x, hx, _⟩ := DataW.trod_int Try.underlying3 h1
  refine ⟨⟨A, cp, l, x⟩, ?_, hr⟩
  match cs, hl with
  | [c0, c1], _ =>
    simp at e0 e1 hx
    subst e0 e1 hx
    rfl
theorem open_row {r : Reach} {b0 : Nat} {v : Value} {d : DataW H} {p : List MemPlace} (hv : Value.okWide Try.prog w r b0 24 v) (h : DataW.Trod enc Try.prog w 0 (fun _ => true) true 24 v d p) : ∃ r : RowD, v = .agg #[.slice r.A r.l.length r.cp, .int .i64 r.e] ∧ RdE w r.A r.l := by
  obtain ⟨cs, rfl, hsz⟩ := okWide_struct Try.underlying24 hv
  obtain ⟨fuel, hf⟩ := h
  have hsz2 : cs.toList.length = 2 := by
    have : cs.size = 2 := hsz
    simpa using this
  obtain ⟨r, hr, hd⟩ := row_cells fuel cs.toList _ hf hsz2
  refine ⟨r, ?_, hd⟩
  congr 1
  apply Array.ext'
  exact hr
end
end Go.Proofs.Ytcpnjlnphjnhnaa
