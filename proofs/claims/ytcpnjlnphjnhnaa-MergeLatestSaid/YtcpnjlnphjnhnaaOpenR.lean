/- A slice of rows that came in. Conditions: none. -/
import Derived.Test.YtcpnjlnphjnhnaaOpenM
namespace Go.Proofs.Ytcpnjlnphjnhnaa
open Go.ChangeShapes Go.WideShapes Go.ChangeAt Go.RowKit Go.Deep
section
variable {H : Type} {enc : TypeId × Value → H} {w : World}
theorem open_rows {a : Option Addr} {len cap : Nat} {d : DataW H} {p : List MemPlace} (h : DataW.Trod enc Try.prog w 0 (fun _ => true) true 27 (.slice a len cap) d p) : ∃ rs : List RowD, rs.length = len ∧ RdR w a rs := by
  obtain ⟨os, h1, _, _, _, h5, h6, _⟩ := open_bulk rowC (fun r => RdE w r.A r.l) (fun _ => 0) 2 (by decide) (fun _ => rfl) Try.underlying27 (by kernel_rfl) (fun n cs y h hl => by obtain ⟨r, e, hr⟩ := row_cells n cs y h hl; exact ⟨r, e, hr, Nat.zero_le _⟩) h
  exact ⟨os, h1, h5, h6⟩
end
end Go.Proofs.Ytcpnjlnphjnhnaa
