/- A slice of lists that came in. Conditions: none. -/
import Derived.Test.YtcpnjlnphjnhnaaOpenR
import Derived.Test.YtcpnjlnphjnhnaaPartsP
namespace Go.Proofs.Ytcpnjlnphjnhnaa
open Go.ChangeShapes Go.WideShapes Go.ChangeAt Go.RowKit Go.Deep
section
variable {H : Type} {enc : TypeId × Value → H} {w : World}
theorem open_lists {a : Option Addr} {len cap : Nat} {d : DataW H} {p : List MemPlace} (h : DataW.Trod enc Try.prog w 0 (fun _ => true) true 42 (.slice a len cap) d p) : ∃ ls : List LiD, ls.length = len ∧ RdL w a ls := by
  obtain ⟨os, h1, _, _, _, h5, h6, _⟩ := open_bulk (fun x : LiD => [Value.slice x.A x.l.length x.cp]) (fun x => RdE w x.A x.l) (fun _ => 0) 1 (by decide) (fun _ => rfl) Try.underlying42 (by kernel_rfl) (fun n cs y h hl => by
    match cs, hl with
    | [v], _ =>
    obtain ⟨A, l, cp, rfl, hr, _⟩ := list_cell h
    exact ⟨⟨A, cp, l⟩, rfl, hr, Nat.zero_le _⟩) h
  exact ⟨os, h1, h5, h6⟩
end
end Go.Proofs.Ytcpnjlnphjnhnaa
