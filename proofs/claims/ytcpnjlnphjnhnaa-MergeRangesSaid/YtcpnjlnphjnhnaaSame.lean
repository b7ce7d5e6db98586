/- Same; a cursor from nothing. Conditions: those of the lemmas. -/
import Derived.Test.YtcpnjlnphjnhnaaLook
import Derived.Test.YtcpnjlnphjnhnaaMerges
namespace Go.Proofs.Ytcpnjlnphjnhnaa
open Go.RowKit
theorem fromnil_any (W : World) : Calls Try.prog 23 #[.nilFunc] W (Made W (fun _ => False) [] 0) := by
  refine (from_any (.inl rfl) W).mono ?_
  rintro en w' ⟨cb, rfl, hb, hf, hc⟩
  exact made (d := ⟨cb, .nilFunc, fun _ => False, fun _ l e => l = [] ∧ e = 0⟩) (l0 := []) (e0 := 0)
    ⟨fun h _ _ => h, id, .inl ⟨rfl, fun _ _ _ h => h⟩⟩ ⟨rfl, rfl⟩ (fun _ h => h.elim) hb hf (fun k hk => by
      rcases hk with h | h
      · left; rw [h]; exact hc
      · exact h.elim)
set_option maxHeartbeats 1000000 in
set_option maxRecDepth 100000 in
theorem same_any {W : World} {A A' : Option Addr} {cp cp' : Nat} {l : List En} (hR : RdE W A l) (hR' : RdE W A' l) (hfew : l.length ≤ 1000000) : Calls Try.prog 22 #[.slice A l.length cp, .slice A' l.length cp'] W fun en w' => en = .returned (.bool true) ∧ Fr (fun _ => False) W w' := by
  go_enter Try.func22, Try.ntmps22
  go_wp2_with fail
  go_loopw [5] (fun i wr => ∃ (j : Nat), i = .int .i64 j ∧ j ≤ l.length ∧ Fr (fun _ => False) W wr) (fun i _ => l.length - (intOf i).toNat)
  case atStart => exact ⟨0, rfl, Nat.zero_le _, Fr.refl _ _⟩
  case round =>
    obtain ⟨j, rfl, hj, hF⟩ := hrel
    by_cases hjn : j < l.length
    · have hx : l[j]? = some l[j] := List.getElem?_eq_getElem hjn
      generalize l[j] = x at hx
      obtain ⟨ad, hAe, a0, a1, a2⟩ := RdE.cells (hR.fr hF (fun _ _ => id)) hx
      obtain ⟨ad', hAe', c0, c1, c2⟩ := RdE.cells (hR'.fr hF (fun _ _ => id)) hx
      subst hAe
      subst hAe'
      have ij : (j : Int) < (l.length : Int) := by omega
      have ij0 : (0 : Int) ≤ (j : Int) := by omega
      have hq := neqEn x
      have HF := Lib.hid hF
      clear hF hx
      go_upto_region 6 with fail
      go_quiet (fail)
      go_wp2
      go_roundw
      case rel => exact ⟨j + 1, by go_num, by omega, HF.out.drewN nq⟩
      case measure => simp [intOf]; omega
    · obtain rfl : j = l.length := by omega
      have HF := Lib.hid hF
      clear hF hR hR'
      go_wp2
      go_ret
      exact ⟨rfl, HF.out⟩
end Go.Proofs.Ytcpnjlnphjnhnaa
