/- The reference's Live; the law's cursors over rows. Conditions: those of the lemmas. -/
import Derived.Test.YtcpnjlnphjnhnaaTold
namespace Go.Proofs.Ytcpnjlnphjnhnaa
open Go.RowKit
/-- A list that is new. -/
def NewList (W : World) (l : List En) (en : Ending) (W' : World) : Prop := ∃ A cp, en = .returned (.slice A l.length cp) ∧ RdE W' A l ∧ (∀ ad, A = some ad → W.heap.size ≤ ad.block ∧ ad.block < W'.heap.size ∧ ∃ cur, W'.heap[ad.block]? = some (.cells cur 32 (0, 0))) ∧ l.length ≤ cp ∧ cp ≤ 9223372036854775807 ∧ Fr (fun _ => False) W W'
theorem live_take {l : List En} {j : Nat} {x : En} (h : l[j]? = some x) : live (l.take (j + 1)) = if x.gone then live (l.take j) else live (l.take j) ++ [x] := by
  rw [take_succ h]
  unfold live
  rw [List.filter_append]
  cases hg : x.gone <;> simp [hg]
theorem live_len (l : List En) : (live l).length ≤ l.length := List.length_filter_le _ _
set_option maxHeartbeats 1000000 in
set_option maxRecDepth 100000 in
theorem rlive_any {W : World} {A : Option Addr} {cp : Nat} {l : List En} (hR : RdE W A l) (hfew : l.length ≤ 1000000) : Calls Try.prog 15 #[.slice A l.length cp] W (NewList W (live l)) := by
  go_enter Try.func15, Try.ntmps15
  go_wp2_with fail
  go_loopw [3, 4] (fun v i wr => ∃ (j : Nat), i = .int .i64 j ∧ j ≤ l.length ∧ RowK wr 32 3 v (ens (live (l.take j))) ∧ (∀ q, v.ownBlock = some q → W.heap.size ≤ q) ∧ Fr (fun _ => False) W wr) (fun _ i _ => l.length - (intOf i).toNat)
  case atStart => exact ⟨0, rfl, Nat.zero_le _, RowK.nil _ _ _, fun q h => by simp [Value.ownBlock] at h, Fr.refl _ _⟩
  case round =>
    obtain ⟨j, rfl, hj, hV, hVn, hF⟩ := hrel
    by_cases hjn : j < l.length
    · have hx : l[j]? = some l[j] := List.getElem?_eq_getElem hjn
      generalize l[j] = x at hx
      have hR1 : RdE wr A l := hR.fr hF (fun _ _ => id)
      obtain ⟨ad, hAe, a0, a1, a2⟩ := hR1.cells hx
      subst hAe
      have ij : (j : Int) < (l.length : Int) := by omega
      have ij0 : (0 : Int) ≤ (j : Int) := by omega
      have hlt := live_take hx
      have hll := live_len (l.take j)
      rw [List.length_take] at hll
      cases hg : x.gone with
      | true =>
        rw [hg, if_pos rfl] at hlt
        rw [hg] at a2
        have HH := Lib.hid (And.intro (show RowK wr 32 3 u3 (ens (live (l.take (j + 1)))) by rw [hlt]; exact hV) (And.intro hVn hF))
        clear hV hVn hF hlt hx hR1 hg
        go_wp2
        go_roundw
        case rel => exact ⟨j + 1, by go_num, by omega, HH.out⟩
        case measure => simp [intOf]; omega
      | false =>
        rw [hg, if_neg (by decide)] at hlt
        have HH := Lib.hid (And.intro hlt (And.intro hVn hF))
        have hg' := hg
        clear hVn hF hlt hx hR1
        rw [hg] at a2
        generalize hes : enV x = ev
        have hev : ev = [.string x.key, .string x.val, .bool false] := by rw [← hes]; unfold enV; rw [hg]
        have Hes := Lib.hid hes
        clear hes hg hg'
        go_wp2_with (at_builtin; go_must (refine appK rfl _ _ 22 32 (.agg #[.string ⟨#[]⟩, .string ⟨#[]⟩, .bool false]) 3 40 rfl Try.underlying22 infoEn rfl (by decide) (by decide) u3 (ens (live (l.take j))) [.string x.key, .string x.val, .bool false] rfl rfl rfl (by simp [Value.oneCell']) hV (by rw [ens_len]; omega) ?_); intro g2 c2 w8 hR8 hor8 hf8 _)
        go_roundw
        case rel =>
          obtain ⟨hlt, hVn, hF⟩ := HH.out
          refine ⟨j + 1, by go_num, by omega, by rw [hlt, ens_snoc, Hes.out, hev]; exact hR8, fun q hq => ?_, hF.trans hf8 (fun i hi h => by have := hVn i h; omega)⟩
          have hq' : g2 = q := by simpa [Value.ownBlock] using hq
          subst hq'
          rcases hor8 with h | h
          · exact hVn _ h
          · have := hF.size; omega
        case measure => simp [intOf]; omega
    · obtain rfl : j = l.length := by omega
      rw [List.take_length] at hV
      obtain ⟨A1, c1, rfl, hrd, hle, hmx, _⟩ := hV.rd
      have hown := fun ad (h : A1 = some ad) => hV.at_own h
      rw [ens_len] at hV hle hown hVn ⊢
      have hkind := fun ad (h : A1 = some ad) => hV.kind (hown ad h)
      have HH := Lib.hid (And.intro hF (And.intro hVn (And.intro hown (And.intro hrd (And.intro hle (And.intro hmx hkind))))))
      clear hV hVn hF hown hrd hle hmx hkind hR
      go_wp2
      go_ret
      obtain ⟨hF, hVn, hown, hrd, hle, hmx, hkind⟩ := HH.out
      refine ⟨A1, c1, rfl, hrd, fun ad h => ⟨hVn _ (hown ad h), ?_⟩, hle, by simpa [maxLen] using hmx, hF⟩
      obtain ⟨cur, hc⟩ := hkind ad h
      exact ⟨(Array.getElem?_eq_some_iff.1 hc).1, cur, hc⟩
end Go.Proofs.Ytcpnjlnphjnhnaa
