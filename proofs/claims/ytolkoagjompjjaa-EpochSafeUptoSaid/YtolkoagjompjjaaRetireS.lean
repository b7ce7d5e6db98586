/- A book's Retire. Conditions: those of the lemmas. -/
import Derived.Test.YtolkoagjompjjaaBookS
namespace Go.Proofs.Ytolkoagjompjjaa
open Go.RowKit
set_option maxHeartbeats 1000000 in
set_option maxRecDepth 100000 in
theorem retireS_any {W : World} {b : Nat} {now : Int} {sv : Value} {slots : List Int} {ov : Value} {old : List (Value × Int)} (h : BookS W b now sv slots ov old)
    (A : Option Addr) (n cp : Nat) (xs : List ByteArray) (hn : (xs.map (Value.string)).length = n) (hR : Rd W A (xs.map (Value.string)))
    (hA : 0 < n → ∀ ad, A = some ad → ad.block ≠ b ∧ ov.ownBlock ≠ some ad.block) (hsz : (old.length + n) * 24 ≤ 140737488355328) (hnow : 0 ≤ now ∧ now < 9223372036854775807) :
    Calls Try.prog 14 #[.pointer (some ⟨b, 0, none⟩), .slice A n cp] W fun e w' => e = .returned (.int .i64 0) ∧
      ∃ ov', BookS w' b (now + 1) sv slots ov' (old ++ (xs.map (Value.string)).map fun x => (x, now)) ∧ Fr (fun q => q = b ∨ ov.ownBlock = some q) W w' ∧ (∀ q, ov'.ownBlock = some q → ov.ownBlock = some q ∨ W.heap.size ≤ q) := by
  have hth : ∀ (k : Nat) (v : Value), (xs.map (Value.string))[k]? = some v → ∃ e, v = Value.string e := by
    intro k v hv
    rw [List.getElem?_map, Option.map_eq_some_iff] at hv
    obtain ⟨e, _, he⟩ := hv
    exact ⟨e, he.symm⟩
  have Hth := Lib.hid hth
  clear hth
  generalize xs.map (Value.string) = things at hn hR Hth ⊢
  have hnl : n ≤ 140737488355328 := by omega
  go_enter Try.func14, Try.ntmps14
  go_wp2_with fail
  go_loopw [11] (fun i W' => ∃ (k : Nat) (ov' : Value), k ≤ n ∧ i = .int .i64 k ∧ BookS W' b now sv slots ov' (old ++ (things.take k).map fun x => (x, now)) ∧ Fr (fun q => q = b ∨ ov.ownBlock = some q) W W' ∧ (∀ q, ov'.ownBlock = some q → ov.ownBlock = some q ∨ W.heap.size ≤ q)) (fun i _ => n - (intOf i).toNat)
  case atStart => exact ⟨0, ov, Nat.zero_le _, rfl, by simpa using h, Fr.refl _ _, fun q hq => .inl hq⟩
  case round =>
    obtain ⟨k, ov', hk, rfl, hB, hF, hN⟩ := hrel
    have Hsz := Lib.hid hsz
    clear hsz
    by_cases hlt : k < n
    · have hxk : things[k]? = some (things[k]'(by omega)) := List.getElem?_eq_getElem _
      obtain ⟨ad, hAd, hc⟩ := hR k _ hxk
      subst hAd
      have hcell := hF.cell hc (by rw [add_block]; intro hh; rcases hh with hh | hh; exact (hA (by omega) ad rfl).1 hh; exact (hA (by omega) ad rfl).2 hh)
      have htk : Hid (old ++ (things.take (k + 1)).map (fun x => (x, now)) = (old ++ (things.take k).map fun x => (x, now)) ++ [(things[k]'(by omega), now)]) := by
        unfold Hid
        rw [List.take_add_one, hxk, Option.toList_some, List.map_append, List.append_assoc]
        rfl
      generalize things[k]'(by omega) = x at hxk hc hcell htk
      obtain ⟨xe, rfl⟩ := Hth.out k x hxk
      have hlen : ((old ++ (things.take k).map fun x => (x, now)).length + 1) * 24 ≤ 140737488355328 := by
        have := Hsz.out
        simp only [List.length_append, List.length_map, List.length_take]
        omega
      generalize old ++ (things.take k).map (fun x => (x, now)) = old' at hB htk hlen
      have Hlen := Lib.hid hlen
      clear hlen hxk hc
      have k0 := hB.blk.cell 0 rfl
      have k2 := hB.blk.cell 2 rfl
      have k2f := hB.blk.free 2
      have hl := hB.blk.lt
      go_upto_region 6 with fail
      go_region_law (first | (refine step_appK (W := wr.drew) rfl _ _ 56 61 (.agg #[(Value.string ⟨#[]⟩), .int .i64 0]) 2 24 rfl Try.underlying56 infoWS rfl (by decide) (by decide) ov' (waits old') [Value.string xe, .int .i64 now] rfl rfl rfl (by simp [Value.oneCell']) hB.wait (by rw [waits_len]; exact Hlen.out) ?_; intro g c w1 hR1 hor1 hf1 _; have hb1 := hf1.blk hB.blk (fun hh => (hB.wait.ne hB.blk (by decide)) hh); have k0' := hb1.cell 0 rfl; have k2' := hb1.cell 2 rfl; have k2f' := hb1.free 2))
      all_goals (
        go_wp2
        go_roundw
        case rel =>
          refine ⟨k + 1, _, by omega, by go_num, ⟨hb1.set 2 _, ?_, ?_⟩, ((hF.drew.trans hf1 (fun i hi hh => ?_)).setCell _ _ (fun _ => .inl rfl)), fun q hq => ?_⟩
          · exact ((hB.slot.drew).fr hf1 (fun q hq hh => hB.wait.ne_row hB.slot (by decide) q hh hq)).other (hB.slot.ne hB.blk (by decide)) _
          · have := hR1.other (a := ⟨b, 2, none⟩) (hR1.ne hb1 (by decide)) (.slice (some ⟨g, 0, none⟩) ((waits old').length + 1) c)
            rw [htk.out, waits_snoc]
            exact this
          · rcases hN i hh with h' | h'
            · exact .inr h'
            · omega
          · have hq' : g = q := by simpa [Value.ownBlock] using hq
            subst hq'
            rcases hor1 with h' | h'
            · exact hN _ h'
            · right
              have h2 := hF.size
              have h3 : wr.drew.heap.size = wr.heap.size := rfl
              omega
        case measure => simp [intOf]; omega)
    · obtain rfl : k = n := by omega
      rw [List.take_of_length_le (by omega)] at hB
      have k0 := hB.blk.cell 0 rfl
      have k0f := hB.blk.free 0
      have t1 : IntKind.i64.wrap (now + 1) = now + 1 := IntWalk.i64_in _ (by omega)
      go_wp2
      go_ret
      exact ⟨rfl, ov', ⟨hB.blk.set 0 _, hB.slot.other (hB.slot.ne hB.blk (by decide)) _, hB.wait.other (hB.wait.ne hB.blk (by decide)) _⟩, hF.setCell _ _ (fun _ => .inl rfl), hN⟩
end Go.Proofs.Ytolkoagjompjjaa
