/- The reference's book: Retire. Conditions: those of the lemmas. -/
import Derived.Test.YtolkoagjompjjaaRef2
namespace Go.Proofs.Ytolkoagjompjjaa
open Go.RowKit
set_option maxHeartbeats 2000000 in
set_option maxRecDepth 100000 in
theorem rretire_any {W : World} {b : Nat} {now : Int} {sv : Value} {slots : List Int} {ov : Value} {olds : List Value} {av : Value} {ats : List Int} (h : RefB W b now sv slots ov olds av ats)
    (A : Option Addr) (n cp : Nat) (xs : List ByteArray) (hn : xs.length = n) (hR : Rd W A (xs.map Value.string))
    (hA : 0 < n → ∀ ad, A = some ad → ad.block ≠ b ∧ ov.ownBlock ≠ some ad.block ∧ av.ownBlock ≠ some ad.block) (hsz : (olds.length + n) * 16 ≤ 140737488355328) (hnow : 0 ≤ now ∧ now < 9223372036854775807) :
    Calls Try.prog 15 #[.pointer (some ⟨b, 0, none⟩), .slice A n cp] W fun e w' => e = .returned (.tuple #[]) ∧
      ∃ ov' av', RefB w' b (now + 1) sv slots ov' (olds ++ xs.map Value.string) av' (ats ++ List.replicate n now) ∧ Fr (fun q => q = b ∨ ov.ownBlock = some q ∨ av.ownBlock = some q) W w' ∧
        (∀ q, ov'.ownBlock = some q → ov.ownBlock = some q ∨ W.heap.size ≤ q) ∧ (∀ q, av'.ownBlock = some q → av.ownBlock = some q ∨ W.heap.size ≤ q) := by
  have hsame := h.same
  have Hsz := Lib.hid hsz
  have hnl : n ≤ 140737488355328 := by omega
  clear hsz
  go_enter Try.func15, Try.ntmps15
  go_wp2_with fail
  go_loopw [4] (fun i W' => ∃ (k : Nat) (ov' av' : Value), k ≤ n ∧ i = .int .i64 k ∧ RefB W' b now sv slots ov' (olds ++ (xs.take k).map Value.string) av' (ats ++ List.replicate k now) ∧ Fr (fun q => q = b ∨ ov.ownBlock = some q ∨ av.ownBlock = some q) W W' ∧
      (∀ q, ov'.ownBlock = some q → ov.ownBlock = some q ∨ W.heap.size ≤ q) ∧ (∀ q, av'.ownBlock = some q → av.ownBlock = some q ∨ W.heap.size ≤ q)) (fun i _ => n - (intOf i).toNat)
  case atStart => exact ⟨0, ov, av, Nat.zero_le _, rfl, by simpa using h, Fr.refl _ _, fun q hq => .inl hq, fun q hq => .inl hq⟩
  case round =>
    obtain ⟨k, ov', av', hk, rfl, hB, hF, hNo, hNa⟩ := hrel
    by_cases hlt : k < n
    · have hxk : xs[k]? = some (xs[k]'(by omega)) := List.getElem?_eq_getElem _
      obtain ⟨ad, hAd, hc⟩ := hR k (.string (xs[k]'(by omega))) (by rw [List.getElem?_map, hxk]; rfl)
      subst hAd
      have hcell := hF.cell hc (by rw [add_block]; intro hh; obtain ⟨a1, a2, a3⟩ := hA (by omega) ad rfl; rcases hh with hh | hh | hh; exact a1 hh; exact a2 hh; exact a3 hh)
      have htk : Hid (olds ++ (xs.take (k + 1)).map Value.string = (olds ++ (xs.take k).map Value.string) ++ [.string (xs[k]'(by omega))]) := by
        unfold Hid
        rw [List.take_add_one, hxk, Option.toList_some, List.map_append, List.append_assoc]
        rfl
      have htr : Hid (i64s (ats ++ List.replicate (k + 1) now) = i64s (ats ++ List.replicate k now) ++ [.int .i64 now]) := by
        unfold Hid i64s
        rw [List.replicate_succ', ← List.append_assoc, List.map_append]
        rfl
      generalize xs[k]'(by omega) = x at hxk hc hcell htk
      have hlen : Hid (((olds ++ (xs.take k).map Value.string).length + 1) * 16 ≤ 140737488355328) := by
        have := Hsz.out
        unfold Hid
        simp only [List.length_append, List.length_map, List.length_take]
        omega
      have hlen2 : Hid (((i64s (ats ++ List.replicate k now)).length + 1) * 8 ≤ 140737488355328) := by
        have := Hsz.out
        unfold Hid
        rw [i64s_len]
        simp only [List.length_append, List.length_replicate]
        omega
      have hsm := hB.same
      obtain ⟨hblk, hslot, holdr, hatr, hap, _⟩ := hB
      generalize olds ++ (xs.take k).map Value.string = old' at holdr htk hlen hsm
      have hsm' : Hid ((old' ++ [Value.string x]).length = (ats ++ List.replicate (k + 1) now).length) := by
        unfold Hid
        simp only [List.length_append, List.length_singleton, List.length_replicate] at hsm ⊢
        omega
      generalize i64s (ats ++ List.replicate k now) = ac at hatr htr hlen2
      clear hxk hc hsm
      have k2 := hblk.cell 2 rfl
      have k2f := hblk.free 2
      have hl := hblk.lt
      go_upto_region 3 with fail
      go_cut [] (fun W1 => ∃ ov1, Blk W1 b [.int .i64 now, sv, ov1, av'] 30 ∧ Row W1 3 sv (i64s slots) ∧ Row W1 9 ov1 (old' ++ [.string x]) ∧ Row W1 3 av' ac ∧ Fr (fun q => q = b ∨ ov'.ownBlock = some q) wr W1 ∧ (∀ q, ov1.ownBlock = some q → ov'.ownBlock = some q ∨ wr.heap.size ≤ q))
      case first =>
        go_region_law (first | (refine step_app1 (W := wr.drew) rfl _ _ 28 9 (.string ⟨#[]⟩) 16 rfl Try.underlying28 infoStr rfl (by decide) ov' old' (.string x) rfl rfl rfl holdr hlen.out ?_; intro g c w1 hR1 hor1 hf1 _; have hb1 := hf1.blk hblk (fun hh => (holdr.ne hblk (by decide)) hh); have k2' := hb1.cell 2 rfl; have k2f' := hb1.free 2))
        all_goals (
          go_wp2
          go_meet
          case rel =>
            have hne : ∀ q, ov'.ownBlock = some q → sv.ownBlock ≠ some q := fun q hq => holdr.ne_row hslot (by decide) q hq
            have hne2 : ∀ q, ov'.ownBlock = some q → av'.ownBlock ≠ some q := fun q hq => holdr.ne_row hatr (by decide) q hq
            refine ⟨_, hb1.set 2 _, ((hslot.drew).fr hf1 (fun q hq hh => hne q hh hq)).other (hslot.ne hblk (by decide)) _, hR1.other (hR1.ne hb1 (by decide)) _, ((hatr.drew).fr hf1 (fun q hq hh => hne2 q hh hq)).other (hatr.ne hblk (by decide)) _, (((Fr.refl _ wr).drew.trans hf1 (fun _ _ h => .inr h)).setCell _ _ (fun _ => .inl rfl)), fun q hq => ?_⟩
            have hq' : g = q := by simpa [Value.ownBlock] using hq
            subst hq'
            rcases hor1 with h' | h'
            · exact .inl h'
            · right
              have h3 : wr.drew.heap.size = wr.heap.size := rfl
              omega)
      case rest =>
        obtain ⟨ov1, hb1, hs1, ho1, ha1, hf1, hn1⟩ := hcut
        clear hblk hslot holdr hatr k2 k2f hcell
        have k0 := hb1.cell 0 rfl
        have k3 := hb1.cell 3 rfl
        have k3f := hb1.free 3
        go_upto_region 4 with fail
        have HF1 : Fr (fun q => q = b ∨ ov.ownBlock = some q ∨ av.ownBlock = some q) W wc := hF.trans hf1 (fun i hi hh => by
          rcases hh with hh | hh
          · exact .inl hh
          · rcases hNo i hh with h' | h'
            · exact .inr (.inl h')
            · omega)
        have HN1 : ∀ q, ov1.ownBlock = some q → ov.ownBlock = some q ∨ W.heap.size ≤ q := fun q hq => by
          rcases hn1 q hq with h' | h'
          · exact hNo q h'
          · right
            have := hF.size
            omega
        have hzz : W.heap.size ≤ wc.heap.size := HF1.size
        clear hF hNo hf1 hn1
        have HFF := Lib.hid HF1
        clear HF1
        have ka3 := (hb1.alloc (.cells #[.int .i64 now] 3)).cell 3 rfl
        have ka0 := (hb1.alloc (.cells #[.int .i64 now] 3)).cell 0 rfl
        go_region_law (first | (refine step_app1 (W := wc.drew) rfl _ _ 27 3 (.int .i64 0) 8 rfl Try.underlying27 infoInt rfl (by decide) av' ac (.int .i64 now) rfl rfl rfl ha1 hlen2.out ?_; intro g c w2 hR2 hor2 hf2 _; have hb2 := hf2.blk hb1 (fun hh => (ha1.ne hb1 (by decide)) hh); have k0' := hb2.cell 0 rfl; have k3' := hb2.cell 3 rfl; have k3f' := hb2.free 3))
        all_goals (
          go_wp2
          go_roundw
          case rel =>
            have hne2 : ∀ q, ov1.ownBlock = some q → av'.ownBlock ≠ some q := fun q hq => ho1.ne_row ha1 (by decide) q hq
            have hgN : av.ownBlock = some g ∨ W.heap.size ≤ g := by
              rcases hor2 with h' | h'
              · exact hNa _ h'
              · right
                have h3 : wc.drew.heap.size = wc.heap.size := rfl
                omega
            refine ⟨k + 1, ov1, _, by omega, by go_num, ⟨hb2.set 3 _, ((hs1.drew).fr hf2 (fun q hq hh => hap q hq hh)).other (hs1.ne hb1 (by decide)) _, ?_, ?_, ?_, ?_⟩, ((HFF.out.drew.trans hf2 (fun i hi hh => ?_)).setCell _ _ (fun _ => .inl rfl)), HN1, fun q hq => ?_⟩
            · rw [htk.out]
              exact ((ho1.drew).fr hf2 (fun q hq hh => hne2 q hq hh)).other (ho1.ne hb1 (by decide)) _
            · rw [htr.out]
              exact hR2.other (hR2.ne hb2 (by decide)) _
            · intro q hq hq2
              have hq' : g = q := by simpa [Value.ownBlock] using hq2
              subst hq'
              rcases hgN with h' | h'
              · exact h.apart g hq h'
              · have := h.slot.lt hq
                omega
            · rw [htk.out]
              exact hsm'.out
            · rcases hNa i hh with h' | h'
              · exact .inr (.inr h')
              · omega
            · have hq' : g = q := by simpa [Value.ownBlock] using hq
              subst hq'
              exact hgN
          case measure => simp [intOf]; omega)
    · obtain rfl : k = n := by omega
      rw [List.take_of_length_le (by omega)] at hB
      have k0 := hB.blk.cell 0 rfl
      have k0f := hB.blk.free 0
      have t1 : IntKind.i64.wrap (now + 1) = now + 1 := IntWalk.i64_in _ (by omega)
      go_wp2
      go_end0
      exact ⟨rfl, ov', av', ⟨hB.blk.set 0 _, hB.slot.other (hB.slot.ne hB.blk (by decide)) _, hB.oldr.other (hB.oldr.ne hB.blk (by decide)) _, hB.atr.other (hB.atr.ne hB.blk (by decide)) _, hB.apart, hB.same⟩, hF.setCell _ _ (fun _ => .inl rfl), hNo, hNa⟩
end Go.Proofs.Ytolkoagjompjjaa
