/- The reference's book: Free. Conditions: those of the lemmas. -/
import Derived.Test.YtolkoagjompjjaaRef3
namespace Go.Proofs.Ytolkoagjompjjaa
open Go.RowKit
def oldS (old : List (ByteArray × Int)) : List Value := old.map fun p => .string p.1
def oldA (old : List (ByteArray × Int)) : List Int := old.map Prod.snd
theorem oldS_len (old : List (ByteArray × Int)) : (oldS old).length = old.length := by simp [oldS]
theorem oldA_len (old : List (ByteArray × Int)) : (oldA old).length = old.length := by simp [oldA]
theorem oldS_snoc (old : List (ByteArray × Int)) (p : ByteArray × Int) : oldS (old ++ [p]) = oldS old ++ [.string p.1] := by simp [oldS]
theorem oldA_snoc (old : List (ByteArray × Int)) (p : ByteArray × Int) : i64s (oldA (old ++ [p])) = i64s (oldA old) ++ [.int .i64 p.2] := by simp [oldA, i64s]
set_option maxHeartbeats 2000000 in
set_option maxRecDepth 100000 in
theorem rfree_any {W : World} {b : Nat} {now : Int} {sv : Value} {slots : List Int} {ov av : Value} {old : List (ByteArray × Int)} (h : RefB W b now sv slots ov (oldS old) av (oldA old)) (hs : slots.length ≤ 16) (hsz : old.length * 16 ≤ 140737488355328) :
    Calls Try.prog 18 #[.pointer (some ⟨b, 0, none⟩)] W fun e w' => ∃ fv lv av2, e = .returned fv ∧
      RefB w' b now sv slots lv (oldS (old.filter fun p => seenB now slots p.2)) av2 (oldA (old.filter fun p => seenB now slots p.2)) ∧ Row w' 9 fv (oldS (old.filter fun p => !seenB now slots p.2)) ∧ Fr (fun q => q = b) W w' ∧
      (∀ q, lv.ownBlock = some q → W.heap.size ≤ q) ∧ (∀ q, av2.ownBlock = some q → W.heap.size ≤ q) ∧ (∀ q, fv.ownBlock = some q → W.heap.size ≤ q ∧ lv.ownBlock ≠ some q) := by
  have H := Lib.hid h
  have k2 := h.blk.cell 2 rfl
  have k3 := h.blk.cell 3 rfl
  obtain ⟨oA, oc, hv⟩ := h.oldr.slice
  rw [oldS_len] at hv
  subst hv
  obtain ⟨aA, ac, hv⟩ := h.atr.slice
  rw [i64s_len, oldA_len] at hv
  subst hv
  have Hsz := Lib.hid hsz
  have hol : old.length ≤ 140737488355328 := by omega
  clear h hsz
  go_enter Try.func18, Try.ntmps18
  go_wp2_with fail
  go_loopw [3, 4, 5, 6] (fun fv lv av2 i wr => ∃ j : Nat, i = .int .i64 j ∧ j ≤ old.length ∧ Row wr 9 fv (oldS ((old.take j).filter fun p => !seenB now slots p.2)) ∧ Row wr 9 lv (oldS ((old.take j).filter fun p => seenB now slots p.2)) ∧ Row wr 3 av2 (i64s (oldA ((old.take j).filter fun p => seenB now slots p.2))) ∧
      Fr (fun _ => False) W wr ∧ (∀ q, lv.ownBlock = some q → W.heap.size ≤ q) ∧ (∀ q, av2.ownBlock = some q → W.heap.size ≤ q) ∧ (∀ q, fv.ownBlock = some q → W.heap.size ≤ q ∧ lv.ownBlock ≠ some q)) (fun _ _ _ i _ => old.length - (intOf i).toNat)
  case atStart => exact ⟨0, rfl, Nat.zero_le _, Row.nil _ _, Row.nil _ _, Row.nil _ _, Fr.refl _ _, (fun q hq => by simp [Value.ownBlock] at hq), (fun q hq => by simp [Value.ownBlock] at hq), (fun q hq => by simp [Value.ownBlock] at hq)⟩
  case round =>
    obtain ⟨j, rfl, hj, hRf, hRl, hRa, hF, hNl, hNa, hNf⟩ := hrel
    have hB := H.out.fr hF id (fun _ _ => id) (fun _ _ => id) (fun _ _ => id)
    have c2 := hB.blk.cell 2 rfl
    have c3 := hB.blk.cell 3 rfl
    by_cases hjl : j < old.length
    · have hp : old[j]? = some (old[j]'hjl) := List.getElem?_eq_getElem _
      obtain ⟨og, rfl, hoc⟩ := hB.oldr.head (by omega)
      obtain ⟨ag, rfl, hac⟩ := hB.atr.head (by omega)
      have e1 : wr.cell? ⟨og, j, none⟩ = some (.string (old[j]'hjl).1) := hB.oldr.cell j (by simp [oldS, hp])
      have e2 : wr.cell? ⟨ag, j, none⟩ = some (.int .i64 (old[j]'hjl).2) := hB.atr.cell j (by simp [oldA, i64s, hp])
      have a1 : (⟨og, 0, none⟩ : Addr).add j = ⟨og, j, none⟩ := add_plain og j
      have a2 : (⟨ag, 0, none⟩ : Addr).add j = ⟨ag, j, none⟩ := add_plain ag j
      have hC := seen_any hB hs (old[j]'hjl).2
      have htk : old.take (j + 1) = old.take j ++ [old[j]'hjl] := by rw [List.take_add_one, hp]; rfl
      have hl1 := List.length_filter_le (fun p : ByteArray × Int => seenB now slots p.2) (old.take j)
      have hl2 := List.length_filter_le (fun p : ByteArray × Int => !seenB now slots p.2) (old.take j)
      rw [List.length_take] at hl1 hl2
      have hog : og < W.heap.size ∧ ag < W.heap.size := by
        have h1 := H.out.oldr.lt (k := og) rfl
        have h2 := H.out.atr.lt (k := ag) rfl
        exact ⟨h1, h2⟩
      cases hS : seenB now slots (old[j]'hjl).2 with
      | false =>
        have t1 : Hid ((old.take (j + 1)).filter (fun p => seenB now slots p.2) = (old.take j).filter (fun p => seenB now slots p.2)) := by unfold Hid; rw [htk, List.filter_append]; simp [hS]
        have t2 : Hid ((old.take (j + 1)).filter (fun p => !seenB now slots p.2) = (old.take j).filter (fun p => !seenB now slots p.2) ++ [old[j]'hjl]) := by unfold Hid; rw [htk, List.filter_append]; simp [hS]
        rw [hS] at hC
        generalize old[j]'hjl = p at e1 e2 hC t1 t2
        obtain ⟨px, pt⟩ := p
        simp only at e1 e2 hC
        generalize (old.take j).filter (fun p => seenB now slots p.2) = ls at hRl hRa t1 hl1
        generalize (old.take j).filter (fun p => !seenB now slots p.2) = fs at hRf t2 hl2
        have hlf : Hid (((oldS fs).length + 1) * 16 ≤ 140737488355328) := by have := Hsz.out; unfold Hid; rw [oldS_len]; omega
        have HC := Lib.hid hC
        clear hC htk hS hp hl1 hl2
        go_wp2_with fail
        refine HC.out.mono ?_
        rintro e w' ⟨rfl, rfl⟩
        go_wp2_with (at_builtin; go_must (refine app1 rfl _ _ 28 9 (.string ⟨#[]⟩) 16 rfl Try.underlying28 infoStr rfl (by decide) u3 (oldS fs) (.string px) rfl rfl rfl hRf hlf.out ?_); intro g c w1 hR1 hor1 hf1 _)
        go_roundw
        case rel =>
          refine ⟨j + 1, by go_num, by omega, ?_, ?_, ?_, hF.trans hf1 (fun i hi hh => by have := (hNf i hh).1; omega), hNl, hNa, fun q hq => ?_⟩
          · rw [t2.out, oldS_snoc]; exact hR1
          · rw [t1.out]; exact hRl.fr hf1 (fun q hq hh => (hNf q hh).2 hq)
          · rw [t1.out]; exact hRa.fr hf1 (fun q hq hh => hRf.ne_row hRa (by decide) q hh hq)
          · have hq' : g = q := by simpa [Value.ownBlock] using hq
            subst hq'
            rcases hor1 with h' | h'
            · exact hNf _ h'
            · exact ⟨by have := hF.size; omega, fun hh => by have := hRl.lt hh; omega⟩
        case measure => simp [intOf]; omega
      | true =>
        have t1 : Hid ((old.take (j + 1)).filter (fun p => seenB now slots p.2) = (old.take j).filter (fun p => seenB now slots p.2) ++ [old[j]'hjl]) := by unfold Hid; rw [htk, List.filter_append]; simp [hS]
        have t2 : Hid ((old.take (j + 1)).filter (fun p => !seenB now slots p.2) = (old.take j).filter (fun p => !seenB now slots p.2)) := by unfold Hid; rw [htk, List.filter_append]; simp [hS]
        rw [hS] at hC
        generalize old[j]'hjl = p at e1 e2 hC t1 t2
        obtain ⟨px, pt⟩ := p
        simp only at e1 e2 hC
        generalize (old.take j).filter (fun p => seenB now slots p.2) = ls at hRl hRa t1 hl1
        generalize (old.take j).filter (fun p => !seenB now slots p.2) = fs at hRf t2 hl2
        have hll : Hid (((oldS ls).length + 1) * 16 ≤ 140737488355328 ∧ ((i64s (oldA ls)).length + 1) * 8 ≤ 140737488355328) := by have := Hsz.out; unfold Hid; rw [oldS_len, i64s_len, oldA_len]; omega
        have HC := Lib.hid hC
        clear hC htk hS hp hl1 hl2
        go_wp2_with fail
        refine HC.out.mono ?_
        rintro e w' ⟨rfl, rfl⟩
        go_upto_region 8 with (at_builtin; go_must (refine app1 rfl _ _ 28 9 (.string ⟨#[]⟩) 16 rfl Try.underlying28 infoStr rfl (by decide) u4 (oldS ls) (.string px) rfl rfl rfl hRl hll.out.1 ?_); intro g c w1 hR1 hor1 hf1 _)
        have hblk1 := hf1.blk hB.blk (hRl.ne hB.blk (by decide))
        have f3 := hblk1.cell 3 rfl
        have hne : ∀ i, i < W.heap.size → ¬ u4.ownBlock = some i := fun i hi hh => by have := hNl i hh; omega
        have f2 := hf1.cell e2 (hne _ hog.2)
        have hRa1 := hRa.fr hf1 (fun q hq hh => hRl.ne_row hRa (by decide) q hh hq)
        have hRf1 := hRf.fr hf1 (fun q hq hh => (hNf q hq).2 hh)
        have hF1 := hF.trans hf1 (fun i hi hh => hne i hi hh)
        have hNg : W.heap.size ≤ g ∧ ∀ q, u3.ownBlock = some q → g ≠ q := by
          rcases hor1 with h' | h'
          · exact ⟨hNl _ h', fun q hq e => (hNf q hq).2 (by rw [← e]; exact h')⟩
          · have h1 := hF.size
            exact ⟨by omega, fun q hq e => by have := hRf.lt hq; omega⟩
        clear c2 c3 e1 e2 hRa hRf hRl hF hf1 hor1 hne
        go_wp2_with (at_builtin; go_must (refine app1 rfl _ _ 27 3 (.int .i64 0) 8 rfl Try.underlying27 infoInt rfl (by decide) u5 (i64s (oldA ls)) (.int .i64 pt) rfl rfl rfl hRa1 hll.out.2 ?_); intro g2 c2 w2 hR2 hor2 hf2 _)
        go_roundw
        case rel =>
          refine ⟨j + 1, by go_num, by omega, ?_, ?_, ?_, hF1.trans hf2 (fun i hi hh => by have := hNa i hh; omega), fun q hq => ?_, fun q hq => ?_, fun q hq => ?_⟩
          · rw [t2.out]; exact hRf1.fr hf2 (fun q hq hh => hRf1.ne_row hRa1 (by decide) q hq hh)
          · rw [t1.out, oldS_snoc]; exact hR1.fr hf2 (fun q hq hh => hR1.ne_row hRa1 (by decide) q hq hh)
          · rw [t1.out, oldA_snoc]; exact hR2
          · have hq' : g = q := by simpa [Value.ownBlock] using hq
            subst hq'
            exact hNg.1
          · have hq' : g2 = q := by simpa [Value.ownBlock] using hq
            subst hq'
            rcases hor2 with h' | h'
            · exact hNa _ h'
            · have := hF1.size; omega
          · refine ⟨(hNf q hq).1, fun hh => hNg.2 q hq ?_⟩
            simpa [Value.ownBlock] using hh
        case measure => simp [intOf]; omega
    · obtain rfl : j = old.length := by omega
      rw [List.take_of_length_le (Nat.le_refl _)] at hRf hRl hRa
      have f2 := hB.blk.free 2
      have f3 := hB.blk.free 3
      obtain ⟨lA, lc, rfl⟩ := hRl.slice
      obtain ⟨mA, mc, rfl⟩ := hRa.slice
      have d2 := hB.blk.set 2 (.slice lA (oldS (old.filter fun p => seenB now slots p.2)).length lc)
      have d3 := d2.cell 3 rfl
      go_wp2
      go_ret
      refine ⟨_, _, _, rfl, ⟨d2.set 3 _, ?_, ?_, ?_, ?_, ?_⟩, ?_, ?_, hNl, hNa, hNf⟩
      · exact (hB.slot.other (hB.slot.ne hB.blk (by decide)) _).other (hB.slot.ne hB.blk (by decide)) _
      · exact (hRl.other (hRl.ne hB.blk (by decide)) _).other (hRl.ne hB.blk (by decide)) _
      · exact (hRa.other (hRa.ne hB.blk (by decide)) _).other (hRa.ne hB.blk (by decide)) _
      · intro q hq hh
        have h1 := hNa q hh
        have h2 := H.out.slot.lt hq
        omega
      · rw [oldS_len, oldA_len]
      · exact (hRf.other (hRf.ne hB.blk (by decide)) _).other (hRf.ne hB.blk (by decide)) _
      · exact Fr.setCell (S := fun q => q = b) (Fr.setCell (S := fun q => q = b) (hF.mono (fun _ _ hh => hh.elim)) _ _ (fun _ => rfl)) _ _ (fun _ => rfl)
end Go.Proofs.Ytolkoagjompjjaa
