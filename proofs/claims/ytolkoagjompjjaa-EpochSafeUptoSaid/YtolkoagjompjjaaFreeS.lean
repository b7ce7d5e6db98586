/- A book's Free. Conditions: those of the lemmas. -/
import Derived.Test.YtolkoagjompjjaaRetireS
namespace Go.Proofs.Ytolkoagjompjjaa
open Go.RowKit
set_option maxHeartbeats 1000000 in
set_option maxRecDepth 100000 in
theorem freeS_any {W : World} {b : Nat} {now : Int} {sv : Value} {slots : List Int} {ov : Value} {old : List (Value × Int)} (h : BookS W b now sv slots ov old) (hs : slots.length ≤ 16)
    (hth : ∀ p ∈ old, ∃ e, p.1 = Value.string e) (hsz : old.length * 24 ≤ 140737488355328) :
    Calls Try.prog 17 #[.pointer (some ⟨b, 0, none⟩)] W fun e w' => ∃ fv ov', e = .returned fv ∧
      BookS w' b now sv slots ov' (old.filter fun p => !decide (p.2 < firstOf now slots)) ∧ Row w' 9 fv ((old.filter fun p => decide (p.2 < firstOf now slots)).map Prod.fst) ∧
      Fr (fun q => q = b) W w' ∧ (∀ q, ov'.ownBlock = some q → W.heap.size ≤ q) ∧ (∀ q, fv.ownBlock = some q → W.heap.size ≤ q) := by
  have k0 := h.blk.cell 0 rfl
  have k1 := h.blk.cell 1 rfl
  have k2 := h.blk.cell 2 rfl
  have k2f := h.blk.free 2
  obtain ⟨sA, sc, hv⟩ := h.slot.slice
  rw [i64s_len] at hv
  subst hv
  obtain ⟨oA, oc, hv⟩ := h.wait.slice
  rw [waits_len] at hv
  subst hv
  have hrow := h.slot
  have Hth := Lib.hid hth
  have Hsz := Lib.hid hsz
  have hob : old.length ≤ 140737488355328 := by omega
  clear hth hsz
  go_enter Try.func17, Try.ntmps17
  go_wp2_with fail
  go_loop [3, 21] (fun c i => ∃ k : Nat, k ≤ slots.length ∧ i = .int .i64 k ∧ c = .int .i64 (firstOf now (slots.take k))) (fun _ i => slots.length - (intOf i).toNat)
  case atStart => exact ⟨0, Nat.zero_le _, rfl, rfl⟩
  case round =>
    obtain ⟨k, hk, rfl, rfl⟩ := hrel
    by_cases hlt : k < slots.length
    · obtain ⟨g, rfl, hgc⟩ := hrow.head (by omega)
      have kc := hrow.cell k (i64s_at hlt)
      have ka : (⟨g, 0, none⟩ : Addr).add k = ⟨g, k, none⟩ := add_plain g k
      have hst := firstOf_step now slots k hlt
      generalize slots.getD k 0 = z at kc hst
      generalize firstOf now (slots.take k) = r at hst
      have Hst := Lib.hid hst
      clear hst
      by_cases hz : z = 0
      · subst hz
        go_wp2
        go_round
        case rel => exact ⟨k + 1, by omega, by go_num, by rw [Hst.out, if_neg (by simp)]⟩
        case measure => simp [intOf]; omega
      · by_cases hm : r ≤ z
        · go_wp2
          go_round
          case rel => exact ⟨k + 1, by omega, by go_num, by rw [Hst.out, if_pos hz, Int.min_eq_left hm]⟩
          case measure => simp [intOf]; omega
        · have hm' : z < r := by omega
          go_wp2
          go_round
          case rel => exact ⟨k + 1, by omega, by go_num, by rw [Hst.out, if_pos hz, Int.min_eq_right (by omega)]⟩
          case measure => simp [intOf]; omega
    · obtain rfl : k = slots.length := by omega
      rw [List.take_of_length_le (Nat.le_refl _)]
      generalize hFF : firstOf now slots = F
      have HFF := Lib.hid hFF
      clear hFF
      go_wp2_with fail
      go_loopw [6, 7, 36] (fun fv lv i W' => ∃ k : Nat, k ≤ old.length ∧ i = .int .i64 k ∧ Row W' 9 fv (((old.take k).filter fun p => decide (p.2 < F)).map Prod.fst) ∧ RowK W' 61 2 lv (waits ((old.take k).filter fun p => !decide (p.2 < F))) ∧
        Fr (fun _ => False) W W' ∧ (∀ q, lv.ownBlock = some q → W.heap.size ≤ q) ∧ (∀ q, fv.ownBlock = some q → W.heap.size ≤ q)) (fun _ _ i _ => old.length - (intOf i).toNat)
      case atStart => exact ⟨0, Nat.zero_le _, rfl, Row.nil _ _, RowK.nil _ _ _, Fr.refl _ _, (fun q hq => by simp [Value.ownBlock] at hq), (fun q hq => by simp [Value.ownBlock] at hq)⟩
      case round =>
        obtain ⟨j, hj, rfl, hR, hL, hF, hNl, hNf⟩ := hrel
        by_cases hjl : j < old.length
        · have hpj : old[j]? = some (old[j]'hjl) := List.getElem?_eq_getElem _
          obtain ⟨e, he⟩ := Hth.out _ (List.mem_of_getElem? hpj)
          have hwj : (waits old)[j]? = some [(old[j]'hjl).1, .int .i64 (old[j]'hjl).2] := by simp [waits, hpj]
          obtain ⟨g, rfl, hgc⟩ := h.wait.head (by omega)
          have c0 := hF.cell (h.wait.cell j 0 hwj rfl) id
          have c1 := hF.cell (h.wait.cell j 1 hwj rfl) id
          rw [he, Nat.add_zero] at c0
          have htf : Hid (((old.take (j + 1)).filter fun p => decide (p.2 < F)).map Prod.fst = if (old[j]'hjl).2 < F then ((old.take j).filter fun p => decide (p.2 < F)).map Prod.fst ++ [Value.string e] else ((old.take j).filter fun p => decide (p.2 < F)).map Prod.fst) := by
            unfold Hid
            rw [List.take_add_one, hpj, List.filter_append, List.map_append]
            by_cases hh : (old[j]'hjl).2 < F
            · rw [if_pos hh]; simp [hh, he]
            · rw [if_neg hh]; simp [hh]
          have htl : Hid ((old.take (j + 1)).filter (fun p => !decide (p.2 < F)) = if (old[j]'hjl).2 < F then (old.take j).filter (fun p => !decide (p.2 < F)) else (old.take j).filter (fun p => !decide (p.2 < F)) ++ [(Value.string e, (old[j]'hjl).2)]) := by
            unfold Hid
            rw [List.take_add_one, hpj, List.filter_append]
            by_cases hh : (old[j]'hjl).2 < F
            · rw [if_pos hh]; simp [hh]
            · rw [if_neg hh]; simp [hh, ← he]
          have hl1 : ((old.take j).filter fun p => decide (p.2 < F)).length ≤ j := Nat.le_trans (List.length_filter_le _ _) (by rw [List.length_take]; omega)
          have hl2 : ((old.take j).filter fun p => !decide (p.2 < F)).length ≤ j := Nat.le_trans (List.length_filter_le _ _) (by rw [List.length_take]; omega)
          generalize (old[j]'hjl).2 = t at c1 hwj htf htl
          generalize (old.take j).filter (fun p => !decide (p.2 < F)) = ls at hL hl2 htl
          generalize (old.take j).filter (fun p => decide (p.2 < F)) = fs at hR hl1 htf
          clear hwj hpj
          go_upto_region 15 with fail
          have hK9 := Blk.new wr [Value.string e, .int .i64 t] 61
          have hR9 := hR.alloc (.cells #[Value.string e, .int .i64 t] 61)
          have hL9 := hL.alloc (.cells #[Value.string e, .int .i64 t] 61)
          have hF9 := hF.alloc (.cells #[Value.string e, .int .i64 t] 61)
          have hz9 : wr.heap.size < (wr.alloc (.cells #[Value.string e, .int .i64 t] 61)).heap.size := by simp
          simp only [List.toArray] at hK9
          have Hsz2 : Hid ((ls.length + 1) * 24 ≤ 140737488355328 ∧ (fs.length + 1) * 16 ≤ 140737488355328) := by
            have := Hsz.out
            exact ⟨by omega, by omega⟩
          clear hR hL hF c0 c1
          generalize wr.alloc (.cells #[Value.string e, .int .i64 t] 61) = w9 at hK9 hR9 hL9 hF9 hz9 ⊢
          have k9 := hK9.cell 0 rfl
          have k9' := hK9.cell 1 rfl
          by_cases htF : t < F
          · rw [if_pos htF] at htf htl
            go_wp2_with (at_builtin; go_must (refine app1 rfl _ _ 28 9 (Value.string ⟨#[]⟩) 16 rfl Try.underlying28 infoTS rfl (by decide) u6 (fs.map Prod.fst) (Value.string e) rfl rfl rfl hR9 (by rw [List.length_map]; exact Hsz2.out.2) ?_); intro g1 c1 w10 hR10 hor10 hf10 _)
            go_roundw
            case rel =>
              refine ⟨j + 1, by omega, by go_num, by rw [htf.out]; rw [List.length_map] at hR10; exact hR10, ?_, hF9.trans hf10 (fun i hi hh => by have := hNf i hh; omega), hNl, fun q hq => ?_⟩
              · rw [htl.out]
                exact hL9.fr hf10 (fun q hq hh => hL9.ne_row hR9 (by decide) q hq hh)
              · have hq' : g1 = q := by simpa [Value.ownBlock] using hq
                subst hq'
                rcases hor10 with h' | h'
                · exact hNf _ h'
                · have := hF9.size; omega
            case measure => simp [intOf]; omega
          · rw [if_neg htF] at htf htl
            go_wp2_with (at_builtin; go_must (refine appK rfl _ _ 56 61 (.agg #[(Value.string ⟨#[]⟩), .int .i64 0]) 2 24 rfl Try.underlying56 infoWS rfl (by decide) (by decide) u7 (waits ls) [Value.string e, .int .i64 t] rfl rfl rfl (by simp [Value.oneCell']) hL9 (by rw [waits_len]; exact Hsz2.out.1) ?_); intro g1 c1 w10 hR10 hor10 hf10 _)
            go_roundw
            case rel =>
              refine ⟨j + 1, by omega, by go_num, ?_, ?_, hF9.trans hf10 (fun i hi hh => by have := hNl i hh; omega), fun q hq => ?_, hNf⟩
              · rw [htf.out]
                exact hR9.fr hf10 (fun q hq hh => hL9.ne_row hR9 (by decide) q hh hq)
              · rw [htl.out, waits_snoc]
                exact hR10
              · have hq' : g1 = q := by simpa [Value.ownBlock] using hq
                subst hq'
                rcases hor10 with h' | h'
                · exact hNl _ h'
                · have := hF9.size; omega
            case measure => simp [intOf]; omega
        · obtain rfl : j = old.length := by omega
          rw [List.take_of_length_le (Nat.le_refl _)] at hR hL
          have hbk := hF.blk h.blk id
          have k2' := hbk.cell 2 rfl
          have k2f' := hbk.free 2
          obtain ⟨lA, lc, rfl⟩ := hL.slice
          go_wp2
          go_ret
          rw [HFF.out]
          refine ⟨_, _, rfl, ⟨hbk.set 2 _, (hrow.fr hF (fun _ _ => id)).other (hrow.ne h.blk (by decide)) _, hL.other (hL.ne hbk (by decide)) _⟩, hR.other (hR.ne hbk (by decide)) _, (hF.mono (fun _ _ hh => hh.elim)).setCell _ _ (fun _ => rfl), hNl, hNf⟩
end Go.Proofs.Ytolkoagjompjjaa
