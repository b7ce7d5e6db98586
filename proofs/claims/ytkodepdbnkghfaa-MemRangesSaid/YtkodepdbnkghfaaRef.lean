/- The document's lists: Put, Without, Get. Conditions: those of the lemmas. -/
import Derived.Test.YtkodepdbnkghfaaLists
import Derived.Test.YtkodepdbnkghfaaPutI
import Derived.Deep.DeepCutAuto
namespace Go.Proofs.Ytkodepdbnkghfaa
open Go.RowKit
theorem getD_some {α : Type} {l : List α} {i : Nat} {p : α} (h : l[i]? = some p) (d : α) : l.getD i d = p := by rw [List.getD_eq_getElem?_getD, h]; rfl
theorem rput_fin {W wr w1 : World} {k : ByteArray} {v : Int} {l : List (ByteArray × Int)} {j m : Nat} {ov : Value} {g c' : Nat} {ys : List (List Value)} (hR1 : RowK w1 59 2 (.slice (some ⟨g, 0, none⟩) (ys.length + 1) c') (ys ++ [[.string k, .int .i64 v]])) (HY : prs (l.take j) = ys)
    (hf : Fr (fun _ => False) W wr) (hn : ∀ q, ov.ownBlock = some q → W.heap.size ≤ q) (hor : ov.ownBlock = some g ∨ wr.heap.size < g) (hf1 : Fr (fun q => ov.ownBlock = some q) wr w1) (hm : lput l k v = l.take j ++ (k, v) :: l.drop m) :
    ∀ v2 w2, RowK w2 59 2 v2 (ys ++ [[.string k, .int .i64 v]] ++ prs (l.drop m)) → (v2.ownBlock = (Value.slice (some ⟨g, 0, none⟩) (ys.length + 1) c').ownBlock ∨ v2.ownBlock = some w1.heap.size) → Fr (fun q => (Value.slice (some ⟨g, 0, none⟩) (ys.length + 1) c').ownBlock = some q) w1 w2 →
      ∃ A' c', Ending.returned v2 = .returned (.slice A' (lput l k v).length c') ∧ Lst w2 A' c' (lput l k v) ∧ Fr (fun _ => False) W w2 ∧ ∀ ad, A' = some ad → W.heap.size ≤ ad.block := by
  intro v2 w2 hR2 hat2 hf2
  have e : ys ++ [[.string k, .int .i64 v]] ++ prs (l.drop m) = prs (lput l k v) := by rw [hm, ← HY]; simp [prs, pr]
  rw [e] at hR2
  obtain ⟨A', c2, rfl, hL, hA⟩ := Lst.ofRow hR2
  refine ⟨A', c2, rfl, hL, (hf.trans hf1 (fun i hi hh => by have := hn i hh; omega)).trans hf2 (fun i hi hh => ?_), fun ad had => ?_⟩
  rotate_left
  · have h1 := hA ad had
    rcases hat2 with h2 | h2
    · rw [h2] at h1
      have hq : g = ad.block := by simpa [Value.ownBlock] using h1
      rw [← hq]
      rcases hor with h | h
      · exact hn _ h
      · have := hf.size; omega
    · rw [h2] at h1
      injection h1 with h1
      have := hf.size
      have := hf1.size
      omega
  have hq : g = i := by simpa [Value.ownBlock] using hh
  subst hq
  rcases hor with h | h
  · have := hn _ h; omega
  · have := hf.size; omega
set_option maxHeartbeats 1000000 in
set_option maxRecDepth 100000 in
theorem rput_any {W : World} {A : Option Addr} {c : Nat} {l : List (ByteArray × Int)} (h : Lst W A c l) (k : ByteArray) (v : Int) (hlen : l.length ≤ 900000) :
    Calls Try.prog 26 #[.slice A l.length c, .string k, .int .i64 v] W fun e w' => ∃ A' c', e = .returned (.slice A' (lput l k v).length c') ∧ Lst w' A' c' (lput l k v) ∧ Fr (fun _ => False) W w' ∧ ∀ ad, A' = some ad → W.heap.size ≤ ad.block := by
  have H := Lib.hid h
  have hle := h.le
  have hmx := h.mx
  clear h
  go_enter Try.func26, Try.ntmps26
  go_wp2_with fail
  go_loopw [7, 8] (fun ov i wr => ∃ j : Nat, i = .int .i64 j ∧ j ≤ l.length ∧ RowK wr 59 2 ov (prs (l.take j)) ∧ (∀ p ∈ l.take j, sLt p.1 k = true) ∧ Fr (fun _ => False) W wr ∧ (∀ q, ov.ownBlock = some q → W.heap.size ≤ q)) (fun _ i _ => l.length - (intOf i).toNat)
  case atStart => exact ⟨0, rfl, Nat.zero_le _, RowK.nil _ _ _, (fun p hp => by simp at hp), Fr.refl _ _, (fun q hq => by simp [Value.ownBlock] at hq)⟩
  case round =>
    obtain ⟨j, rfl, hj, hR, hall, hf, hn⟩ := hrel
    by_cases hgo : j < l.length ∧ ∃ p, l[j]? = some p ∧ sLt p.1 k = true
    · obtain ⟨hjl, p, hp, hc⟩ := hgo
      obtain ⟨ad, rfl, c0, c1⟩ := (H.out.new hf).cells hp
      have t1 : Op.bytesLess p.1.toList k.toList = true := hc
      have g1 : (j : Int) < (l.length : Int) := by omega
      have htk : l.take (j + 1) = l.take j ++ [p] := by rw [List.take_add_one, hp]; rfl
      have hR' : Hid (prs (l.take (j + 1)) = prs (l.take j) ++ [pr p]) := by unfold Hid; rw [htk, prs_snoc]
      have hall' : Hid (∀ q ∈ l.take (j + 1), sLt q.1 k = true) := by
        unfold Hid
        rw [htk]
        intro q hq
        rcases List.mem_append.1 hq with hq | hq
        · exact hall q hq
        · rw [List.mem_singleton.1 hq]; exact hc
      have hlen' : Hid (((prs (l.take j)).length + 1) * 24 ≤ 140737488355328) := by unfold Hid; rw [prs_len, List.length_take]; omega
      obtain ⟨pk, pv⟩ := p
      simp only [pr] at hR'
      clear htk hp hc hall
      generalize prs (l.take j) = ys at hR hR' hlen'
      go_wp2_with (at_builtin; go_must (refine appK rfl _ _ 41 59 (.agg #[.string ⟨#[]⟩, .int .i64 0]) 2 24 rfl Try.underlying41 infoPr rfl (by decide) (by decide) u7 ys [.string pk, .int .i64 pv] rfl rfl rfl (by simp [Value.oneCell']) hR hlen'.out ?_); intro g c' w1 hR1 hor1 hf1 _)
      go_roundw
      case rel =>
        refine ⟨j + 1, by go_num, by omega, ?_, hall'.out, hf.trans hf1 (fun i hi hh => by have := hn i hh; omega), fun q hq => ?_⟩
        · rw [hR'.out]
          exact hR1
        · have hq' : g = q := by simpa [Value.ownBlock] using hq
          subst hq'
          rcases hor1 with h' | h'
          · exact hn _ h'
          · have := hf.size; omega
      case measure => simp [intOf]; omega
    · have hstop : ∀ p, l[j]? = some p → sLt p.1 k = false := by
        intro p hp
        have hjl : j < l.length := (List.getElem?_eq_some_iff.1 hp).1
        by_cases c : sLt p.1 k = true
        · exact absurd ⟨hjl, p, hp, c⟩ hgo
        · simpa using c
      have hput := lput_at k v l j hall hstop hj
      have hlt : (prs (l.take j)).length ≤ 900000 := by rw [prs_len, List.length_take]; omega
      have hl2 : Hid (((prs (l.take j)).length + 1) * 24 ≤ 140737488355328) := by unfold Hid; rw [prs_len, List.length_take]; omega
      have Hput := Lib.hid hput
      have hR0 := hR
      have hys : Hid (prs (l.take j) = prs (l.take j)) := rfl
      clear hput hall hgo
      generalize hY : prs (l.take j) = ys at hR hl2
      have HY := Lib.hid hY
      clear hY hys hR0
      have k0 : ∀ w1 p, l[j]? = some p → Fr (fun i => u7.ownBlock = some i) wr w1 → ∃ ad, A = some ad ∧ w1.cell? (ad.add (j * 2)) = some (.string p.1) := by
        intro w1 p hp hf1
        obtain ⟨ad, rfl, c0, _⟩ := (H.out.new hf).cells hp
        refine ⟨ad, rfl, hf1.cell c0 (fun hh => ?_)⟩
        rw [add_block] at hh
        have h2 := hn _ hh
        obtain ⟨ad', e', hc', _⟩ := H.out.cells hp
        cases e'
        have h3 := World.block_lt_of_cell? W _ hc'
        rw [add_block] at h3
        omega
      have K0 := Lib.hid k0
      have Hstop := Lib.hid hstop
      clear k0 hstop
      have hexit : j < l.length → ∃ ad p, A = some ad ∧ l[j]? = some p ∧ wr.cell? (ad.add (j * 2)) = some (.string p.1) ∧ Op.bytesLess p.1.toList k.toList = false := by
        intro hjl
        obtain ⟨ad, e, hc⟩ := K0.out wr _ (List.getElem?_eq_getElem hjl) (Fr.refl _ _)
        exact ⟨ad, _, e, List.getElem?_eq_getElem hjl, hc, Hstop.out _ (List.getElem?_eq_getElem hjl)⟩
      by_cases hjl : j < l.length
      · obtain ⟨ad, p, rfl, hp, c0, t1⟩ := hexit hjl
        have g1 : (j : Int) < (l.length : Int) := by omega
        have Hp := Lib.hid hp
        obtain ⟨pk, pv⟩ := p
        simp only at c0 t1
        clear hexit hp
        by_cases ce : pk = k
        · subst ce
          have Hm : Hid (lput l pk v = l.take j ++ (pk, v) :: l.drop (j + 1)) := by unfold Hid; rw [Hput.out, Hp.out]; simp
          have Hsz : Hid ((ys.length + 1 + (prs (l.drop (j + 1))).length) * 24 ≤ 140737488355328) := by
            unfold Hid
            have h1 := congrArg List.length HY.out
            rw [prs_len, List.length_take] at h1
            rw [prs_len, List.length_drop]
            omega
          have Hrd : Hid (∀ w1, Fr (fun q => u7.ownBlock = some q) wr w1 → Rd w1 (some (ad.add ((j + 1) * 2))) (prs (l.drop (j + 1))).flatten) := by
            unfold Hid
            intro w1 hf1
            refine ((H.out.drop (j + 1)).fr hf (fun _ _ => id)).fr hf1 (fun ad' e' hh => ?_)
            cases e'
            rw [add_block] at hh
            obtain ⟨ad', e', hc', _⟩ := H.out.cells Hp.out
            cases e'
            have h3 := World.block_lt_of_cell? W _ hc'
            rw [add_block] at h3
            have := hn _ hh
            omega
          have Hnil : Hid (c = j + 1 → ∀ w1, Rd w1 (some ad) (prs (l.drop (j + 1))).flatten) := by
            unfold Hid
            intro h w1 i v hv
            rw [List.drop_of_length_le (by omega)] at hv
            simp [prs] at hv
          go_upto_region 9 with (at_builtin; go_must (refine appK rfl _ _ 41 59 (.agg #[.string ⟨#[]⟩, .int .i64 0]) 2 24 rfl Try.underlying41 infoPr rfl (by decide) (by decide) u7 ys [.string pk, .int .i64 v] rfl rfl rfl (by simp [Value.oneCell']) hR hl2.out ?_); intro g c' w1 hR1 hor1 hf1 _; obtain ⟨ad', e', k0'⟩ := K0.out w1 _ Hp.out hf1; cases e'; have Hfin := Lib.hid (rput_fin hR1 (HY := HY.out) hf hn hor1 hf1 Hm.out); have Hrd1 := Lib.hid (Hrd.out w1 hf1); clear hor1 hf1)
          by_cases hcm : c = j + 1
          · have Hrd2 := Lib.hid (Hnil.out hcm w1)
            go_wp2_with (at_builtin; go_must (refine appNK rfl _ _ 41 59 (.agg #[.string ⟨#[]⟩, .int .i64 0]) 2 24 rfl Try.underlying41 infoPr rfl (by decide) (by decide) (.slice (some ⟨g, 0, none⟩) (ys.length + 1) c') (ys ++ [[.string pk, .int .i64 v]]) rfl (some ad) (prs (l.drop (j + 1))) (l.length - (j + 1)) _ ?_ rfl hR1 (prs_two _) ?_ (prs_one _) ?_ ?_); (rw [prs_len, List.length_drop]); exact Hrd2.out; (try simp only [List.length_append, List.length_cons, List.length_nil, Nat.zero_add]); exact Hsz.out; intro v2 w2 hR2 hat2 hf2)
            go_ret
            exact Hfin.out v2 w2 hR2 hat2 hf2
          · go_wp2_with (at_builtin; go_must (refine appNK rfl _ _ 41 59 (.agg #[.string ⟨#[]⟩, .int .i64 0]) 2 24 rfl Try.underlying41 infoPr rfl (by decide) (by decide) (.slice (some ⟨g, 0, none⟩) (ys.length + 1) c') (ys ++ [[.string pk, .int .i64 v]]) rfl (some (ad.add ((j + 1) * 2))) (prs (l.drop (j + 1))) (l.length - (j + 1)) _ ?_ rfl hR1 (prs_two _) ?_ (prs_one _) ?_ ?_); (rw [prs_len, List.length_drop]); exact Hrd1.out; (try simp only [List.length_append, List.length_cons, List.length_nil, Nat.zero_add]); exact Hsz.out; intro v2 w2 hR2 hat2 hf2)
            go_ret
            exact Hfin.out v2 w2 hR2 hat2 hf2
        · have t2 := toList_ne ce
          have T3 : Hid (¬ (some pk : Option ByteArray) = some k) := fun e => ce (by injection e)
          have Hm : Hid (lput l k v = l.take j ++ (k, v) :: l.drop (j)) := by unfold Hid; rw [Hput.out, Hp.out, Option.map_some, if_neg T3.out]
          have Hsz : Hid ((ys.length + 1 + (prs (l.drop (j))).length) * 24 ≤ 140737488355328) := by
            unfold Hid
            have h1 := congrArg List.length HY.out
            rw [prs_len, List.length_take] at h1
            rw [prs_len, List.length_drop]
            omega
          have Hrd : Hid (∀ w1, Fr (fun q => u7.ownBlock = some q) wr w1 → Rd w1 (some (ad.add ((j) * 2))) (prs (l.drop (j))).flatten) := by
            unfold Hid
            intro w1 hf1
            refine ((H.out.drop (j)).fr hf (fun _ _ => id)).fr hf1 (fun ad' e' hh => ?_)
            cases e'
            rw [add_block] at hh
            obtain ⟨ad', e', hc', _⟩ := H.out.cells Hp.out
            cases e'
            have h3 := World.block_lt_of_cell? W _ hc'
            rw [add_block] at h3
            have := hn _ hh
            omega
          have Hnil : Hid (c = j → ∀ w1, Rd w1 (some ad) (prs (l.drop (j))).flatten) := by
            unfold Hid
            intro h w1 i v hv
            rw [List.drop_of_length_le (by omega)] at hv
            simp [prs] at hv
          go_upto_region 9 with (at_builtin; go_must (refine appK rfl _ _ 41 59 (.agg #[.string ⟨#[]⟩, .int .i64 0]) 2 24 rfl Try.underlying41 infoPr rfl (by decide) (by decide) u7 ys [.string k, .int .i64 v] rfl rfl rfl (by simp [Value.oneCell']) hR hl2.out ?_); intro g c' w1 hR1 hor1 hf1 _; obtain ⟨ad', e', k0'⟩ := K0.out w1 _ Hp.out hf1; cases e'; have Hfin := Lib.hid (rput_fin hR1 (HY := HY.out) hf hn hor1 hf1 Hm.out); have Hrd1 := Lib.hid (Hrd.out w1 hf1); clear hor1 hf1)
          by_cases hcm : c = j
          · have Hrd2 := Lib.hid (Hnil.out hcm w1)
            go_wp2_with (at_builtin; go_must (refine appNK rfl _ _ 41 59 (.agg #[.string ⟨#[]⟩, .int .i64 0]) 2 24 rfl Try.underlying41 infoPr rfl (by decide) (by decide) (.slice (some ⟨g, 0, none⟩) (ys.length + 1) c') (ys ++ [[.string k, .int .i64 v]]) rfl (some ad) (prs (l.drop (j))) (l.length - (j)) _ ?_ rfl hR1 (prs_two _) ?_ (prs_one _) ?_ ?_); (rw [prs_len, List.length_drop]); exact Hrd2.out; (try simp only [List.length_append, List.length_cons, List.length_nil, Nat.zero_add]); exact Hsz.out; intro v2 w2 hR2 hat2 hf2)
            go_ret
            exact Hfin.out v2 w2 hR2 hat2 hf2
          · go_wp2_with (at_builtin; go_must (refine appNK rfl _ _ 41 59 (.agg #[.string ⟨#[]⟩, .int .i64 0]) 2 24 rfl Try.underlying41 infoPr rfl (by decide) (by decide) (.slice (some ⟨g, 0, none⟩) (ys.length + 1) c') (ys ++ [[.string k, .int .i64 v]]) rfl (some (ad.add ((j) * 2))) (prs (l.drop (j))) (l.length - (j)) _ ?_ rfl hR1 (prs_two _) ?_ (prs_one _) ?_ ?_); (rw [prs_len, List.length_drop]); exact Hrd1.out; (try simp only [List.length_append, List.length_cons, List.length_nil, Nat.zero_add]); exact Hsz.out; intro v2 w2 hR2 hat2 hf2)
            go_ret
            exact Hfin.out v2 w2 hR2 hat2 hf2
      · obtain rfl : j = l.length := by omega
        have Hm : Hid (lput l k v = l.take l.length ++ (k, v) :: l.drop l.length) := by
          unfold Hid
          rw [Hput.out, List.getElem?_eq_none (Nat.le_refl _)]
          simp
        have Hsz : Hid ((ys.length + 1 + (prs (l.drop l.length)).length) * 24 ≤ 140737488355328) := by
          unfold Hid
          have h1 := congrArg List.length HY.out
          rw [prs_len, List.length_take] at h1
          rw [prs_len, List.length_drop]
          omega
        have Hrd : Hid (∀ w1 A2, Rd w1 A2 (prs (l.drop l.length)).flatten) := by
          intro w1 A2 i v hv
          simp [prs] at hv
        clear Hput hexit
        go_upto_region 9 with (at_builtin; go_must (refine appK rfl _ _ 41 59 (.agg #[.string ⟨#[]⟩, .int .i64 0]) 2 24 rfl Try.underlying41 infoPr rfl (by decide) (by decide) u7 ys [.string k, .int .i64 v] rfl rfl rfl (by simp [Value.oneCell']) hR hl2.out ?_); intro g c' w1 hR1 hor1 hf1 _; have Hfin := Lib.hid (rput_fin hR1 (HY := HY.out) hf hn hor1 hf1 Hm.out); clear hor1 hf1)
        have hnn := H.out.nn
        cases A with
        | none =>
          have hc0 := hnn rfl
          have hl0 : l.length = 0 := by omega
          have L0 := Lib.hid hl0
          clear hl0 hnn
          subst hc0
          go_wp2_with (at_builtin; go_must (refine appNK rfl _ _ 41 59 (.agg #[.string ⟨#[]⟩, .int .i64 0]) 2 24 rfl Try.underlying41 infoPr rfl (by decide) (by decide) (.slice (some ⟨g, 0, none⟩) (ys.length + 1) c') (ys ++ [[.string k, .int .i64 v]]) rfl none (prs (l.drop l.length)) 0 _ ?_ rfl hR1 (prs_two _) ?_ (prs_one _) ?_ ?_); (rw [prs_len, List.length_drop, Nat.sub_self]); exact Hrd.out _ _; (try simp only [List.length_append, List.length_cons, List.length_nil, Nat.zero_add]); exact Hsz.out; intro v2 w2 hR2 hat2 hf2)
          go_ret
          exact Hfin.out v2 w2 hR2 hat2 hf2
        | some ad =>
          clear hnn
          by_cases hcm : c = l.length
          · go_wp2_with (at_builtin; go_must (refine appNK rfl _ _ 41 59 (.agg #[.string ⟨#[]⟩, .int .i64 0]) 2 24 rfl Try.underlying41 infoPr rfl (by decide) (by decide) (.slice (some ⟨g, 0, none⟩) (ys.length + 1) c') (ys ++ [[.string k, .int .i64 v]]) rfl (some ad) (prs (l.drop l.length)) 0 _ ?_ rfl hR1 (prs_two _) ?_ (prs_one _) ?_ ?_); (rw [prs_len, List.length_drop, Nat.sub_self]); exact Hrd.out _ _; (try simp only [List.length_append, List.length_cons, List.length_nil, Nat.zero_add]); exact Hsz.out; intro v2 w2 hR2 hat2 hf2)
            go_ret
            exact Hfin.out v2 w2 hR2 hat2 hf2
          · go_wp2_with (at_builtin; go_must (refine appNK rfl _ _ 41 59 (.agg #[.string ⟨#[]⟩, .int .i64 0]) 2 24 rfl Try.underlying41 infoPr rfl (by decide) (by decide) (.slice (some ⟨g, 0, none⟩) (ys.length + 1) c') (ys ++ [[.string k, .int .i64 v]]) rfl (some (ad.add (l.length * 2))) (prs (l.drop l.length)) 0 _ ?_ rfl hR1 (prs_two _) ?_ (prs_one _) ?_ ?_); (rw [prs_len, List.length_drop, Nat.sub_self]); exact Hrd.out _ _; (try simp only [List.length_append, List.length_cons, List.length_nil, Nat.zero_add]); exact Hsz.out; intro v2 w2 hR2 hat2 hf2)
            go_ret
            exact Hfin.out v2 w2 hR2 hat2 hf2
end Go.Proofs.Ytkodepdbnkghfaa
