/- The law MergeParts, walked. Conditions: those of the lemmas. -/
import Derived.Test.YtcpnjlnphjnhnaaPartsS
namespace Go.Proofs.Ytcpnjlnphjnhnaa
open Go.RowKit
set_option maxHeartbeats 4000000 in
set_option maxRecDepth 100000 in
theorem parts_any {W : World} {A : Option Addr} {cp : Nat} {ls : List LiD} (n : Int) (hR : RdL W A ls) : Calls Try.prog 5 #[.slice A ls.length cp, .int .i64 n] W fun en w' => en = .returned (.bool true) ∧ Fr (fun _ => False) W w' := by
  go_enter Try.func5, Try.ntmps5
  go_wp2_with fail
  refine (awake_any _).mono ?_
  rintro en w1 ⟨rfl, hf1⟩
  have hR1 := hR.new hf1
  by_cases h12 : (12 : Int) < (ls.length : Int)
  · have HF := Lib.hid hf1
    clear hf1 hR1 hR
    go_wp2_with fail
    refine (awake_any _).mono ?_
    rintro en w3 ⟨rfl, hf3⟩
    have HF2 := Lib.hid (HF.out.trans hf3 (fun _ _ h => h))
    clear HF hf3
    go_wp2
    go_ret
    exact ⟨rfl, HF2.out⟩
  · go_wp2_with fail
    go_loopw [5, 6] (fun v i wr => ∃ (j : Nat) (LD : List RowD), i = .int .i64 j ∧ j ≤ ls.length ∧ LD.length = j ∧ (∀ r ∈ LD, Part r) ∧ LdI W.heap.size wr v LD ∧ Fr (fun _ => False) W wr) (fun _ i _ => ls.length - (intOf i).toNat)
    case atStart => exact ⟨0, [], rfl, Nat.zero_le _, rfl, fun r h => by simp at h, ⟨RowK.nil _ _ _, fun q h => by simp [Value.ownBlock] at h, fun r h => by simp at h⟩, hf1⟩
    case round =>
      clear hf1 hR1
      obtain ⟨j, LD, rfl, hj, hll, hP, hD, hF⟩ := hrel
      by_cases hjn : j < ls.length
      · have hx : ls[j]? = some ls[j] := List.getElem?_eq_getElem hjn
        have hmem := List.getElem_mem hjn
        generalize ls[j] = x at hx hmem
        have hR1 := hR.new hF
        obtain ⟨ad, hAe, a0⟩ := hR1.cell hx
        subst hAe
        have ij : (j : Int) < (ls.length : Int) := by omega
        have ij0 : (0 : Int) ≤ (j : Int) := by omega
        have HO := Lib.hid (And.intro hP (And.intro hD (And.intro hF hR1)))
        have HQ := Lib.hid (few1_any (cp := x.cp) (hR1.es x hmem))
        clear hP hD hF hR1 hx
        go_wp2_with fail
        refine HQ.out.mono ?_
        rintro en w2 ⟨b, rfl, hf2, hb⟩
        cases b with
        | false =>
          have HF2 := Lib.hid (HO.out.2.2.1.trans hf2 (fun _ _ h => h))
          clear HO HQ hf2 hb
          go_wp2
          go_ret
          exact ⟨rfl, HF2.out⟩
        | true =>
          have a0 := hf2.cell a0 id
          by_cases h300 : (300 : Int) < (x.l.length : Int)
          · have HF2 := Lib.hid (HO.out.2.2.1.trans hf2 (fun _ _ h => h))
            clear HO HQ hf2 hb
            go_wp2
            go_ret
            exact ⟨rfl, HF2.out⟩
          · obtain ⟨hP, hD, hF, hR1⟩ := HO.out
            have hR2 := hR1.new hf2
            have hD2 := hD.new hf2
            have hF2 := hF.trans hf2 (fun _ _ h => h)
            have HQ2 := Lib.hid (rising_any (cp := x.cp) (hR2.es x hmem) (by omega))
            have hrow := hD2.row
            have HO2 := Lib.hid (And.intro hP (And.intro hD2 (And.intro hF2 hR2)))
            have hrl : ((rowsC LD).length + 1) * 32 ≤ 140737488355328 := by simp [rowsC]; omega
            clear HO HQ hP hD hF hR1 hR2 hD2 hF2 hf2 hb
            go_wp2_with fail
            refine HQ2.out.mono ?_
            rintro en w4 ⟨A4, c4, rfl, hR4, hA4, hle4, hmx4, hf4⟩
            have hrow4 := hrow.fr hf4 (fun _ _ => id)
            have hlen4 := rising_len x.l
            clear hrow HQ2
            go_wp2_with (at_builtin; go_must (refine appK rfl _ _ 27 24 (.agg #[.slice none 0 0, .int .i64 0]) 2 32 rfl Try.underlying27 infoRow rfl (by decide) (by decide) u5 (rowsC LD) [.slice A4 (rising x.l).length c4, .int .i64 0] rfl rfl rfl (by simp [Value.oneCell']) hrow4 hrl ?_); intro g9 c9 w9 hR9 hor9 hf9 _)
            go_roundw
            case rel =>
              obtain ⟨hP, hD, hF, _⟩ := HO2.out
              have hD4 := hD.new hf4
              have hsz4 := hf4.size
              have hszF := hF.size
              have hB := LdI.push (r := ⟨A4, c4, rising x.l, 0⟩) hD4 hR9 hor9 hf9 (by omega) hR4 (fun ad h => (hA4 ad h).2.2) hle4 hmx4
              refine ⟨j + 1, _, by go_num, by omega, by simp [hll], fun r hr => ?_, hB, (hF.trans hf4 (fun _ _ h => h)).trans hf9 (fun i hi h => by have := hD.own i h; omega)⟩
              rcases List.mem_append.1 hr with hr | hr
              · exact hP r hr
              · rw [List.mem_singleton] at hr
                subst hr
                exact ⟨rising_ris _, rising_clean _, rfl, by simp only; omega⟩
            case measure => simp [intOf]; omega
      · obtain rfl : j = ls.length := by omega
        obtain ⟨vA, vc, rfl⟩ := hD.row.slice
        have hvl : (rowsC LD).length = LD.length := by simp [rowsC]
        rw [hvl, hll] at hD ⊢
        have HO := Lib.hid (And.intro hP (And.intro hD hF))
        clear hP hD hF hR
        have hm0 : (0 : Int) ≤ (ls.length : Int) := by omega
        obtain ⟨m, hm, hme⟩ := at_in n ls.length (by omega)
        go_upto_region 11 with fail
        rw [hme]
        obtain ⟨hP, hD, hF⟩ := HO.out
        have htot := totR_toldR 300 LD (fun r hr => (hP r hr).2.2.2)
        obtain ⟨L, E, hmg⟩ := Mg.ex _ (LD.map toldR) (Nat.le_refl _)
        have hLl := hmg.len
        have hL : L.length ≤ 3600 := by
          have : LD.length * 300 ≤ 12 * 300 := Nat.mul_le_mul_right _ (by omega)
          omega
        obtain ⟨rfl, hlook⟩ := hmg.look (parts_ris hP)
        have HM := Lib.hid (And.intro hmg (And.intro hP (And.intro hD hF)))
        have hfew : ∀ r ∈ LD, r.l.length ≤ 1000000 := fun r hr => by have := (hP r hr).2.2.2; omega
        have hov := overs_any (cp := vc) (rs := LD) hD.rdr (by omega) hfew
        rw [hll] at hov
        clear HO hP hD hF hmg htot hLl hlook hfew
        go_wp2_with fail
        refine hov.mono ?_
        rintro en w5 ⟨v, ds, rfl, hdl, hO⟩
        obtain ⟨oA, oc, rfl⟩ := hO.row.slice
        rw [List.length_map] at hO ⊢
        have hom := ovs_merge hO (by rw [hdl, hll]) (by omega) HM.out.1
        rw [hdl] at hO hom ⊢
        have HOv := Lib.hid hO
        clear hov hO
        go_wp2_with fail
        refine hom.mono ?_
        rintro en w6 ⟨dm, rfl, hdm, hcm, hf6, hnm⟩
        have f56 := HOv.out.fr.trans hf6 (fun _ _ h => h)
        have hlow : ∀ k, dm.foot k → wr.heap.size ≤ k := fun k hk => by
          have := HOv.out.fr.size
          rcases hnm k hk with h | h
          · omega
          · exact h.1
        have HC := Lib.hid (And.intro hdm (And.intro hlow f56))
        clear HOv hom hf6 hnm hdm hlow f56
        have hft := hcm.foot_lt
        go_wp2_with fail
        go_loopw [9, 10] (fun v i wx => ∃ (j : Nat) (pk : Bool), i = .int .i64 j ∧ j ≤ L.length ∧ Cst dm wx (L.drop j) 0 pk ∧ RowK wx 32 3 v (ens (L.take j)) ∧ (∀ q, v.ownBlock = some q → w6.heap.size ≤ q) ∧ Fr dm.foot w6 wx) (fun _ i _ => L.length + 1 - (intOf i).toNat)
        case atStart => exact ⟨0, false, rfl, Nat.zero_le _, by simpa using hcm, RowK.nil _ _ _, fun q h => by simp [Value.ownBlock] at h, Fr.refl _ _⟩
        case round =>
          clear hcm
          obtain ⟨j, pk, rfl, hj, hC, hV, hVn, hG⟩ := hrel
          have ij : (j : Int) < 10000 := by omega
          by_cases hjn : j < L.length
          · have hx : L[j]? = some L[j] := List.getElem?_eq_getElem hjn
            rw [List.drop_eq_getElem_cons hjn] at hC
            have htk := take_succ hx
            generalize L[j] = x at hx hC htk
            have HN := Lib.hid (cnext_some HC.out.1 hC)
            have hVl : (L.take j).length ≤ 3600 := by rw [List.length_take]; omega
            have Htk := Lib.hid htk
            have HO := Lib.hid (And.intro hV (And.intro hVn hG))
            clear hC hx htk hV hVn hG
            go_wp2_with fail
            refine HN.out.mono ?_
            rintro en w7 ⟨rfl, hC7, hf7⟩
            obtain ⟨hV, hVn, hG⟩ := HO.out
            have hV7 := hV.fr hf7 (fun q hq h => by have := hVn q hq; have := hft q h; omega)
            have hG7 := hG.trans hf7 (fun _ _ h => h)
            have hX := Blk.at_new w7 (enV x) 32 _ _ rfl rfl
            have ga := (Fr.refl (fun _ => False) w7).alloc (.cells #[.string x.key, .string x.val, .bool x.gone] 32)
            have hC8 := hC7.new HC.out.1 ga
            have hV8 := hV7.fr ga (fun _ _ => id)
            have hG8 := hG7.alloc (.cells #[.string x.key, .string x.val, .bool x.gone] 32)
            clear hV hG hf7 hV7 hG7 hC7 HO ga HN
            go_upto_region 17 with fail
            simp only [enV, List.toArray] at hX
            generalize w7.alloc (.cells #[.string x.key, .string x.val, .bool x.gone] 32) = w8 at hX hC8 hV8 hG8 ⊢
            have x0 := hX.cell 0 rfl
            have x1 := hX.cell 1 rfl
            have x2 := hX.cell 2 rfl
            have HO := Lib.hid (And.intro hC8 (And.intro hVn hG8))
            clear hX hC8 hVn hG8
            go_wp2_with (at_builtin; go_must (refine appK rfl _ _ 22 32 (.agg #[.string ⟨#[]⟩, .string ⟨#[]⟩, .bool false]) 3 40 rfl Try.underlying22 infoEn rfl (by decide) (by decide) u9 (ens (L.take j)) [.string x.key, .string x.val, .bool x.gone] rfl rfl rfl (by simp [Value.oneCell']) hV8 (by rw [ens_len]; omega) ?_); intro g9 c9 w9 hR9 hor9 hf9 _)
            go_roundw
            case rel =>
              obtain ⟨hC8, hVn, hG8⟩ := HO.out
              exact ⟨j + 1, _, by go_num, by omega, hC8.fr HC.out.1 hf9 (fun k hk hq => by have := hVn k hq; have := hft k hk; omega), by rw [Htk.out, ens_snoc]; exact hR9, fun q hq => (by
                have hq' : g9 = q := by simpa [Value.ownBlock] using hq
                subst hq'
                rcases hor9 with h | h
                · exact hVn _ h
                · have := hG8.size; omega), hG8.trans hf9 (fun i hi h => by have := hVn i h; omega)⟩
            case measure => simp [intOf]; omega
          · obtain rfl : j = L.length := by omega
            rw [List.drop_length] at hC
            rw [List.take_length] at hV
            have HN := Lib.hid (cnext_end HC.out.1 hC)
            have HO := Lib.hid (And.intro hV (And.intro hVn hG))
            clear hC hV hVn hG
            go_wp2_with fail
            refine HN.out.mono ?_
            rintro en w7 ⟨rfl, hC7, hf7⟩
            obtain ⟨hV, hVn, hG⟩ := HO.out
            have hV7 := hV.fr hf7 (fun q hq h => by have := hVn q hq; have := hft q h; omega)
            have hG7 := hG.trans hf7 (fun _ _ h => h)
            have hX := Blk.at_new w7 [.string ⟨#[]⟩, .string ⟨#[]⟩, .bool false] 32 _ _ rfl rfl
            have ga := (Fr.refl (fun _ => False) w7).alloc (.cells #[.string ⟨#[]⟩, .string ⟨#[]⟩, .bool false] 32)
            have hV8 := hV7.fr ga (fun _ _ => id)
            have hG8 := hG7.alloc (.cells #[.string ⟨#[]⟩, .string ⟨#[]⟩, .bool false] 32)
            clear hV hG hf7 hV7 hG7 hC7 HO ga HN
            go_upto_region 17 with fail
            generalize w7.alloc (.cells #[.string ⟨#[]⟩, .string ⟨#[]⟩, .bool false] 32) = w8 at hX hV8 hG8 ⊢
            clear hX
            obtain ⟨A1, c1, rfl, hrd, hle, hmx, _⟩ := hV8.rd
            rw [ens_len] at hle ⊢
            obtain ⟨hmg, hP, hD, hF⟩ := HM.out
            obtain ⟨hdm, hlow, f56⟩ := HC.out
            have hA1 : ∀ ad, A1 = some ad → ad.block < w8.heap.size := fun ad h => hV8.lt (hV8.at_own h)
            have hD8 := LdI.fr3 hD (hD.new f56) hG8 (fun k hk h => by have := hlow k h; omega)
            have hF8 : Fr (fun _ => False) W w8 := (hF.trans f56 (fun _ _ h => h)).trans hG8 (fun i hi h => by have := hlow i h; have := hF.size; omega)
            have hrid : rising L = L := rising_id (hmg.ris (toldR_ris LD)) (parts_clean hP hmg)
            have hrdE : RdE w8 A1 L := hrd
            have hri := rising_any (cp := c1) hrdE (by omega)
            rw [hrid] at hri
            have HO := Lib.hid (And.intro hD8 (And.intro hF8 (And.intro hA1 hP)))
            have Hmg := Lib.hid hmg
            clear hV8 hG8 hVn hmg hP hD hF hdm hlow f56 hA1 hD8 hF8 hrid HM HC hft hrd
            go_upto_region 21 with fail
            go_wp2_with fail
            refine hri.mono ?_
            rintro en w9 ⟨A9, c9, rfl, hR9, _, _, _, hf9⟩
            have hsm := same_any (cp := c1) (cp' := c9) (hrdE.fr hf9 (fun _ _ => id)) hR9 (by omega)
            have HG := Lib.hid hf9
            clear hf9 hR9 hri
            go_wp2_with fail
            refine hsm.mono ?_
            rintro en wa ⟨rfl, hfa⟩
            have g8a := HG.out.trans hfa (fun _ _ h => h)
            obtain ⟨hD8, hF8, hA1, hP⟩ := HO.out
            have hDa := hD8.new g8a
            have hRa : RdE wa A1 L := hrdE.fr g8a (fun _ _ => id)
            have hAa : ∀ ad, A1 = some ad → ad.block < wa.heap.size := fun ad h => by have := hA1 ad h; have := g8a.size; omega
            have hFa := hF8.trans g8a (fun _ _ h => h)
            have HO := Lib.hid (And.intro hDa (And.intro hRa (And.intro hAa (And.intro hFa hP))))
            clear hfa g8a hD8 hF8 hA1 hDa hRa hAa hFa HG hsm hrdE hP
            go_upto_region 23 with fail
            obtain ⟨hDa, hRa, hAa, hFa, hP⟩ := HO.out
            have hvc : ls.length ≤ vc := by
              obtain ⟨_, c', e, _, h, _⟩ := hDa.row.rd
              injection e with _ _ e3
              subst e3
              rw [← hvl, hll] at *
              omega
            have hs1 := fun (w : World) => sl_take vA ls.length vc m hm hvc w
            have hs2 := fun (w : World) => sl_drop vA ls.length vc m hm hvc w
            obtain ⟨LA, eA, hmA⟩ := Mg.ex _ ((LD.take m).map toldR) (Nat.le_refl _)
            obtain ⟨LB, eB, hmB⟩ := Mg.ex _ ((LD.drop m).map toldR) (Nat.le_refl _)
            obtain ⟨LN, eN, hmN⟩ := Mg.ex _ [([], 0), (LA, eA), ([], 0), (LB, eB)] (Nat.le_refl _)
            obtain ⟨rfl, _, rfl, rfl, rfl⟩ := nested_eq hP m Hmg.out hmA hmB hmN
            have hfew : ∀ r ∈ LD, r.l.length ≤ 1000000 := fun r hr => by have := (hP r hr).2.2.2; omega
            have hlt : (LD.take m).length = m := by rw [List.length_take]; omega
            have hld : (LD.drop m).length = ls.length - m := by rw [List.length_drop]; omega
            have HT := Lib.hid (show ∀ w', Fr (fun _ => False) wa.drew w' → Calls Try.prog 17 #[.slice vA m vc] w' fun en W' => ∃ v ds, en = .returned v ∧ ds.length = m ∧ OvsI w' W' v (LD.take m) ds from fun w' g => by
              have h := overs_any (cp := vc) (((hDa.new ((Fr.refl _ wa).drew)).new g).rdr.take m) (by omega) (fun r hr => hfew r (List.mem_of_mem_take hr))
              rw [hlt] at h
              exact h)
            have HDr := Lib.hid (show ∀ w', Fr (fun _ => False) wa.drew w' → Calls Try.prog 17 #[.slice (dropA vA vc m) (ls.length - m) (vc - m)] w' fun en W' => ∃ v ds, en = .returned v ∧ ds.length = ls.length - m ∧ OvsI w' W' v (LD.drop m) ds from fun w' g => by
              have h := overs_any (cp := vc - m) (((hDa.new ((Fr.refl _ wa).drew)).new g).rdr.drop vc m (by omega) (by omega)) (by omega) (fun r hr => hfew r (List.mem_of_mem_drop hr))
              rw [hld] at h
              exact h)
            have HN := Lib.hid (And.intro hmA (And.intro hmB hmN))
            have hrisN := Hmg.out.ris (toldR_ris LD)
            have Hfew := Lib.hid hfew
            clear hDa hRa hAa hFa hP hmA hmB hmN hfew
            go_region_held3 (fun _ => True) (exact trivial)
              (first
                | (go_at_call 18; refine (merge4 hd1 hd2 hd3 (hc1.new hd1 f15) (hc2.new hd2 f25) hc3 (fun k p q => by have := hi1 k p; have := hl2 k q; omega) (fun k p q => by have := hi1 k p; have := hl3 k q; have := gb3.size; omega) (fun k p q => by have := hi2 k p; have := hl3 k q; omega) HN.out.2.2 hrisN).mono ?_; rintro en wg ⟨dn, rfl, hdn, hcn, hfn, hnn⟩)
                | (go_at_call 18; refine hom2.mono ?_; rintro en wf ⟨d3, rfl, hd3, hc3, hf3, hn3⟩; have f25 := gb4.trans hf3 (fun _ _ h => h); have f15 := gb3.trans f25 (fun _ _ h => h); have hl3 : ∀ k, d3.foot k → wd.heap.size ≤ k := fun k hk => (by
                    rcases hn3 k hk with h | h
                    · have := gb4.size; omega
                    · exact h.1))
                | (go_at_call 17; refine (HDr.out _ g3).mono ?_; rintro en we ⟨v2, ds2, rfl, hdl2, hO2⟩; obtain ⟨oA2, oc2, rfl⟩ := hO2.row.slice; rw [List.length_map] at hO2 ⊢; have hom2 := ovs_merge hO2 (by rw [hdl2, hld]) (by omega) HN.out.2.1; rw [hdl2] at hO2 hom2 ⊢; have gb4 := hO2.fr; have g4 := g3.trans gb4 (fun _ _ h => h))
                | (go_at_call 23; refine (fromnil_any _).mono ?_; rintro en wd ⟨d2, rfl, hd2, hc2, hf2, hn2⟩; have gb3 := hf2; have g3 := g2.trans hf2 (fun _ _ h => h); have hi2 := hc2.foot_lt; have hl2 : ∀ k, d2.foot k → wc.heap.size ≤ k := fun k hk => (by
                    rcases hn2 k hk with h | h
                    · exact h
                    · exact h.elim))
                | (go_at_call 18; refine hom1.mono ?_; rintro en wc ⟨d1, rfl, hd1, hc1, hf1, hn1⟩; have g2 := g1.trans hf1 (fun _ _ h => h); have hi1 := hc1.foot_lt; have hl1 : ∀ k, d1.foot k → wa.heap.size ≤ k := fun k hk => (by
                    have : wa.drew.heap.size = wa.heap.size := rfl
                    rcases hn1 k hk with h | h
                    · have := g1.size; omega
                    · have := h.1; omega))
                | (go_at_call 17; refine (HT.out _ (Fr.refl _ _)).mono ?_; rintro en wb ⟨v1, ds1, rfl, hdl1, hO1⟩; obtain ⟨oA1, oc1, rfl⟩ := hO1.row.slice; rw [List.length_map] at hO1 ⊢; have hom1 := ovs_merge hO1 (by rw [hdl1, hlt]) (by omega) HN.out.1; rw [hdl1] at hO1 hom1 ⊢; have g1 := hO1.fr))
            have gag : Fr (fun _ => False) wa wg := ((((Fr.refl _ wa).drew.trans g4 (fun _ _ h => h)).trans hf3 (fun _ _ h => h)).alloc _).trans hfn (fun _ _ h => h)
            have hlon : ∀ k, dn.foot k → wa.heap.size ≤ k := fun k hk => by
              have s1 := g1.size
              have s2 := hf1.size
              have s3 := gb3.size
              have s4 := gb4.size
              have s5 := hf3.size
              have : wa.drew.heap.size = wa.heap.size := rfl
              rcases hnn k hk with h | h | h | h
              · simp only [World.size_alloc] at h; omega
              · exact hl1 k h
              · have := hl2 k h; omega
              · have := hl3 k h; omega
            have hhin := hcn.foot_lt
            obtain ⟨hDa, hRa, hAa, hFa, hP⟩ := HO.out
            have hDg := hDa.new gag
            have hFg := hFa.trans gag (fun _ _ h => h)
            have hRg : RdE wg A1 LN := hRa.fr gag (fun _ _ => id)
            obtain ⟨N2, e2, hm2⟩ := Mg.ex _ (LD.map toldR ++ LD.map toldR) (Nat.le_refl _)
            obtain ⟨rfl, rfl⟩ := twice_eq hP Hmg.out hm2
            have hov1 := overs_any (cp := vc) hDg.rdr (by omega) Hfew.out
            rw [hll] at hov1
            have hsag := gag.size
            have HE := Lib.hid (And.intro hdn (And.intro hcn (And.intro hlon (And.intro hhin (And.intro hDg (And.intro hFg (And.intro hRg (And.intro hAa (And.intro hm2 (And.intro hFa.size hsag))))))))))
            clear hom1 hom2 hO1 hO2 g1 g2 g3 g4 gb3 gb4 hf1 hf2 hf3 hfn hn1 hn2 hn3 hnn hd1 hd2 hd3 hc1 hc2 hc3 hl1 hl2 hl3 hi1 hi2 f15 f25 HO HT HDr HN hDa hRa hAa hFa hP gag hlon hhin hDg hFg hRg hm2 hdn hcn hs1 hs2
            go_wp2_with fail
            refine hov1.mono ?_
            rintro en wh ⟨v1, ds1, rfl, hdl1, hO1⟩
            obtain ⟨oA1, oc1, rfl⟩ := hO1.row.slice
            rw [List.length_map] at hO1 ⊢
            rw [hdl1] at hO1 ⊢
            have hov2 := overs_any (cp := vc) (HE.out.2.2.2.2.1.new hO1.fr).rdr (by omega) Hfew.out
            rw [hll] at hov2
            have HO1 := Lib.hid hO1
            clear hov1 hO1
            go_wp2_with fail
            refine hov2.mono ?_
            rintro en wi ⟨v2, ds2, rfl, hdl2, hO2⟩
            obtain ⟨oA2, oc2, e2, hrd2⟩ := hO2.row.rd
            subst e2
            rw [List.length_map] at hO2 ⊢
            rw [hdl2] at hO2 ⊢
            have hrow1 := (HO1.out.new hO2.fr).row
            have HO2 := Lib.hid hO2
            clear hov2 hO2
            go_wp2_with (at_builtin; go_must (refine appN rfl _ _ 39 29 (.pointer none) 8 rfl Try.underlying39 infoPtr rfl (by decide) (.slice oA1 ls.length oc1) (ds1.map fun d => ptrC (some d)) rfl oA2 (ds2.map fun d => ptrC (some d)) ls.length oc2 (by rw [List.length_map, hdl2]) rfl hrow1 hrd2 (fun u hu => ?_) (by rw [List.length_map, List.length_map]; omega) ?_); (obtain ⟨d, _, rfl⟩ := List.mem_map.1 hu; rfl); intro v3 w3 hR3 hor3 hf3)
            obtain ⟨A3, c3, rfl⟩ := hR3.slice
            obtain ⟨hdn, hcn, hlon, hhin, hDg, hFg, hRg, hAa, hm2, hsW, hsag⟩ := HE.out
            have hmt := merge_twice HO1.out HO2.out (by rw [hdl1, hll]) (by rw [hdl2, hll]) (by rw [List.length_append, List.length_map, List.length_map, hdl1, hdl2, hll]) hR3 hf3 (by omega) hm2
            have gg3 : Fr (fun _ => False) wg w3 := (HO1.out.fr.trans HO2.out.fr (fun _ _ h => h)).trans hf3 (fun i hi h => by have := (HO1.out.own i h).1; omega)
            have HG := Lib.hid gg3
            have HE2 := Lib.hid (And.intro hdn (And.intro hcn (And.intro hlon (And.intro hhin (And.intro hFg (And.intro hRg hAa))))))
            clear hR3 hf3 hor3 hrow1 hrd2 HO1 HO2 HE hdn hcn hlon hhin hDg hFg hRg hAa hm2 gg3
            go_wp2_with fail
            refine hmt.mono ?_
            rintro en wj ⟨dt, rfl, hdt, hct, hfj, hnj⟩
            obtain ⟨hdn, hcn, hlon, hhin, hFg, hRg, hAa⟩ := HE2.out
            have ggj := HG.out.trans hfj (fun _ _ h => h)
            have hs3 := HG.out.size
            have hlot : ∀ k, dt.foot k → wg.heap.size ≤ k := fun k hk => by
              rcases hnj k hk with h | h
              · omega
              · exact h
            have hRj : RdE wj A1 N2 := hRg.fr ggj (fun _ _ => id)
            have his1 := is_any (cp := c1) hdn (hcn.new hdn ggj) hRj (fun ad h hh => by have := hAa ad h; have := hlon _ hh; omega) (by omega)
            have HE3 := Lib.hid (And.intro hdt (And.intro hct (And.intro hlot (And.intro hlon (And.intro hhin (And.intro (hFg.trans ggj (fun _ _ h => h)) (And.intro hRj hAa)))))))
            clear HE2 HG hdn hcn hlon hhin hFg hRg hAa hdt hct hlot hRj hfj hnj ggj hmt
            go_wp2_with fail
            refine his1.mono ?_
            rintro en wk ⟨rfl, hfk⟩
            obtain ⟨hdt, hct, hlot, hlon, hhin, hFj, hRj, hAa⟩ := HE3.out
            have hRk : RdE wk A1 N2 := Rd.fr hRj hfk (fun ad h hh => by have := hAa ad h; have := hlon _ hh; omega)
            have his2 := is_any (cp := c1) hdt (hct.fr hdt hfk (fun k hk hh => by have := hlot k hk; have := hhin k hh; omega)) hRk (fun ad h hh => by have := hAa ad h; have := hlot _ hh; omega) (by omega)
            have HF := Lib.hid (And.intro (hFj.trans hfk (fun i hi h => by have := hlon i h; omega)) hlot)
            clear HE3 hdt hct hlot hlon hhin hFj hRj hAa hRk hfk his1
            go_wp2_with fail
            refine his2.mono ?_
            rintro en wl ⟨rfl, hfl⟩
            have HF2 := Lib.hid (HF.out.1.trans hfl (fun i hi h => by have := HF.out.2 i h; omega))
            clear HF hfl his2
            go_wp2
            go_ret
            exact ⟨rfl, HF2.out⟩
end Go.Proofs.Ytcpnjlnphjnhnaa
