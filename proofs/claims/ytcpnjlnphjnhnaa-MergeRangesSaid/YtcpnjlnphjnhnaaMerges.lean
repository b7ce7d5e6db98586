/- The law MergeMerges, walked. Conditions: those of the lemmas. -/
import Derived.Test.YtcpnjlnphjnhnaaMRis
namespace Go.Proofs.Ytcpnjlnphjnhnaa
open Go.RowKit
theorem Rd.fr2 {S : Nat → Prop} {W0 W W' : World} {A : Option Addr} {l : List Value} (h0 : Rd W0 A l) (h : Rd W A l) (hf : Fr S W W') (hS : ∀ k, k < W0.heap.size → ¬ S k) : Rd W' A l := by
  intro j v hv
  obtain ⟨ad, e, hc⟩ := h j v hv
  obtain ⟨ad0, e0, hc0⟩ := h0 j v hv
  rw [e] at e0
  injection e0 with e0
  subst e0
  exact ⟨ad, e, hf.cell hc (hS _ (World.block_lt_of_cell? _ _ hc0))⟩
theorem RdR.fr2 {S : Nat → Prop} {W0 W W' : World} {A : Option Addr} {rs : List RowD} (h0 : RdR W0 A rs) (h : RdR W A rs) (hf : Fr S W W') (hS : ∀ k, k < W0.heap.size → ¬ S k) : RdR W' A rs :=
  ⟨Rd.fr2 h0.rd h.rd hf hS, fun r hr => RdE.fr2 (h0.es r hr) (h.es r hr) hf hS⟩
set_option maxHeartbeats 4000000 in
set_option maxRecDepth 100000 in
theorem merges_any {W : World} {A : Option Addr} {cp : Nat} {rs : List RowD} (hR : RdR W A rs) : Calls Try.prog 4 #[.slice A rs.length cp] W fun en w' => en = .returned (.bool true) ∧ Fr (fun _ => False) W w' := by
  go_enter Try.func4, Try.ntmps4
  go_wp2_with fail
  refine (awake_any _).mono ?_
  rintro en w1 ⟨rfl, hf1⟩
  have hR1 := hR.new hf1
  have HW := Lib.hid hf1
  clear hR hf1
  go_wp2_with fail
  refine (few_any (cp := cp) hR1).mono ?_
  rintro en w2 ⟨b, rfl, hf2, hb⟩
  have f2 := HW.out.trans hf2 (fun _ _ h => h)
  cases b with
  | false =>
    have HF := Lib.hid f2
    clear f2 HW hb hf2 hR1
    go_wp2_with fail
    refine (awake_any _).mono ?_
    rintro en w3 ⟨rfl, hf3⟩
    have HF2 := Lib.hid (HF.out.trans hf3 (fun _ _ h => h))
    clear HF hf3
    go_wp2
    go_ret
    exact ⟨rfl, HF2.out⟩
  | true =>
    obtain ⟨hn12, hfew⟩ := hb rfl
    have hR2 := hR1.new hf2
    have htot := totR_toldR 3001 rs hfew
    obtain ⟨L, E, hmg⟩ := Mg.ex _ (rs.map toldR) (Nat.le_refl _)
    have hLl := hmg.len
    have hL : L.length ≤ 40000 := by
      have : rs.length * 3001 ≤ 12 * 3001 := Nat.mul_le_mul_right _ hn12
      omega
    have hfew2 : ∀ r ∈ rs, r.l.length ≤ 1000000 := fun r hr => by have := hfew r hr; omega
    have HM := Lib.hid (And.intro hmg hfew2)
    have HF := Lib.hid f2
    have hrm := rmerge_any (cp := cp) hR2 (by omega) hfew2 hmg (by omega)
    clear hmg htot hLl hfew hfew2 f2 HW hf2 hR1 hb
    go_wp2_with fail
    refine hrm.mono ?_
    rintro en w3 ⟨A3, c3, rfl, hRL, hAL, _, _, hf3⟩
    simp only at hRL hAL ⊢
    have hRw3 := hR2.new hf3
    have f3 := HF.out.trans hf3 (fun _ _ h => h)
    have g4 := (Fr.refl (fun _ => False) w3).alloc (.cells #[.slice A3 L.length c3, .int .i64 E] 24)
    have hb4 := Blk.at_new w3 [.slice A3 L.length c3, .int .i64 E] 24 _ _ rfl rfl
    have hRw4 := hRw3.new g4
    have hRL4 : RdE (w3.alloc (.cells #[.slice A3 L.length c3, .int .i64 E] 24)) A3 L := hRL.fr g4 (fun _ _ => id)
    have hAL4 : ∀ ad, A3 = some ad → ad.block < (w3.alloc (.cells #[.slice A3 L.length c3, .int .i64 E] 24)).heap.size := fun ad h => by
      have := (hAL ad h).2.1
      have := g4.size
      omega
    have f4 := f3.trans g4 (fun _ _ h => h)
    have hsW := f4.size
    clear hR2 HF hrm hRL hAL hf3 hRw3 f3 g4
    go_upto_region 4 with fail
    generalize w3.alloc (.cells #[.slice A3 L.length c3, .int .i64 E] 24) = w4 at hb4 hRw4 hRL4 hAL4 f4 hsW ⊢
    generalize w3.heap.size = rb at hb4 ⊢
    have hrbl := hb4.lt
    have H4 := Lib.hid (And.intro hb4 (And.intro hRw4 (And.intro hRL4 (And.intro hAL4 f4))))
    have hov := overs_any (cp := cp) hRw4 (by omega) HM.out.2
    clear hb4 hRw4 hRL4 hAL4 f4
    go_wp2_with fail
    refine hov.mono ?_
    rintro en w5 ⟨v, ds, rfl, hdl, hO⟩
    obtain ⟨oA, oc, rfl⟩ := hO.row.slice
    rw [List.length_map] at hO ⊢
    have hom := ovs_merge hO hdl (by omega) HM.out.1
    rw [hdl] at hO hom ⊢
    have HO := Lib.hid hO
    clear hov hO
    go_wp2_with fail
    refine hom.mono ?_
    rintro en w6 ⟨dm, rfl, hdm, hcm, hf6, hnm⟩
    have hO6 := HO.out.new hf6
    have hrow := hO6.row
    have hlt6 := hf6.size
    have hlt5 := HO.out.fr.size
    have hnot : ∀ k, dm.foot k → w4.heap.size ≤ k ∧ ¬ (Value.slice oA rs.length oc).ownBlock = some k := fun k hk => by
      rcases hnm k hk with h | h
      · refine ⟨by omega, fun hq => ?_⟩
        have := HO.out.row.lt hq
        omega
      · exact ⟨h.1, h.2.2⟩
    have hownlo : ∀ q, (Value.slice oA rs.length oc).ownBlock = some q → w4.heap.size ≤ q := fun q hq => (HO.out.own q hq).1
    have H6 := Lib.hid (And.intro hdm (And.intro hcm (And.intro hnot (And.intro hownlo (HO.out.fr.trans hf6 (fun _ _ h => h))))))
    clear HO hom hf6 hnm hdm hcm hO6 hnot hownlo
    go_wp2_with fail
    go_loopw [6] (fun i wr => ∃ (j : Nat) (ys : List Value), i = .int .i64 j ∧ j ≤ rs.length ∧ ys.length = rs.length ∧ Row wr 29 (.slice oA rs.length oc) ys ∧ Fr (fun q => (Value.slice oA rs.length oc).ownBlock = some q) w6 wr) (fun i _ => rs.length - (intOf i).toNat)
    case atStart => exact ⟨0, _, rfl, Nat.zero_le _, by rw [List.length_map, hdl], hrow, Fr.refl _ _⟩
    case round =>
      clear hrow
      obtain ⟨j, ys, rfl, hj, hyl, hV, hF⟩ := hrel
      by_cases hjn : j < rs.length
      · obtain ⟨gr, rfl, _⟩ := hV.head (by omega)
        have f0 := hV.free j
        obtain ⟨cur, hcur⟩ := hV.kind (q := gr) rfl
        have hgl : gr < wr.heap.size := (Array.getElem?_eq_some_iff.1 hcur).1
        have k0 := hV.cell j (List.getElem?_eq_getElem (show j < ys.length by omega))
        have ka : (⟨gr, 0, none⟩ : Addr).add (j * 1) = ⟨gr, j, none⟩ := by rw [Nat.mul_one]; exact add_plain _ _
        have ij : (j : Int) < (rs.length : Int) := by omega
        have ij0 : (0 : Int) ≤ (j : Int) := by omega
        have s1 := hV.set j (.pointer none)
        have hF3 := hF.setCell ⟨gr, j, none⟩ (.pointer none) (fun _ => by simp [Value.ownBlock])
        have HH := Lib.hid (And.intro s1 hF3)
        clear hV hF s1 hF3 hcur
        go_wp2
        go_roundw
        case rel => exact ⟨j + 1, _, by go_num, by omega, by simp [hyl], HH.out.1, HH.out.2⟩
        case measure => simp [intOf]; omega
      · obtain rfl : j = rs.length := by omega
        obtain ⟨hb4, hRw4, hRL4, hAL4, f4⟩ := H4.out
        obtain ⟨hdm, hcm, hnot, hownlo, g6⟩ := H6.out
        have hS4 : ∀ k, k < w4.heap.size → ¬ (Value.slice oA rs.length oc).ownBlock = some k := fun k hk h => by have := hownlo k h; omega
        have g9 : Fr (fun _ => False) w4 wr := g6.trans hF (fun i hi h => hS4 i hi h)
        have hb9 := g9.blk hb4 id
        have hRw9 := hRw4.new g9
        have hRL9 : RdE wr A3 L := hRL4.fr g9 (fun _ _ => id)
        have hcm9 := hcm.fr hdm hF (fun k hk => (hnot k hk).2)
        have f9 := f4.trans g9 (fun _ _ h => h)
        have hs9 := g9.size
        have b0 := hb9.cell 0 rfl
        have b1 := hb9.cell 1 rfl
        go_upto_region 10 with fail
        have Hcell := Lib.hid (show ∀ w', Fr dm.foot wr.drew w' → w'.cell? ⟨rb, 0, none⟩ = some (.slice A3 L.length c3) ∧ w'.cell? ⟨rb, 1, none⟩ = some (.int .i64 E) from fun w' g => by
          have q1 := g.blk hb9.drew (fun h => by have := (hnot _ h).1; omega)
          exact ⟨q1.cell 0 rfl, q1.cell 1 rfl⟩)
        have HRw := Lib.hid (show ∀ w', Fr dm.foot wr.drew w' → RdR w' A rs from fun w' g => RdR.fr2 hRw4 (hRw9.new ((Fr.refl _ wr).drew)) g (fun k hk h => by have := (hnot _ h).1; omega))
        have HA3 := Lib.hid (show ∀ w', Fr dm.foot wr.drew w' → RdE w' A3 L from fun w' g => Rd.fr hRL9.drew g (fun ad h hh => by have := hAL4 ad h; have := (hnot _ hh).1; omega))
        have HLive := Lib.hid (show ∀ (d : CD) (w' : World), SrcOk d → Cst d w' L E false → Calls Try.prog 14 #[.pointer (some ⟨d.cb, 0, none⟩)] w' (Made w' d.foot (live L) E) from fun d w' hd hc => by
          have h2 := live_any hd hc
          rw [told_none (l := live L) ((HM.out.1.ris (toldR_ris rs)).filter _)] at h2
          exact h2)
        have HIs := Lib.hid (is_any (cp := c3) hdm (hcm9.new hdm ((Fr.refl _ wr).drew)) hRL9.drew (fun ad h hh => by have := hAL4 ad h; have := (hnot _ hh).1; omega) (by omega))
        have HF9 := Lib.hid (And.intro f9 (And.intro (fun k (hk : dm.foot k) => (hnot k hk).1) hsW))
        have hllen := live_len L
        clear hb4 hRw4 hRL4 hAL4 f4 hdm hcm hnot hownlo g6 hS4 g9 hb9 hRw9 hRL9 hcm9 f9 hF hV H4 H6
        go_region_held3 (fun w' => w'.cell? ⟨rb, 0, none⟩ = some (.slice A3 L.length c3) ∧ w'.cell? ⟨rb, 1, none⟩ = some (.int .i64 E))
          (first | exact Hcell.out _ g6 | exact Hcell.out _ g5 | exact Hcell.out _ g4 | exact Hcell.out _ g3 | exact Hcell.out _ g2 | exact Hcell.out _ g1 | exact Hcell.out _ (Fr.refl _ _))
          (first
            | (go_at_call 12; refine (is_any hd3 (hc3.new hd3 hf14) hR14 (fun ad h hh => by have h1 := (hA14 ad h).1; have h2 := hc3.foot_lt _ hh; omega) (by omega)).mono ?_; rintro en w15 ⟨rfl, hf15⟩; have g6 : Fr dm.foot wr.drew w15 := g5.trans hf15 (fun i hi h => by
                rcases hn3 i h with h1 | h1
                · have := g3.size; omega
                · rcases hn2 i h1 with h2 | h2
                  · have := g2.size; omega
                  · have := g1.size; omega))
            | (go_at_call 15; refine (rlive_any (cp := c3) (HA3.out _ g4) (by omega)).mono ?_; rintro en w14 ⟨A14, c14, rfl, hR14, hA14, _, _, hf14⟩; have g5 : Fr dm.foot wr.drew w14 := g4.trans hf14 (fun _ _ h => h.elim))
            | (go_at_call 14; refine (HLive.out _ _ hd2 hc2).mono ?_; rintro en w13 ⟨d3, rfl, hd3, hc3, hf13, hn3⟩; have g4 : Fr dm.foot wr.drew w13 := g3.trans hf13 (fun _ _ h => h.elim))
            | (go_at_call 18; refine hom2.mono ?_; rintro en w12 ⟨d2, rfl, hd2, hc2, hf12, hn2⟩; have g3 : Fr dm.foot wr.drew w12 := g2.trans hf12 (fun _ _ h => h.elim))
            | (go_at_call 17; refine (overs_any (cp := cp) (HRw.out _ g1) (by omega) HM.out.2).mono ?_; rintro en w11 ⟨v2, ds2, rfl, hdl2, hO2⟩; obtain ⟨oA2, oc2, rfl⟩ := hO2.row.slice; rw [List.length_map] at hO2 ⊢; have hom2 := ovs_merge hO2 hdl2 (by omega) HM.out.1; rw [hdl2] at hO2 hom2 ⊢; have g2 : Fr dm.foot wr.drew w11 := g1.trans hO2.fr (fun _ _ h => h.elim))
            | (go_at_call 12; refine HIs.out.mono ?_; rintro en w10 ⟨rfl, hf10⟩; have g1 : Fr dm.foot wr.drew w10 := hf10))
        have Hfin := Lib.hid (show Fr (fun _ => False) W w15 from HF9.out.1.drew.trans g6 (fun i hi h => by have := HF9.out.2.1 i h; have := HF9.out.2.2; omega))
        clear g1 g2 g3 g4 g5 g6 hf12 hf13 hf14 hf15 hf10 hc2 hc3 HF9 HLive HA3 HRw Hcell HIs hO2 hom2
        go_wp2
        go_ret
        exact ⟨rfl, Hfin.out⟩
end Go.Proofs.Ytcpnjlnphjnhnaa
