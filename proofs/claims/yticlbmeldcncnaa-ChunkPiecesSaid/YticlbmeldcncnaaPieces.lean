/- The law ChunkPieces, walked. Conditions: those of the lemmas. -/
import Derived.Test.YticlbmeldcncnaaPiecesPre
namespace Go.Proofs.Yticlbmeldcncnaa
open Go.RowKit Ch
/-- A part of bytes that are read. -/
theorem RdB.part {w : World} {ad : Addr} {n : Nat} {bs : List Int} (h : RdB w (some ad) n bs) (k p : Nat) : Rd w (some (ad.add k)) (u8s ((bs.drop k).take p)) := by
  intro j v hj
  refine ⟨_, rfl, ?_⟩
  rw [add_add]
  have hl : j < p := by
    have := (List.getElem?_eq_some_iff.1 hj).1
    rw [u8s_len, List.length_take] at this
    omega
  obtain ⟨ad', e, hc⟩ := h.rd (k + j) v (by
    simp only [u8s, List.getElem?_map, List.getElem?_take, List.getElem?_drop] at hj ⊢
    rw [if_pos hl] at hj
    exact hj)
  cases e
  exact hc
set_option maxHeartbeats 2000000 in
set_option maxRecDepth 100000 in
theorem pieces_ok (c0 c1 c2 c3 c4 c5 c6 c7 c8 c9 c10 c11 : Int) (A : Option Addr) (n cp : Nat) (bs : List Int) (A2 : Option Addr) (n2 cp2 : Nat) (us : List Int) (w : World) (hD : RdB w A n bs) (hn : n ≤ 30000) (hcp : n ≤ cp) (hcm : cp ≤ 9223372036854775807)
    (hU : RdB w A2 n2 us) (hn2 : n2 ≤ 9223372036854775807) :
    Calls Try.prog 4 #[.agg #[.int .i64 c0, .int .i64 c1, .int .i64 c2, .int .i64 c3, .int .i64 c4, .int .i64 c5, .int .i64 c6, .int .i64 c7, .int .i64 c8, .int .i64 c9, .int .i64 c10, .int .i64 c11], .slice A n cp, .slice A2 n2 cp2] w fun e w' => e = .returned (.bool true) ∧ Fr (fun _ => False) w w' := by
  have hB0 := Blk.new w (i64s [c0, c1, c2, c3, c4, c5, c6, c7, c8, c9, c10, c11]) 23
  have f0 : Fr (fun _ => False) w (w.alloc (.cells (i64s [c0, c1, c2, c3, c4, c5, c6, c7, c8, c9, c10, c11]).toArray 23)) := (Fr.refl _ w).alloc _
  go_enter Try.func4, Try.ntmps4
  go_upto_region 3 with (go_at_call 8; refine (awake_any _).mono ?_; rintro e w1 ⟨rfl, hf1⟩)
  have hB1 := hf1.blk hB0 id
  have f1 := f0.trans hf1 (fun _ _ h => h)
  obtain ⟨e0, e1, e2, e3, e4, e5, e6, e7, e8, e9, e10, e11⟩ := agg_of c0 c1 c2 c3 c4 c5 c6 c7 c8 c9 c10 c11 w1 _ hB1
  go_wp2_with fail
  refine (right_any c0 c1 c2 c3 c4 c5 c6 c7 c8 c9 c10 c11 _).mono ?_
  rintro e w2 ⟨d8, d9, d10, rfl, b1, b2, b3, b4, b5, b6, hf2⟩
  clear e0 e1 e2 e3 e4 e5 e6 e7 e8 e9 e10 e11
  have hB2 := hf2.blk hB1 id
  have f2 := f1.trans hf2 (fun _ _ h => h)
  go_upto_region 4 with (refine storeAgg rfl 23 (.tmp 3) (.tmp 30) rfl w.heap.size (i64s [c0, c1, c2, c3, c4, c5, c6, c7, d8, d9, d10, c11]) (i64s [c0, c1, c2, c3, c4, c5, c6, c7, c8, c9, c10, c11]) rfl rfl 23 hB2 (by kernel_rfl) rfl rfl ?_; intro w3 hB3 hf3)
  have f3 := f2.trans hf3 (fun i hi h => by omega)
  clear hB0 hB1 hB2 f0 f1 f2 hf1 hf2 hf3
  have hS3 := run_str (P := Try.prog) w3 24 5 9 Try.underlying24 Try.underlying5 Try.underlying9 A n cp bs hD.1 (hD.rd.fr f3 (fun _ _ => id))
  obtain ⟨e0, e1, e2, e3, e4, e5, e6, e7, e8, e9, e10, e11⟩ := agg_of c0 c1 c2 c3 c4 c5 c6 c7 d8 d9 d10 c11 w3 _ hB3
  go_wp2_with fail
  clear e0 e1 e2 e3 e4 e5 e6 e7 e8 e9 e10 e11 hS3
  refine (rcut_any c0 c1 c2 c3 c4 c5 c6 c7 d8 d9 d10 c11 (strOfNums bs) w3 (by rw [strOfNums_size, hD.1]; omega) b1 b3 (by omega) b5 (by omega)).mono ?_
  rintro e w4 ⟨wv, rfl, hR4, hf4, hN4⟩
  rw [bsOf_str bs hD.2.1, ← parts_lens] at hR4
  obtain ⟨wA, wq, rfl, hA4⟩ := hR4.rd
  rw [i64s_len, List.length_map] at hR4 ⊢
  have hB4 := hf4.blk hB3 id
  have f4 := f3.trans hf4 (fun _ _ h => h)
  obtain ⟨e0, e1, e2, e3, e4, e5, e6, e7, e8, e9, e10, e11⟩ := agg_of c0 c1 c2 c3 c4 c5 c6 c7 d8 d9 d10 c11 w4 _ hB4
  go_wp2_with fail
  clear e0 e1 e2 e3 e4 e5 e6 e7 e8 e9 e10 e11
  refine (new_ok c0 c1 c2 c3 c4 c5 c6 c7 d8 d9 d10 c11 w4 b1 b3 (by omega) b5 (by omega)).mono ?_
  rintro e w5 ⟨kb, rfl, hC5, hf5, hk5⟩
  have f5 := f4.trans hf5 (fun _ _ h => h)
  have hR5 := hR4.fr hf5 (fun _ _ => id)
  have hok : (⟨d8, d9, d10⟩ : Cf).ok := ⟨b1, b3, by simp only; omega, b5, by simp only; omega⟩
  have hk0 : w.heap.size ≤ kb := by have := f4.size; omega
  clear hN4 hA4 hB3 hB4 hf4 hf5 f3 f4 hk5 hR4 b2 b4 b6
  have hPc : (⟨d8, d9, d10⟩ : Cf).least = d8 ∧ (⟨d8, d9, d10⟩ : Cf).mean = d9 ∧ (⟨d8, d9, d10⟩ : Cf).most = d10 := ⟨rfl, rfl, rfl⟩
  generalize hcc : (⟨d8, d9, d10⟩ : Cf) = c at hR5 hok hPc ⊢
  clear hcc
  have hPl : (St.run c ⟨[], [], []⟩ bs).parts.length ≤ 1000001 := by
    have e1 := St.run_out c bs ⟨[], [], []⟩
    have e2 := ne_len ((St.run c ⟨[], [], []⟩ bs).out ++ [(St.run c ⟨[], [], []⟩ bs).o])
    rw [hD.1] at e1
    simp only [List.length_nil] at e1
    simp only [List.length_append, List.length_singleton] at e2
    unfold Ch.St.parts
    omega
  generalize hML : (St.run c ⟨[], [], []⟩ bs).parts = PP at hR5 hPl ⊢
  have HML := Lib.hid hML
  clear hML
  generalize hmm : PP.length = mm at hR5 hPl ⊢
  have Hmm := Lib.hid hmm
  clear hmm
  go_wp2_with fail
  go_loopw [10] (fun r W => ∃ k : Nat, k ≤ 2 ∧ r = .int .i64 k ∧ CutB W kb [c0, c1, c2, c3, c4, c5, c6, c7, d8, d9, d10, c11] [] (.slice none 0 0) ∧ Row W 3 (.slice wA mm wq) (i64s (PP.map fun c => (c.length : Int))) ∧ Fr (fun _ => False) w W) (fun r _ => 2 - (intOf r).toNat)
  case atStart => exact ⟨0, by omega, rfl, hC5, hR5, f5⟩
  case round =>
    clear hC5 hR5 f5
    obtain ⟨wo, rfl⟩ : ∃ wo : World, wo = wr := ⟨_, rfl⟩
    obtain ⟨k, hk, rfl, hC, hR, hF⟩ := hrel
    by_cases hlt : k < 2
    · go_wp2_with fail
      rw [show decide ((k : Int) < 2) = true from decide_eq_true (by omega)]
      go_loopw [11, 12, 13] (fun g at_ i W => ∃ (a j : Nat) (ov : Value) (vs : List Value), at_ = .int .i64 a ∧ i = .int .i64 j ∧ a ≤ n ∧ j ≤ 3001 ∧ PcI w W kb [c0, c1, c2, c3, c4, c5, c6, c7, d8, d9, d10, c11] (stAt c bs a) (.slice wA mm wq) (PP.map fun c => (c.length : Int)) ov g vs) (fun _ _ i _ => 3001 - (intOf i).toNat)
      case atStart =>
        exact ⟨0, 0, .slice none 0 0, [], rfl, rfl, by omega, by omega, hC, Row.nil _ _, Chs.nil _, Row.nil _ _, hR, List.pairwise_cons.2 ⟨by simp, List.Pairwise.nil⟩, hF, hk0, (fun u hu k hk => by
          rw [List.mem_singleton] at hu
          subst hu
          simp [Value.ownBlock] at hk), (fun k hk => by simp [Value.ownBlock] at hk)⟩
      case round =>
        clear hC hR hF
        obtain ⟨a, j, ov, vs, rfl, rfl, ha, hj, hI⟩ := hrel
        by_cases hat : a < n
        · obtain ⟨ad, rfl⟩ : ∃ ad, A = some ad := by
            obtain ⟨ad, e, _⟩ := hD.2.2 (by omega)
            exact ⟨ad, e⟩
          go_upto_if 59 with fail
          try rw [show decide ((a : Int) < (n : Int)) = true from decide_eq_true (by omega)]
          go_cut [14, 59] (fun t _ W => ∃ p : Nat, t = .int .i64 p ∧ p ≤ n - a ∧ W = wr)
          case first =>
            by_cases hjn : j < n2
            · have hjd : decide ((j : Int) < (n2 : Int)) = true := by simpa using hjn
              obtain ⟨ad2, rfl, hc2⟩ := hU.2.2 (by omega)
              have hcj := hI.fr.cell (hc2 j hjn) id
              obtain ⟨hu0, hu1⟩ := getD_range hU.2.1 j
              generalize us.getD j 0 = x at hcj hu0 hu1
              clear hc2 hI
              by_cases hmin : (n : Int) - a ≤ x
              · go_wp2
                go_meet
                case rel => exact ⟨n - a, by go_num, by omega, rfl⟩
              · go_wp2
                go_meet
                case rel => exact ⟨x.toNat, by go_num, by omega, rfl⟩
            · have hjd : decide ((j : Int) < (n2 : Int)) = false := by simpa using hjn
              clear hI
              go_wp2
              go_meet
              case rel => exact ⟨n - a, by go_num, by omega, rfl⟩
          case rest =>
            obtain ⟨p, rfl, hp, rfl⟩ := hcut
            have hrd : RdB wc (some ad) n bs := hD.fr hI.fr (fun _ _ => id)
            have hpart := hrd.part a p
            have hpl : ((bs.drop a).take p).length = p := by rw [List.length_take, List.length_drop, hD.1]; omega
            have hacp : ¬ cp = a := by omega
            have s1 : IntKind.i64.wrap ((a : Int) + (p : Int)) = (a : Int) + (p : Int) := IntWalk.i64_in _ (by omega)
            have s2 : ((a : Int) + (p : Int)).toNat = a + p := by omega
            have s3 : (a : Int) + (p : Int) ≤ (cp : Int) := by omega
            have s4 : (0 : Int) ≤ (a : Int) + (p : Int) := by omega
            have s5 : a + p - a = p := by omega
            have hb5 : ∀ x ∈ (bs.drop a).take p, 0 ≤ x ∧ x ≤ 255 := fun x hx => hD.2.1 x (List.mem_of_mem_drop (List.mem_of_mem_take hx))
            have hst := stAt_add c bs a p
            generalize (bs.drop a).take p = ps at hpart hpl hb5 hst
            have Hpl := Lib.hid hpl
            have Hst := Lib.hid hst
            clear hpl hst
            go_wp2_with (at_builtin; go_must (refine appC rfl _ _ 24 5 (.int .u8 0) 1 rfl Try.underlying24 info5 rfl (by decide) rfl (some (ad.add a)) (u8s ps) p (cp - a) (by rw [u8s_len, Hpl.out]) rfl hpart (u8s_one _) (by rw [u8s_len, Hpl.out]; omega) ?_); intro A5 x5 w5 hR5 hf5 hN5)
            have hI5h := hI.cut.fr hf5 id
            have hI5o := hI.opn.fr hf5 (fun _ _ => id)
            have hI5g := hI.out.fr hf5 (fun _ _ => id)
            have hrd5 : RdB w5 A5 p ps := hR5.rdB hb5
            have hsz5 := hf5.size
            have hlh : (stAt c bs a).h.length ≤ 30000 := by rw [stAt_h, List.length_take, hD.1]; omega
            have hlo : (stAt c bs a).o.length ≤ 30000 := by
              have := St.run_o c (bs.take a) ⟨[], [], []⟩
              rw [List.length_take, hD.1] at this
              simp only [List.length_nil] at this
              unfold stAt
              omega
            have hlv : vs.length ≤ 30000 := by
              have := St.run_out c (bs.take a) ⟨[], [], []⟩
              rw [List.length_take, hD.1] at this
              simp only [List.length_nil] at this
              have e := hI.rows.1
              unfold stAt at e
              omega
            refine (add_any kb [c0, c1, c2, c3, c4, c5, c6, c7, d8, d9, d10, c11] c (congrArg some hPc.1.symm) (congrArg some hPc.2.1.symm) (congrArg some hPc.2.2.symm) hok (stAt c bs a).h (stAt c bs a).o ov A5 p x5 ps w5 hI5h hI5o hrd5 (fun h0 ad5 e5 => ?_) (by omega) (by omega) (by omega)).mono ?_
            · subst e5
              have hq : ad5 = ⟨ad5.block, 0, none⟩ := by
                rcases hR5.form with ⟨h', _⟩ | ⟨g', c', cur, h', _⟩
                · cases h'
                · injection h' with h1 h2 h3
                  injection h1 with h1
                  rw [h1]
              have hq2 := hN5 ad5.block (by rw [hq]; rfl)
              exact ⟨fun h => by have := hI.cut.lt; omega, fun h => by have := hI.opn.lt h; omega⟩
            rintro e w6 ⟨v6, ov6, us6, rfl, hA6⟩
            obtain ⟨vA, vc, rfl, hvA⟩ := hA6.out.rd
            have hlu : us6.length ≤ 30000 := by
              have := St.run_out c ps ⟨(stAt c bs a).h, (stAt c bs a).o, []⟩
              simp only [List.length_nil] at this
              have e := hA6.rows.1
              have := Hpl.out
              omega
            have hone6 : ∀ u ∈ us6, u.oneCell' = true := by
              intro u hu
              obtain ⟨cs, hr⟩ := hA6.rows.mem hu
              obtain ⟨A', c', e, _⟩ := hr.rd
              rw [e]
              rfl
            have hg6 : Row w6 24 u11 vs := hI5g.fr hA6.fr (fun q hq h => by
              rcases h with rfl | h
              · exact hI.cut.ne hI.out (by decide) hq
              · exact (hI.out.ne_row hI.opn (by decide) q hq) h)
            go_wp2_with (at_builtin; go_must (refine appN rfl _ _ 39 24 (.slice none 0 0) 24 rfl Try.underlying39 info24 rfl (by decide) u11 vs rfl vA us6 us6.length vc rfl rfl hg6 hvA hone6 (by omega) ?_); intro g7 w7 hR7 hor7 hf7)
            have hw5n : ∀ k, (Value.slice A5 p x5).ownBlock = some k → wc.heap.size ≤ k := hN5
            have hR6o : Row w6 5 (.slice A5 p x5) (u8s ps) := hR5.fr hA6.fr (fun q hq h => by
              have := hN5 q hq
              rcases h with rfl | h
              · have := hI.cut.lt; omega
              · have := hI.opn.lt h; omega)
            have hR7o : Row w7 5 (.slice A5 p x5) (u8s ps) := hR6o.fr hf7 (fun q hq h => by
              have := hN5 q hq
              have := hI.out.lt h
              omega)
            have hstep := fun W4 f4 => PcI.step (W4 := W4) hI hf5 hR5 hw5n hA6 hR7 hor7 hf7 f4
            rw [← Hst.out] at hstep
            have hps : ps.length = p := Hpl.out
            clear hvA hlu hone6 hg6 hR6o hR7 hor7 hA6 hI5h hI5o hI5g hrd5 hlh hlo hlv hI hR5 hN5 hw5n hpart s1 s2 s3 s4 s5 hb5 hrd
            obtain ⟨wi, hwi⟩ : ∃ wi : World, wi = wc := ⟨_, rfl⟩
            go_loopw [16] (fun i W => ∃ (j3 : Nat) (zs : List Int), j3 ≤ p ∧ i = .int .i64 j3 ∧ zs.length = p ∧ Row W 5 (.slice A5 p x5) (u8s zs) ∧ Fr (fun k => (Value.slice A5 p x5).ownBlock = some k) w7 W) (fun i _ => p - (intOf i).toNat)
            case atStart => exact ⟨0, ps, Nat.zero_le _, rfl, hps, hR7o, Fr.refl _ _⟩
            case round =>
              clear hR7o hps
              obtain ⟨j3, zs, hj3, rfl, hzl, hRz, hFz⟩ := hrel
              by_cases hjp : j3 < p
              · obtain ⟨g3, rfl⟩ : ∃ g3, A5 = some ⟨g3, 0, none⟩ := by
                  rcases hRz.form with ⟨h', _⟩ | ⟨g', c', cur, h', _⟩
                  · injection h' with h1 h2 h3
                    omega
                  · injection h' with h1 h2 h3
                    exact ⟨_, h1⟩
                have hk3 := hRz.cell j3 (u := .int .u8 (zs.getD j3 0)) (by simp [u8s, List.getElem?_eq_getElem (show j3 < zs.length by omega), List.getD_eq_getElem?_getD])
                have hk3f := hRz.free j3
                generalize zs.getD j3 0 = z at hk3
                have ha3 : (⟨g3, 0, none⟩ : Addr).add j3 = ⟨g3, j3, none⟩ := add_plain g3 j3
                go_wp2
                go_roundw
                case rel =>
                  refine ⟨j3 + 1, zs.set j3 ((z + 1) % 256), by omega, by go_num, by simpa using hzl, ?_, hFz.setCell _ _ (fun _ => rfl)⟩
                  rw [show u8s (zs.set j3 ((z + 1) % 256)) = (u8s zs).set j3 (.int .u8 ((z + 1) % 256)) from by unfold u8s; rw [List.map_set]]
                  exact hRz.set j3 _
                case measure => simp [intOf]; omega
              · have hI8 := hstep _ hFz
                by_cases hj0 : 3000 < j
                · go_wp2
                  go_ret
                  exact ⟨rfl, hI8.fr⟩
                · go_wp2
                  go_roundw
                  case rel =>
                    exact ⟨a + p, j + 1, ov6, _, by go_num, by go_num, by omega, by omega, hI8⟩
                  case measure => simp [intOf]; omega
        · obtain rfl : a = n := by omega
          have hfull : bs.take a = bs := List.take_of_length_le (by rw [hD.1]; exact Nat.le_refl _)
          unfold stAt at hI
          rw [hfull] at hI
          have hpe := parts_eq c hok bs
          rw [HML.out] at hpe
          have hob := (St.run_o c bs ⟨[], [], []⟩)
          have hlv := St.run_out c bs ⟨[], [], []⟩
          rw [hD.1] at hlv hob
          simp only [List.length_nil] at hlv hob
          generalize St.run c ⟨[], [], []⟩ bs = s at hI hpe hlv hob
          have hvl := Lib.hid hI.rows.1
          go_wp2_with fail
          refine (end_any kb _ _ ov wr hI.cut).mono ?_
          rintro e w8 ⟨rfl, hC8, hf8⟩
          obtain ⟨oA, oc, hov, hoR⟩ := hI.opn.rd
          rw [u8s_len] at hov
          subst hov
          go_upto_if 103 with fail
          go_cut [11, 103] (fun g _ W => ∃ vs', ZeI w W kb [c0, c1, c2, c3, c4, c5, c6, c7, d8, d9, d10, c11] (.slice wA mm wq) (PP.map fun c => (c.length : Int)) g vs' PP 0)
          case first =>
            have hg8 : Row w8 24 u11 vs := hI.out.fr hf8 (fun q hq h => by subst h; exact hI.cut.ne hI.out (by decide) hq)
            by_cases ho : 0 < s.o.length
            · rw [if_pos ho] at hpe
              have Hpe := Lib.hid hpe
              clear hpe hoR hob
              go_wp2_with (at_builtin; go_must (refine app1 rfl _ _ 39 24 (.slice none 0 0) 24 rfl Try.underlying39 info24 rfl (by decide) u11 vs (.slice oA s.o.length oc) rfl rfl rfl hg8 (by have := hvl.out; omega) ?_); intro g9 c9 w9 hR9 hor9 hf9 _)
              go_meet
              case rel =>
                have hz := hI.end_some hC8 hf8 hR9 hf9
                rw [← Hpe.out] at hz
                exact ⟨_, hz⟩
            · rw [if_neg ho, List.append_nil] at hpe
              have Hpe := Lib.hid hpe
              clear hpe hoR hob
              go_wp2_with fail
              go_meet
              case rel =>
                have hz := hI.end_none hC8 hf8
                rw [← Hpe.out] at hz
                exact ⟨_, hz⟩
          case rest =>
            clear hI hpe hlv hob hvl hC8 hf8 hoR
            obtain ⟨vs', hZ⟩ := hcut
            have hvm : vs'.length = mm := by rw [hZ.len, Hmm.out]
            obtain ⟨gA, gc, hgv, _⟩ := hZ.out.rd
            rw [hvm] at hgv
            subst hgv
            have Hvm := Lib.hid hvm
            clear hvm
            go_wp2_with fail
            go_loopw [18, 19] (fun f i W => ∃ k4 : Nat, k4 ≤ mm ∧ f = .int .i64 ((PP.take k4).flatten.length : Nat) ∧ i = .int .i64 k4 ∧ ZeI w W kb [c0, c1, c2, c3, c4, c5, c6, c7, d8, d9, d10, c11] (.slice wA mm wq) (PP.map fun c => (c.length : Int)) (.slice gA mm gc) vs' PP k4) (fun _ i _ => mm - (intOf i).toNat)
            case atStart => exact ⟨0, Nat.zero_le _, rfl, rfl, hZ⟩
            case round =>
              clear hZ
              obtain ⟨k4, hk4, rfl, rfl, hZ⟩ := hrel
              by_cases hkm : k4 < mm
              · have hlp : k4 < PP.length := by rw [Hmm.out]; exact hkm
                have hlv' : k4 < vs'.length := by rw [Hvm.out]; exact hkm
                obtain ⟨v, hv⟩ : ∃ v, vs'[k4]? = some v := ⟨_, List.getElem?_eq_getElem hlv'⟩
                obtain ⟨ch, hch, hrow⟩ := hZ.rows k4 (Nat.le_refl _) v hv
                have hchm : ch ∈ PP := List.mem_of_getElem? hch
                have hpb := (parts_bounds c hok bs).1 ch (by rw [HML.out]; exact hchm)
                have hflat := parts_flat c bs
                rw [HML.out] at hflat
                have hPs : PP = PP.take k4 ++ ch :: PP.drop (k4 + 1) := by
                  obtain ⟨h1, h2⟩ := List.getElem?_eq_some_iff.1 hch
                  rw [← h2, ← List.drop_eq_getElem_cons h1, List.take_append_drop]
                have hTc : (bs.drop (PP.take k4).flatten.length).take ch.length = ch ∧ (PP.take k4).flatten.length + ch.length ≤ a := by
                  rw [hPs] at hflat
                  simp only [List.flatten_append, List.flatten_cons] at hflat
                  constructor
                  · rw [← hflat, List.drop_left, List.take_left]
                  · rw [← hD.1, ← hflat]
                    simp only [List.length_append]
                    omega
                have hTn : (PP.take (k4 + 1)).flatten.length = (PP.take k4).flatten.length + ch.length := by
                  rw [List.take_add_one, hch]
                  simp
                obtain ⟨ad, hAd, _⟩ := hD.2.2 (by omega)
                subst hAd
                have hrd : RdB wr (some ad) a bs := hD.fr hZ.fr (fun _ _ => id)
                have hpart := hrd.part (PP.take k4).flatten.length ch.length
                rw [hTc.1] at hpart
                obtain ⟨vA, vc, hvv, hvR⟩ := hrow.rd
                rw [u8s_len] at hvv
                subst hvv
                obtain ⟨gb, rfl⟩ : ∃ gb, gA = some ⟨gb, 0, none⟩ := by
                  rcases hZ.out.form with ⟨h', _⟩ | ⟨g', c', cur, h', _⟩
                  · injection h' with h1 h2 h3
                    omega
                  · injection h' with h1 h2 h3
                    exact ⟨_, h1⟩
                obtain ⟨wb, rfl⟩ : ∃ wb, wA = some ⟨wb, 0, none⟩ := by
                  rcases hZ.want.form with ⟨h', _⟩ | ⟨g', c', cur, h', _⟩
                  · injection h' with h1 h2 h3
                    omega
                  · injection h' with h1 h2 h3
                    exact ⟨_, h1⟩
                have j1 : ∀ q, (wr.drewN q).cell? ⟨gb, k4, none⟩ = some (.slice vA ch.length vc) := fun q => (hZ.out.drewN q).cell k4 hv
                have j2 : ∀ q, (wr.drewN q).cell? ⟨wb, k4, none⟩ = some (.int .i64 (ch.length : Int)) := fun q => (hZ.want.drewN q).cell k4 (by simp [i64s, hch])
                have j3 : (⟨gb, 0, none⟩ : Addr).add k4 = ⟨gb, k4, none⟩ := add_plain gb k4
                have j4 : (⟨wb, 0, none⟩ : Addr).add k4 = ⟨wb, k4, none⟩ := add_plain wb k4
                have hv1 := fun q => run_str (P := Try.prog) (wr.drewN q) 24 5 9 Try.underlying24 Try.underlying5 Try.underlying9 vA ch.length vc ch rfl hvR
                have hv2 := fun q => run_str (P := Try.prog) (wr.drewN q) 24 5 9 Try.underlying24 Try.underlying5 Try.underlying9 (some (ad.add (PP.take k4).flatten.length)) ch.length (cp - (PP.take k4).flatten.length) ch rfl hpart
                have hsml : ch.length ≤ 1000000 := by omega
                generalize (PP.take k4).flatten.length = T at hTc hTn hv2 ⊢
                have HTn := Lib.hid hTn
                have Hch := Lib.hid hch
                have hTl : T + ch.length ≤ cp := by have := hTc.2; omega
                have hTa := hTc.2
                have hcT : ¬ cp = T := by have := hpb.1; omega
                clear hpart hrd hTn hch hflat hPs hpb hTc hvR
                have t1 : (0 : Int) ≤ (ch.length : Int) := by omega
                have s1 : IntKind.i64.wrap ((T : Int) + (ch.length : Int)) = (T : Int) + (ch.length : Int) := IntWalk.i64_in _ (by omega)
                have s2 : ((T : Int) + (ch.length : Int)).toNat = T + ch.length := by omega
                have s3 : (T : Int) + (ch.length : Int) ≤ (cp : Int) := by omega
                have s4 : (0 : Int) ≤ (T : Int) + (ch.length : Int) := by omega
                go_upto_region 37 with fail
                go_cut [146] (fun t W => t = .bool false ∧ ∃ q, W = wr.drewN q)
                case first =>
                  go_quiet (fail)
                  go_wp2
                  go_meet
                  case rel => exact ⟨rfl, _, rfl⟩
                case rest =>
                  obtain ⟨rfl, q, hq⟩ := hcut
                  have k1 := j1 q
                  have k2 := j2 q
                  rw [← hq] at k1 k2
                  have hZ10 : ZeI w wc kb [c0, c1, c2, c3, c4, c5, c6, c7, d8, d9, d10, c11] (.slice (some ⟨wb, 0, none⟩) mm wq) (PP.map fun c => (c.length : Int)) (.slice (some ⟨gb, 0, none⟩) mm gc) vs' PP k4 := by
                    rw [hq]
                    exact ⟨hZ.cut, hZ.len, hZ.rows, hZ.out, hZ.want, hZ.apart, hZ.fr.drewN q, hZ.kbn, hZ.vsn⟩
                  have hrow10 : Row wc 5 (.slice vA ch.length vc) (u8s ch) := by rw [hq]; exact hrow
                  have hne10 : (Value.slice vA ch.length vc).ownBlock ≠ some gb := fun h => (hrow.ne_row hZ.out (by decide) gb h) rfl
                  clear j1 j2 hv1 hv2 hZ hrow hq
                  go_wp2_with fail
                  obtain ⟨wi, hwi⟩ : ∃ wi : World, wi = wr := ⟨_, rfl⟩
                  go_loopw [20] (fun i W => ∃ (j5 : Nat) (zs : List Int), j5 ≤ ch.length ∧ i = .int .i64 j5 ∧ zs.length = ch.length ∧ Row W 5 (.slice vA ch.length vc) (u8s zs) ∧ Fr (fun k => (Value.slice vA ch.length vc).ownBlock = some k) wc W) (fun i _ => ch.length - (intOf i).toNat)
                  case atStart => exact ⟨0, ch, Nat.zero_le _, rfl, rfl, hrow10, Fr.refl _ _⟩
                  case round =>
                    clear hrow10
                    obtain ⟨j5, zs, hj5, rfl, hzl, hRz, hFz⟩ := hrel
                    have k3 := hFz.cell k1 hne10
                    by_cases hjp : j5 < ch.length
                    · obtain ⟨g3, rfl⟩ : ∃ g3, vA = some ⟨g3, 0, none⟩ := by
                        rcases hRz.form with ⟨h', _⟩ | ⟨g', c', cur, h', _⟩
                        · injection h' with h1 h2 h3
                          omega
                        · injection h' with h1 h2 h3
                          exact ⟨_, h1⟩
                      have hk5 := hRz.cell j5 (u := .int .u8 (zs.getD j5 0)) (by simp [u8s, List.getElem?_eq_getElem (show j5 < zs.length by omega), List.getD_eq_getElem?_getD])
                      have hk5f := hRz.free j5
                      have ha5 : (⟨g3, 0, none⟩ : Addr).add j5 = ⟨g3, j5, none⟩ := add_plain g3 j5
                      generalize zs.getD j5 0 = z at hk5
                      go_wp2
                      go_roundw
                      case rel =>
                        refine ⟨j5 + 1, zs.set j5 0, by omega, by go_num, by simpa using hzl, ?_, hFz.setCell _ _ (fun _ => rfl)⟩
                        rw [show u8s (zs.set j5 0) = (u8s zs).set j5 (.int .u8 0) from by unfold u8s; rw [List.map_set]]
                        exact hRz.set j5 _
                      case measure => simp [intOf]; omega
                    · have hZ11 := hZ10.step hv hFz
                      go_wp2
                      go_roundw
                      case rel =>
                        exact ⟨k4 + 1, by omega, by rw [HTn.out]; go_num, by go_num, hZ11⟩
                      case measure => simp [intOf]; omega
              · go_wp2
                go_roundw
                case rel => exact ⟨k + 1, by omega, by go_num, hZ.cut, hZ.want, hZ.fr⟩
                case measure => simp [intOf]; omega
    · go_wp2
      go_ret
      exact ⟨rfl, hF⟩
set_option maxHeartbeats 400000 in
set_option maxRecDepth 100000 in
theorem pieces_long (c0 c1 c2 c3 c4 c5 c6 c7 c8 c9 c10 c11 : Int) (A : Option Addr) (n cp : Nat) (v2 : Value) (w : World) (hn : 30000 < n) :
    Calls Try.prog 4 #[.agg #[.int .i64 c0, .int .i64 c1, .int .i64 c2, .int .i64 c3, .int .i64 c4, .int .i64 c5, .int .i64 c6, .int .i64 c7, .int .i64 c8, .int .i64 c9, .int .i64 c10, .int .i64 c11], .slice A n cp, v2] w fun e w' => e = .returned (.bool true) ∧ Fr (fun _ => False) w w' := by
  have f0 : Fr (fun _ => False) w (w.alloc (.cells (i64s [c0, c1, c2, c3, c4, c5, c6, c7, c8, c9, c10, c11]).toArray 23)) := (Fr.refl _ w).alloc _
  go_enter Try.func4, Try.ntmps4
  go_upto_region 2 with (go_at_call 8; refine (awake_any _).mono ?_; rintro e w1 ⟨rfl, hf1⟩)
  have f1 := f0.trans hf1 (fun _ _ h => h)
  go_wp2_with fail
  refine (awake_any _).mono ?_
  rintro e w2 ⟨rfl, hf2⟩
  go_wp2
  go_ret
  exact ⟨rfl, f1.trans hf2 (fun _ _ h => h)⟩
/-- ChunkPieces answers true, whatever it is given, and leaves what was there. -/
theorem pieces_any (c0 c1 c2 c3 c4 c5 c6 c7 c8 c9 c10 c11 : Int) (A : Option Addr) (n cp : Nat) (bs : List Int) (A2 : Option Addr) (n2 cp2 : Nat) (us : List Int) (w : World) (hD : RdB w A n bs) (hcp : n ≤ cp) (hcm : cp ≤ 9223372036854775807)
    (hU : RdB w A2 n2 us) (hn2 : n2 ≤ 9223372036854775807) :
    Calls Try.prog 4 #[.agg #[.int .i64 c0, .int .i64 c1, .int .i64 c2, .int .i64 c3, .int .i64 c4, .int .i64 c5, .int .i64 c6, .int .i64 c7, .int .i64 c8, .int .i64 c9, .int .i64 c10, .int .i64 c11], .slice A n cp, .slice A2 n2 cp2] w fun e w' => e = .returned (.bool true) ∧ Fr (fun _ => False) w w' := by
  by_cases hn : n ≤ 30000
  · exact pieces_ok c0 c1 c2 c3 c4 c5 c6 c7 c8 c9 c10 c11 A n cp bs A2 n2 cp2 us w hD hn hcp hcm hU hn2
  · exact pieces_long c0 c1 c2 c3 c4 c5 c6 c7 c8 c9 c10 c11 A n cp _ w (by omega)
end Go.Proofs.Yticlbmeldcncnaa
