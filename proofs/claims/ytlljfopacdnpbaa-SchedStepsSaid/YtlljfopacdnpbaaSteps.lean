/- SchedSteps, walked: true for every programs, slots and whatever is taken away. Conditions: those of the lemma. -/
import Derived.Test.YtlljfopacdnpbaaSteps0
namespace Go.Proofs.Ytlljfopacdnpbaa
open Go.RowKit
set_option maxHeartbeats 4000000 in
set_option maxRecDepth 100000 in
theorem steps_any {W : World} {A0 : Option Addr} {cp0 : Nat} {ls : List PT} (hL : Rd W A0 (ls.map ptV)) (hP : ∀ p ∈ ls, Rd W p.A (insR p.l)) {A1 : Option Addr} {cp1 : Nat} {xs : List Int} (hX : Rd W A1 (i64s xs)) (dr : Int) :
    Calls Try.prog 6 #[.slice A0 ls.length cp0, .slice A1 xs.length cp1, .int .i64 dr] W fun e w' => e = .returned (.bool true) ∧ Fr (fun _ => False) W w' := by
  have HR := Lib.hid (right_any (cp0 := cp0) hL hP)
  clear hL hP
  have HX := Lib.hid hX
  clear hX
  go_enter Try.func6, Try.ntmps6
  go_wp2_with fail
  refine HR.out.mono ?_
  rintro e w1 ⟨A2, cp2, ps, rfl, hM, hL2, hf1⟩
  obtain ⟨h8, hps⟩ := hM.few (is := ls.map (·.l)) (by rw [← List.map_take, List.map_map]; rfl)
  clear HR hM
  have HF := Lib.hid hf1
  clear hf1
  by_cases hz : ps.length = 0
  · have hnil : ps = [] := List.eq_nil_of_length_eq_zero hz
    subst hnil
    clear hps hL2 h8 hz
    simp only [List.length_nil]
    go_wp2_with fail
    refine (begin_nil w1 A2 cp2).mono ?_
    rintro e w2 ⟨b, rfl, hf2⟩
    have HF2 := Lib.hid (HF.out.trans hf2 (fun _ _ h => h))
    clear hf2
    go_wp2_with fail
    refine (awake_any _).mono ?_
    rintro e w3 ⟨rfl, hf3⟩
    have HF3 := Lib.hid (HF2.out.trans hf3 (fun _ _ h => h))
    clear hf3
    go_wp2_with fail
    refine (awake_any _).mono ?_
    rintro e w4 ⟨rfl, hf4⟩
    have HF4 := Lib.hid (HF3.out.trans hf4 (fun _ _ h => h))
    clear hf4
    go_wp2
    go_ret
    exact ⟨rfl, HF4.out⟩
  · have hps1 : 1 ≤ ps.length := by omega
    have hlz : ((ps.length : Int) == 0) = false := beq_eq_false_iff_ne.2 (by omega)
    have HB := Lib.hid (begin_ok w1 A2 cp2 ps hps1 (by omega) hL2 hps)
    have HPS := Lib.hid (And.intro hL2 hps)
    clear hL2 hps
    go_wp2_with fail
    refine HB.out.mono ?_
    rintro e w2 ⟨E, tb, T, rfl, hRun⟩
    have HRun := Lib.hid hRun
    clear hRun HB
    go_wp2_with fail
    refine (awake_any _).mono ?_
    rintro e w3 ⟨rfl, hf3⟩
    have HRun3 := Lib.hid (HRun.out.new hf3)
    clear hf3 HRun
    have hnew := rnew_any (W := w3) (A := A2) (cp := cp2) (ls := ps) (HPS.out.1.fr HRun3.out.fr (fun _ _ => id)) (fun p hp => ((HPS.out.2 p hp).1).fr HRun3.out.fr (fun _ _ => id)) (fun p hp ad e => by have := (HPS.out.2 p hp).2.1 ad e; have := HRun3.out.fr.size; omega) hps1 (by omega) (fun p hp => (HPS.out.2 p hp).2.2.2)
    have HN := Lib.hid hnew
    clear hnew
    go_wp2_with fail
    refine HN.out.mono ?_
    rintro e w4 ⟨mb0, R, ts, rfl, hA, hf4, hm4, hft4⟩
    unfold worldV
    have HA := Lib.hid (And.intro hA (And.intro hf4 (And.intro hm4 hft4)))
    clear hA hf4 hm4 hft4 HN
    go_upto_region 6 with fail
    have f5 : Fr (fun _ => False) w4 (w4.alloc (.cells #[.slice (some ⟨R.tb, 0, none⟩) ps.length R.tc, .slice (some ⟨R.cb, 0, none⟩) 4 4, .slice (some ⟨R.zb, 0, none⟩) 4 4, .slice (some ⟨R.hb, 0, none⟩) 4 4, .int .i64 0] 31)) := (Fr.refl _ w4).alloc _
    have hT : Two w1 (w4.alloc (.cells #[.slice (some ⟨R.tb, 0, none⟩) ps.length R.tc, .slice (some ⟨R.cb, 0, none⟩) 4 4, .slice (some ⟨R.zb, 0, none⟩) 4 4, .slice (some ⟨R.hb, 0, none⟩) 4 4, .int .i64 0] 31)) E tb w4.heap.size R 0 ps (fun _ => 0) (s0 ps.length) T ts :=
      two_begin HRun3.out (HA.out.2.1.trans f5 (fun _ _ h => h)) ((HA.out.1.new f5).box (Blk.at_new _ _ _ _ _ rfl rfl) (fun p hp ad e => by have h1 := (HPS.out.2 p hp).2.1 ad e; have h2 := HRun3.out.fr.size; have h3 := HA.out.2.1.size; omega)) (HA.out.2.1.size) HA.out.2.2.2 (fun p hp ad e => (HPS.out.2 p hp).2.1 ad e)
    clear f5 HA HRun3
    generalize w4.alloc (.cells #[.slice (some ⟨R.tb, 0, none⟩) ps.length R.tc, .slice (some ⟨R.cb, 0, none⟩) 4 4, .slice (some ⟨R.zb, 0, none⟩) 4 4, .slice (some ⟨R.hb, 0, none⟩) 4 4, .int .i64 0] 31) = w5 at hT ⊢
    generalize w4.heap.size = mb at hT ⊢
    have HT := Lib.hid hT
    clear hT HPS
    go_wp2_with fail
    go_loopw [10] (fun i wr => ∃ (k : Nat) (st : Int) (pos : Nat → Nat) (s : St) (T : List TV) (ts : List RT), i = .int .i64 k ∧ k ≤ xs.length ∧ k ≤ 600 ∧ Two w1 wr E tb mb R st ps pos s T ts) (fun i _ => xs.length - (intOf i).toNat)
    case atStart => exact ⟨0, _, _, _, _, _, rfl, Nat.zero_le _, Nat.zero_le _, HT.out⟩
    case round =>
      clear HT
      obtain ⟨k, st, pos, s, T, ts, rfl, hk, hk6, hT⟩ := hrel
      have HT := Lib.hid hT
      by_cases hkn : k < xs.length ∧ k < 600
      · obtain ⟨hkx, hk600⟩ := hkn
        have hxk : xs[k]? = some xs[k] := List.getElem?_eq_getElem hkx
        generalize xs[k] = n at hxk
        have hfr := HF.out.trans hT.run.fr (fun _ _ h => h)
        obtain ⟨la, rfl, cl⟩ := HX.out k (.int .i64 n) (by unfold i64s; rw [List.getElem?_map, hxk]; rfl)
        have cl1 := hfr.cell cl id
        have o3 := hT.run.wd.obj.cell 3 rfl
        have i0 : (0 : Int) ≤ (k : Int) := by omega
        have i1 : (k : Int) < (xs.length : Int) := by omega
        have i2 : (k : Int) < 600 := by omega
        clear hT hfr cl hxk
        go_upto_if 53 with fail
        go_cut [] (fun W => ∃ (st : Int) (pos : Nat → Nat) (s : St) (T : List TV) (ts : List RT), Two w1 W E tb mb R st ps pos s T ts)
        case first =>
          by_cases hd : (k : Int) = dr
          · rw [show ((k : Int) == dr) = true by simpa using hd]
            clear hd
            by_cases ho : n < 0 ∨ (ps.length : Int) ≤ n
            · have C1 := Lib.hid (drop_out HT.out.run.sch n (by rw [HT.out.run.len]; exact ho))
              by_cases hn0 : n < 0
              · have t1 : ¬ (0 : Int) ≤ n := by omega
                clear ho hn0
                go_wp2_with fail
                refine C1.out.mono ?_
                rintro e w6 ⟨rfl, rfl⟩
                go_wp2
                go_meet
                exact ⟨_, _, _, _, _, HT.out⟩
              · have t1 : (0 : Int) ≤ n := by omega
                have t2 : ¬ n < (ps.length : Int) := by omega
                clear ho hn0
                go_wp2_with fail
                refine C1.out.mono ?_
                rintro e w6 ⟨rfl, rfl⟩
                go_wp2
                go_meet
                exact ⟨_, _, _, _, _, HT.out⟩
            · obtain ⟨j, rfl⟩ : ∃ j : Nat, n = (j : Int) := ⟨n.toNat, by omega⟩
              have hjl : j < ps.length := by omega
              have hp : ps[j]? = some ps[j] := List.getElem?_eq_getElem hjl
              generalize ps[j] = p at hp
              have C1 := Lib.hid (HT.out.run.drop hp)
              have Hp := Lib.hid hp
              have t1 : (0 : Int) ≤ (j : Int) := by omega
              have t2 : (j : Int) < (ps.length : Int) := by omega
              clear ho hjl hp
              go_wp2_with fail
              refine C1.out.mono ?_
              rintro e w6 ⟨rfl, hf6, T6, hR6⟩
              have hA6 := HT.out.refM hf6
              obtain ⟨t, ht, m0, m1, m2, m3, m4, m5, _, _⟩ := hA6.task Hp.out
              have H6 := Lib.hid (And.intro hR6 (And.intro hA6 ht))
              have ka : (⟨R.tb, 0, none⟩ : Addr).add (j * 4) = ⟨R.tb, j * 4, none⟩ := add_plain _ _
              clear hf6 hR6 hA6 ht C1
              go_wp2
              go_meet
              exact ⟨_, _, _, _, _, two_gone H6.out.1 H6.out.2.1 HT.out.sep HT.out.low HT.out.lst Hp.out H6.out.2.2⟩
          · rw [show ((k : Int) == dr) = false by simpa using hd]
            clear hd
            go_wp2
            go_meet
            exact ⟨_, _, _, _, _, HT.out⟩
        case rest =>
          obtain ⟨st1, pos1, s1, T1, ts1, hT1⟩ := hcut
          have o3 := hT1.run.wd.obj.cell 3 rfl
          have HT1 := Lib.hid hT1
          have C1 := Lib.hid (hT1.run.step n)
          clear HT hT1 cl1
          go_wp2_with fail
          refine C1.out.mono ?_
          rintro e w6 ⟨c, rfl, hc⟩
          have HC := Lib.hid hc
          clear hc C1 o3
          go_upto_block 2 with fail
          go_cut [] (fun W => ∃ (st : Int) (pos : Nat → Nat) (s : St) (T : List TV) (ts : List RT), Two w1 W E tb mb R st ps pos s T ts)
          case first =>
            rcases HC.out with ⟨rfl, ho, rfl⟩ | ⟨j, p, rfl, hp, hrest⟩
            · have o3 := HT1.out.run.wd.obj.cell 3 rfl
              have A1 := Lib.hid (alive_out HT1.out.run.sch n (by rw [HT1.out.run.len]; exact ho))
              have A2 := Lib.hid (ready_out HT1.out.run.sch n (by rw [HT1.out.run.len]; exact ho))
              clear HC
              by_cases hn0 : n < 0
              · clear ho
                go_wp2_with fail
                refine A1.out.mono ?_
                rintro e w7 ⟨rfl, rfl⟩
                go_wp2_with fail
                refine A2.out.mono ?_
                rintro e w7 ⟨rfl, rfl⟩
                go_wp2
                go_meet
                exact ⟨_, _, _, _, _, HT1.out⟩
              · have t2 : (ps.length : Int) ≤ n := by omega
                clear ho
                go_wp2_with fail
                refine A1.out.mono ?_
                rintro e w7 ⟨rfl, rfl⟩
                go_wp2_with fail
                refine A2.out.mono ?_
                rintro e w7 ⟨rfl, rfl⟩
                go_wp2
                go_meet
                exact ⟨_, _, _, _, _, HT1.out⟩
            · have hjl := (List.getElem?_eq_some_iff.1 hp).1
              have t1 : ¬ (j : Int) < 0 := by omega
              have t2 : ¬ (ps.length : Int) ≤ (j : Int) := by omega
              have t3 : (0 : Int) ≤ (j : Int) := by omega
              have t4 : (j : Int) < (ps.length : Int) := by omega
              have ka : (⟨R.tb, 0, none⟩ : Addr).add (j * 4) = ⟨R.tb, j * 4, none⟩ := add_plain _ _
              rcases hrest with ⟨rfl, hx, rfl⟩ | ⟨x, hx, hrest⟩
              · obtain ⟨t, ht, m0, m1, m2, m3, m4, m5, g1, g2⟩ := HT1.out.ref.task hp
                cases hg : t.gone with
                | true =>
                  rw [hg] at m3
                  clear HC hp hx ht g1 g2 hjl
                  go_upto_region 21 with fail
                  go_quiet (fail)
                  go_wp2
                  go_meet
                  exact ⟨_, _, _, _, _, HT1.out.new ((Fr.refl _ _).drewN _)⟩
                | false =>
                  have l1 : (p.l.length : Int) ≤ (t.at_ : Int) := by
                    have h1 := g2 hg
                    have h2 := List.getElem?_eq_none_iff.1 hx
                    omega
                  rw [hg] at m3
                  clear HC hp hx ht g1 g2 hjl
                  go_upto_region 21 with fail
                  go_quiet (fail)
                  go_wp2
                  go_meet
                  exact ⟨_, _, _, _, _, HT1.out.new ((Fr.refl _ _).drewN _)⟩
              · have Hx := Lib.hid (And.intro hp hx)
                rcases hrest with ⟨rfl, hr, rfl⟩ | ⟨rfl, hr, hf6, T6, hR6⟩
                · obtain ⟨t, ht, m0, m1, m2, m3, m4, m5, g1, g2⟩ := HT1.out.ref.task hp
                  cases hg : t.gone with
                  | true =>
                    have := g1 hg
                    rw [hx] at this
                    cases this
                  | false =>
                    have l1 : (t.at_ : Int) < (p.l.length : Int) := by
                      have h1 := g2 hg
                      have h2 := (List.getElem?_eq_some_iff.1 hx).1
                      omega
                    rw [hg] at m3
                    have hrr := fun nq => rready_any ((HT1.out.ref.new ((Fr.refl (fun _ => False) wc).drewN nq))) HT1.out.run.hp hp (HT1.out.run.rd p (List.mem_of_getElem? hp)).2.2.1
                    rw [hr] at hrr
                    have C2 := Lib.hid hrr
                    clear HC hp hx ht g1 g2 hjl hr hrr
                    go_upto_region 21 with fail
                    go_quiet (fail)
                    go_wp2_with fail
                    refine (C2.out _).mono ?_
                    rintro e w7 ⟨rfl, f7⟩
                    have F7 := Lib.hid (HT1.out.new (((Fr.refl (fun _ => False) _).drewN nq).trans f7 (fun _ _ h => h)))
                    clear f7 C2
                    go_wp2
                    go_meet
                    exact ⟨_, _, _, _, _, F7.out⟩
                · have hA6 := HT1.out.refM hf6
                  obtain ⟨t, ht, m0, m1, m2, m3, m4, m5, g1, g2⟩ := hA6.task hp
                  cases hg : t.gone with
                  | true =>
                    have := g1 hg
                    rw [hx] at this
                    cases this
                  | false =>
                    have l1 : (t.at_ : Int) < (p.l.length : Int) := by
                      have h1 := g2 hg
                      have h2 := (List.getElem?_eq_some_iff.1 hx).1
                      omega
                    rw [hg] at m3
                    have hok := (HT1.out.run.rd p (List.mem_of_getElem? hp)).2.2.1
                    have hrr := fun nq => rready_any ((hA6.new ((Fr.refl (fun _ => False) w6).drewN nq))) HT1.out.run.hp hp hok
                    rw [hr] at hrr
                    have C2 := Lib.hid hrr
                    have C3 := Lib.hid (fun W' (h : Fr (fun _ => False) w6 W') => rstep_any (hA6.new h) HT1.out.run.hp hp hx (hok x (List.mem_of_getElem? hx)))
                    have H6 := Lib.hid (And.intro hR6 hA6)
                    clear HC hp hx ht g1 g2 hjl hr hrr hok hf6 hR6 hA6
                    go_upto_region 21 with fail
                    go_quiet (fail)
                    go_wp2_with fail
                    refine (C2.out _).mono ?_
                    rintro e w7 ⟨rfl, f7⟩
                    have F7 := Lib.hid (((Fr.refl (fun _ => False) w6).drewN nq).trans f7 (fun _ _ h => h))
                    clear f7 C2
                    go_wp2_with fail
                    refine (C3.out _ F7.out).mono ?_
                    rintro e w8 ⟨rfl, f8, ts8, hA8⟩
                    have H8 := Lib.hid (And.intro f8 hA8)
                    clear f8 hA8 C3
                    go_wp2
                    go_meet
                    exact ⟨_, _, _, T6, ts8, run_rS (H6.out.1.new F7.out) (H6.out.2.new F7.out) HT1.out.sep HT1.out.low H8.out.1, H8.out.2, HT1.out.sep, HT1.out.low, HT1.out.lst⟩
          case rest =>
            obtain ⟨st2, pos2, s2, T2, ts2, hT2⟩ := hcut
            have HT8 := Lib.hid hT2
            clear HT1 hT2 HC
            have o0 := HT8.out.ref.obj.cell 0 rfl
            have o1 := HT8.out.ref.obj.cell 1 rfl
            have o2 := HT8.out.ref.obj.cell 2 rfl
            have o3' := HT8.out.ref.obj.cell 3 rfl
            have o4 := HT8.out.ref.obj.cell 4 rfl
            have HS := Lib.hid (same_any HT8.out.run HT8.out.ref HT8.out.lt (by omega))
            unfold worldV at HS
            go_wp2_with fail
            refine HS.out.mono ?_
            rintro e w8 ⟨rfl, f8⟩
            have HT9 := Lib.hid (HT8.out.new f8)
            clear f8 HS HT8 o0 o1 o2 o3' o4
            go_wp2
            go_roundw
            case rel => exact ⟨k + 1, _, _, _, _, _, by go_num, by omega, by omega, HT9.out⟩
            case measure => simp [intOf]; omega
      · have HF9 := Lib.hid (HF.out.trans HT.out.run.fr (fun _ _ h => h))
        clear hT HT
        by_cases h1 : k < xs.length
        · have i1 : (k : Int) < (xs.length : Int) := by omega
          have i2 : ¬ (k : Int) < 600 := by omega
          clear hkn hk hk6 h1
          go_wp2
          go_ret
          exact ⟨rfl, HF9.out⟩
        · have i1 : ¬ (k : Int) < (xs.length : Int) := by omega
          clear hkn hk hk6 h1
          go_wp2
          go_ret
          exact ⟨rfl, HF9.out⟩
end Go.Proofs.Ytlljfopacdnpbaa
