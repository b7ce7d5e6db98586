/- SchedRuns, walked: true for every programs and picks. Conditions: those of the lemmas. -/
import Derived.Test.YtlljfopacdnpbaaRuns0
namespace Go.Proofs.Ytlljfopacdnpbaa
open Go.RowKit
/-- What right hands back serves begin and New. -/
theorem Made.few {W : World} {B : Nat} {ps : List PT} {ls : List (List Ins)} (h : Made W B ps ls) {is : List (List Ins)} (hl : ls = (is.take 8).map fun l => (l.take 60).map norm) : ps.length ≤ 8 ∧ ∀ p ∈ ps, Rd W p.A (insR p.l) ∧ (∀ ad, p.A = some ad → ad.block < W.heap.size) ∧ (∀ x ∈ p.l, x.ok) ∧ p.l.length ≤ 60 := by
  have hs := h.same
  rw [hl] at hs
  have h8 := congrArg List.length hs
  simp only [List.length_map, List.length_take] at h8
  refine ⟨by omega, fun p hp => ?_⟩
  obtain ⟨h1, h2⟩ := h.rd p hp
  have hm : p.l ∈ ps.map (·.l) := List.mem_map.2 ⟨p, hp, rfl⟩
  rw [hs] at hm
  obtain ⟨l, _, hle⟩ := List.mem_map.1 hm
  refine ⟨h1, fun ad e => ?_, fun x hx => ?_, ?_⟩
  · obtain ⟨_, cur, hc⟩ := h2 ad e
    exact (Array.getElem?_eq_some_iff.1 hc).1
  · rw [← hle] at hx
    obtain ⟨y, _, rfl⟩ := List.mem_map.1 hx
    exact norm_ok y
  · rw [← hle, List.length_map, List.length_take]
    omega
/-- Right and New, begun: the two worlds. -/
theorem two_begin {w W0 W1 : World} {E : Env} {tb mb : Nat} {R : RE} {ps : List PT} {T : List TV} {ts : List RT} (hR : Run w W0 E tb 0 ps (fun _ => 0) (s0 ps.length) T) (hf : Fr (fun _ => False) W0 W1) (hA : RefAt W1 mb R ps ts (fun _ => 0) (s0 ps.length) 0) (hm : W0.heap.size ≤ mb) (hft : ∀ k, R.foot k → W0.heap.size ≤ k) (hlst : ∀ p ∈ ps, ∀ ad, p.A = some ad → ad.block < w.heap.size) : Two w W1 E tb mb R 0 ps (fun _ => 0) (s0 ps.length) T ts := by
  have hge : ∀ q, rS mb R q → W0.heap.size ≤ q := by
    rintro q (rfl | h)
    · exact hm
    · exact hft q h
  refine ⟨hR.new hf, hA, fun q hq h => ?_, fun q h => ?_, hlst⟩
  · have := hR.lt q hq
    have := hge q h
    omega
  · have := hge q h
    have := hR.fr.size
    omega
theorem Fr.drop {S : Nat → Prop} {a b c : World} (h : Fr S b c) (k : Fr (fun _ => False) a b) : Fr S a c := (k.mono (fun _ _ h => h.elim)).trans h (fun _ _ h => h)
theorem Run.keepW {w W : World} {E : Env} {tb : Nat} {st : Int} {ls : List PT} {pos : Nat → Nat} {s : St} {T : List TV} (h : Run w W E tb st ls pos s T) {W' : World} (hf : Fr (Mem E tb) W W') : W'.cell? ⟨E.wb, 3, none⟩ = some (.pointer (some ⟨E.sb, 0, none⟩)) :=
  hf.cell (h.wd.obj.cell 3 rfl) (by
    rintro (hh | hh | hh)
    · exact h.wd.notMem h.wd.obj (by decide) (by decide) (by decide) hh
    · exact (h.wd.obj.ne h.sch.blk (by decide)) hh
    · exact (h.wd.obj.ne h.sch.tsk (by decide)) hh)
set_option maxHeartbeats 4000000 in
set_option maxRecDepth 100000 in
theorem runs_any {W : World} {A0 : Option Addr} {cp0 : Nat} {ls : List PT} (hL : Rd W A0 (ls.map ptV)) (hP : ∀ p ∈ ls, Rd W p.A (insR p.l)) {A1 : Option Addr} {cp1 : Nat} {xs : List Int} (hX : Rd W A1 (i64s xs)) :
    Calls Try.prog 3 #[.slice A0 ls.length cp0, .slice A1 xs.length cp1] W fun e w' => e = .returned (.bool true) ∧ Fr (fun _ => False) W w' := by
  have HR := Lib.hid (right_any (cp0 := cp0) hL hP)
  clear hL hP
  have HX := Lib.hid hX
  clear hX
  go_enter Try.func3, Try.ntmps3
  go_wp2_with fail
  refine HR.out.mono ?_
  rintro e w1 ⟨A2, cp2, ps, rfl, hM, hL2, hf1⟩
  obtain ⟨h8, hps⟩ := hM.few (is := ls.map (·.l)) (by rw [← List.map_take, List.map_map]; rfl)
  clear HR hM
  have HF := Lib.hid hf1
  clear hf1
  by_cases hz : ps.length = 0
  · have hnil : ps = [] := List.eq_nil_of_length_eq_zero hz
    subst hnil
    clear hps hL2 h8 hz
    simp only [List.length_nil]
    go_wp2_with fail
    refine (begin_nil w1 A2 cp2).mono ?_
    rintro e w2 ⟨b, rfl, hf2⟩
    have HF2 := Lib.hid (HF.out.trans hf2 (fun _ _ h => h))
    clear hf2
    go_wp2_with fail
    refine (awake_any _).mono ?_
    rintro e w3 ⟨rfl, hf3⟩
    have HF3 := Lib.hid (HF2.out.trans hf3 (fun _ _ h => h))
    clear hf3
    go_wp2_with fail
    refine (awake_any _).mono ?_
    rintro e w4 ⟨rfl, hf4⟩
    have HF4 := Lib.hid (HF3.out.trans hf4 (fun _ _ h => h))
    clear hf4
    go_wp2
    go_ret
    exact ⟨rfl, HF4.out⟩
  · have hps1 : 1 ≤ ps.length := by omega
    have hlz : ((ps.length : Int) == 0) = false := beq_eq_false_iff_ne.2 (by omega)
    have HB := Lib.hid (begin_ok w1 A2 cp2 ps hps1 (by omega) hL2 hps)
    have HPS := Lib.hid (And.intro hL2 hps)
    clear hL2 hps
    go_wp2_with fail
    refine HB.out.mono ?_
    rintro e w2 ⟨E, tb, T, rfl, hRun⟩
    have HRun := Lib.hid hRun
    clear hRun HB
    go_wp2_with fail
    refine (awake_any _).mono ?_
    rintro e w3 ⟨rfl, hf3⟩
    have HRun3 := Lib.hid (HRun.out.new hf3)
    clear hf3 HRun
    have hnew := rnew_any (W := w3) (A := A2) (cp := cp2) (ls := ps) (HPS.out.1.fr HRun3.out.fr (fun _ _ => id)) (fun p hp => ((HPS.out.2 p hp).1).fr HRun3.out.fr (fun _ _ => id)) (fun p hp ad e => by have := (HPS.out.2 p hp).2.1 ad e; have := HRun3.out.fr.size; omega) hps1 (by omega) (fun p hp => (HPS.out.2 p hp).2.2.2)
    have HN := Lib.hid hnew
    clear hnew
    go_wp2_with fail
    refine HN.out.mono ?_
    rintro e w4 ⟨mb0, R, ts, rfl, hA, hf4, hm4, hft4⟩
    unfold worldV
    have HA := Lib.hid (And.intro hA (And.intro hf4 (And.intro hm4 hft4)))
    clear hA hf4 hm4 hft4 HN
    go_upto_region 6 with fail
    have f5 : Fr (fun _ => False) w4 (w4.alloc (.cells #[.slice (some ⟨R.tb, 0, none⟩) ps.length R.tc, .slice (some ⟨R.cb, 0, none⟩) 4 4, .slice (some ⟨R.zb, 0, none⟩) 4 4, .slice (some ⟨R.hb, 0, none⟩) 4 4, .int .i64 0] 31)) := (Fr.refl _ w4).alloc _
    have hT : Two w1 (w4.alloc (.cells #[.slice (some ⟨R.tb, 0, none⟩) ps.length R.tc, .slice (some ⟨R.cb, 0, none⟩) 4 4, .slice (some ⟨R.zb, 0, none⟩) 4 4, .slice (some ⟨R.hb, 0, none⟩) 4 4, .int .i64 0] 31)) E tb w4.heap.size R 0 ps (fun _ => 0) (s0 ps.length) T ts :=
      two_begin HRun3.out (HA.out.2.1.trans f5 (fun _ _ h => h)) ((HA.out.1.new f5).box (Blk.at_new _ _ _ _ _ rfl rfl) (fun p hp ad e => by have h1 := (HPS.out.2 p hp).2.1 ad e; have h2 := HRun3.out.fr.size; have h3 := HA.out.2.1.size; omega)) (HA.out.2.1.size) HA.out.2.2.2 (fun p hp ad e => (HPS.out.2 p hp).2.1 ad e)
    clear f5 HA HRun3
    generalize w4.alloc (.cells #[.slice (some ⟨R.tb, 0, none⟩) ps.length R.tc, .slice (some ⟨R.cb, 0, none⟩) 4 4, .slice (some ⟨R.zb, 0, none⟩) 4 4, .slice (some ⟨R.hb, 0, none⟩) 4 4, .int .i64 0] 31) = w5 at hT ⊢
    generalize w4.heap.size = mb at hT ⊢
    have HT := Lib.hid hT
    clear hT HPS
    go_wp2_with fail
    go_loopw [8] (fun i wr => ∃ (k : Nat) (st : Int) (pos : Nat → Nat) (s : St) (T : List TV) (ts : List RT), i = .int .i64 k ∧ k ≤ xs.length ∧ k ≤ 600 ∧ Two w1 wr E tb mb R st ps pos s T ts) (fun i _ => xs.length - (intOf i).toNat)
    case atStart => exact ⟨0, _, _, _, _, _, rfl, Nat.zero_le _, Nat.zero_le _, HT.out⟩
    case round =>
      clear HT
      obtain ⟨k, st, pos, s, T, ts, rfl, hk, hk6, hT⟩ := hrel
      have HT := Lib.hid hT
      by_cases hkn : k < xs.length ∧ k < 600
      · obtain ⟨hkx, hk600⟩ := hkn
        have hxk : xs[k]? = some xs[k] := List.getElem?_eq_getElem hkx
        generalize xs[k] = x at hxk
        have hfr := HF.out.trans hT.run.fr (fun _ _ h => h)
        obtain ⟨la, rfl, cl⟩ := HX.out k (.int .i64 x) (by unfold i64s; rw [List.getElem?_map, hxk]; rfl)
        have Hcl := Lib.hid cl
        have cl1 := hfr.cell cl id
        have o3 := hT.run.wd.obj.cell 3 rfl
        have i0 : (0 : Int) ≤ (k : Int) := by omega
        have i1 : (k : Int) < (xs.length : Int) := by omega
        have i2 : (k : Int) < 600 := by omega
        have HFr := Lib.hid hfr
        clear hT hfr cl
        by_cases hz : readies ps pos s = []
        · have C1 := Lib.hid (fun W' (h : Fr (fun _ => False) wr W') => (HT.out.new h).pick_none hz x)
          have C2 := Lib.hid (fun W' (h : Fr (fun _ => False) wr W') => (HT.out.new h).rpick_none hz (by omega) x)
          clear hz hxk
          go_upto_region 9 with fail
          go_region_held3 (fun W' => W'.cell? ⟨E.wb, 3, none⟩ = some (.pointer (some ⟨E.sb, 0, none⟩)) ∧ W'.cell? (la.add k) = some (.int .i64 x))
            (first | exact ⟨o3, cl1⟩ | exact ⟨f6.cell o3 id, f6.cell cl1 id⟩)
            (first
              | (go_at_call 12; refine (C1.out _ (Fr.refl _ wr).drew).mono ?_; rintro e w6 ⟨rfl, f6⟩))
          have F6 := Lib.hid ((Fr.refl (fun _ => False) wr).drew.trans f6 (fun _ _ h => h))
          have cl6 := F6.out.cell cl1 id
          clear f6 o3 cl1
          go_wp2_with fail
          refine (C2.out w6 F6.out).mono ?_
          rintro e w7 ⟨rfl, f7⟩
          have HT8 := Lib.hid (HT.out.new (F6.out.trans f7 (fun _ _ h => h)))
          clear f7 cl6 C1 C2 HT F6
          have o0 := HT8.out.ref.obj.cell 0 rfl
          have o1 := HT8.out.ref.obj.cell 1 rfl
          have o2 := HT8.out.ref.obj.cell 2 rfl
          have o3' := HT8.out.ref.obj.cell 3 rfl
          have o4 := HT8.out.ref.obj.cell 4 rfl
          have HS := Lib.hid (same_any HT8.out.run HT8.out.ref HT8.out.lt (by omega))
          unfold worldV at HS
          go_wp2_with fail
          refine HS.out.mono ?_
          rintro e w8 ⟨rfl, f8⟩
          have HT9 := Lib.hid (HT8.out.new f8)
          clear f8 HS HT8 o0 o1 o2 o3' o4
          go_wp2
          go_roundw
          case rel => exact ⟨k + 1, _, _, _, _, _, by go_num, by omega, by omega, HT9.out⟩
          case measure => simp [intOf]; omega
        · obtain ⟨i, hi⟩ := turn_some hz x
          have C1 := Lib.hid (fun W' (h : Fr (fun _ => False) wr W') => (HT.out.new h).pick_some hi (by omega))
          have hwb := fun (w' : World) (h : Fr (Mem E tb) wr.drew w') => HT.out.run.keepW (h.drop (Fr.refl (fun _ => False) wr).drew)
          have hpk : ¬ Mem E tb la.block := fun hq => by
            have h1 := HT.out.run.nw _ hq
            have h2 := HF.out.size
            have h3 := HX.out.lt (j := k) (by unfold i64s; rw [List.getElem?_map, hxk]; rfl) rfl
            omega
          have hpk2 : ¬ Mem E tb (la.add k).block := by rw [add_block]; exact hpk
          have ii0 : (0 : Int) ≤ (i : Int) := by omega
          clear hz hxk hi hpk
          go_upto_region 9 with fail
          go_region_held3 (fun W' => W'.cell? ⟨E.wb, 3, none⟩ = some (.pointer (some ⟨E.sb, 0, none⟩)) ∧ W'.cell? (la.add k) = some (.int .i64 x))
            (first | exact ⟨o3, cl1⟩ | exact ⟨hwb _ f6, f6.cell cl1 hpk2⟩)
            (first
              | (go_at_call 12; refine (C1.out _ (Fr.refl _ wr).drew).mono ?_; rintro e w6 ⟨rfl, f6, c6⟩))
          have F6 := Lib.hid f6
          have cl6 := f6.cell cl1 hpk2
          have C6 := Lib.hid c6
          clear f6 o3 cl1 c6 hwb hpk2
          go_wp2_with fail
          refine (C6.out w6 (Fr.refl _ w6)).mono ?_
          rintro e w7 ⟨rfl, st', pos', s', T', ts', hT8⟩
          have HT8 := Lib.hid hT8
          clear hT8 cl6 C1 C6 HT F6
          have o0 := HT8.out.ref.obj.cell 0 rfl
          have o1 := HT8.out.ref.obj.cell 1 rfl
          have o2 := HT8.out.ref.obj.cell 2 rfl
          have o3' := HT8.out.ref.obj.cell 3 rfl
          have o4 := HT8.out.ref.obj.cell 4 rfl
          have HS := Lib.hid (same_any HT8.out.run HT8.out.ref HT8.out.lt (by omega))
          unfold worldV at HS
          go_wp2_with fail
          refine HS.out.mono ?_
          rintro e w8 ⟨rfl, f8⟩
          have HT9 := Lib.hid (HT8.out.new f8)
          clear f8 HS HT8 o0 o1 o2 o3' o4
          go_wp2
          go_roundw
          case rel => exact ⟨k + 1, _, _, _, _, _, by go_num, by omega, by omega, HT9.out⟩
          case measure => simp [intOf]; omega
      · have HT8 := HT
        clear hT HT
        have o0 := HT8.out.ref.obj.cell 0 rfl
        have o1 := HT8.out.ref.obj.cell 1 rfl
        have o2 := HT8.out.ref.obj.cell 2 rfl
        have o3' := HT8.out.ref.obj.cell 3 rfl
        have o4 := HT8.out.ref.obj.cell 4 rfl
        have HS := Lib.hid (same_any HT8.out.run HT8.out.ref HT8.out.lt (by omega))
        unfold worldV at HS
        by_cases h1 : k < xs.length
        · have i1 : (k : Int) < (xs.length : Int) := by omega
          have i2 : ¬ (k : Int) < 600 := by omega
          clear hkn hk hk6 h1
          go_wp2_with fail
          refine HS.out.mono ?_
          rintro e w8 ⟨rfl, f8⟩
          have HF9 := Lib.hid (HF.out.trans (HT8.out.run.new f8).fr (fun _ _ h => h))
          clear f8 HS HT8 o0 o1 o2 o3' o4
          go_wp2
          go_ret
          exact ⟨rfl, HF9.out⟩
        · have i1 : ¬ (k : Int) < (xs.length : Int) := by omega
          clear hkn hk hk6 h1
          go_wp2_with fail
          refine HS.out.mono ?_
          rintro e w8 ⟨rfl, f8⟩
          have HF9 := Lib.hid (HF.out.trans (HT8.out.run.new f8).fr (fun _ _ h => h))
          clear f8 HS HT8 o0 o1 o2 o3' o4
          go_wp2
          go_ret
          exact ⟨rfl, HF9.out⟩
end Go.Proofs.Ytlljfopacdnpbaa
