/- The law EpochSafe, walked. Conditions: those of the lemmas. -/
import Derived.Test.YtolkoagjompjjaaSafeMid
namespace Go.Proofs.Ytolkoagjompjjaa
open Go.RowKit
attribute [local go_sem ↓] Go.wp_at_zero Go.wp_at_succ
def e8 : List Int := [-1, -1, -1, -1, -1, -1, -1, -1]
def s8 : List Int := List.replicate 8 0
theorem slot8 (sl : Int) : ∃ k : Nat, k < 8 ∧ wrap64 ((IntKind.u64.wrap sl).tmod 8) = (k : Int) := by
  have h0 : 0 ≤ IntKind.u64.wrap sl := by rw [IntKind.wrap_u64]; omega
  rw [Int.tmod_eq_emod_of_nonneg h0, IntWalk.wrap64_in _ (by omega)]
  exact ⟨(IntKind.u64.wrap sl % 8).toNat, by omega, by omega⟩
attribute [-go_sem] Go.sliced
set_option maxHeartbeats 4000000 in
set_option maxRecDepth 100000 in
theorem safe_ok (w : World) (A : Option Addr) (m cp : Nat) (s : List Op4) (hs : s.length = m) (hr : Rd w A (ops4 s).flatten) (hx : ∀ o ∈ s, Rd w o.ta (o.xs.map Value.string)) (hsum : allX s ≤ 1048576) (hm : m ≤ 9223372036854775807)
    (A2 : Option Addr) (m2 cp2 : Nat) (us : List Int) (hu : us.length = m2) (hU : Rd w A2 (us.map (Value.int .u8))) (hub : ∀ u ∈ us, 0 ≤ u ∧ u ≤ 255) (hm2 : m2 ≤ 9223372036854775807) :
    Calls Try.prog 4 #[.slice A m cp, .slice A2 m2 cp2] w fun e w' => e = .returned (.bool true) ∧ Fr (fun _ => False) w w' := by
  have hnew := newS_ok 8 (by decide) (by decide) w
  go_enter Try.func4, Try.ntmps4
  go_wp2_with fail
  refine hnew.mono ?_
  clear hnew
  rintro e w1 ⟨b, sv, rfl, hB, hf, hb, hsv⟩
  have h1 : BkNS w w1 b 1 sv s8 (.slice none 0 0) (lOld []) := ⟨hB, hf, hb, hsv, (fun q hq => by simp [Value.ownBlock] at hq), by decide⟩
  have hsl := fun q hq => hB.slot.lt (k := q) hq
  clear hB hf hsv
  go_wp2_with fail
  refine (awake_any _).mono ?_
  rintro e w2 ⟨rfl, hf2⟩
  have h2 := h1.new hf2
  have hl2 := hf2.size
  have hP : PS w (w2.alloc (.cells #[.int .i64 (-1), .int .i64 (-1), .int .i64 (-1), .int .i64 (-1), .int .i64 (-1), .int .i64 (-1), .int .i64 (-1), .int .i64 (-1)] 3)) b w2.heap.size 1 sv (.slice none 0 0) (.slice none 0 0) (.slice none 0 0) s8 e8 [] := by
    have f3 : Fr (fun _ => False) w2 (w2.alloc (.cells #[.int .i64 (-1), .int .i64 (-1), .int .i64 (-1), .int .i64 (-1), .int .i64 (-1), .int .i64 (-1), .int .i64 (-1), .int .i64 (-1)] 3)) := (Fr.refl _ w2).alloc _
    refine ⟨h2.new f3, Blk.at_new _ _ _ _ _ rfl rfl, Win.nil _ _, Win.nil _ _, h2.fr.size, (fun q hq => by simp [Value.ownBlock] at hq), (fun q hq => by simp [Value.ownBlock] at hq), fun hq => ?_⟩
    have := hsl _ hq
    omega
  clear h1 h2 hf2 hsl hl2
  go_wp2_with fail
  generalize w2.alloc (.cells #[.int .i64 (-1), .int .i64 (-1), .int .i64 (-1), .int .i64 (-1), .int .i64 (-1), .int .i64 (-1), .int .i64 (-1), .int .i64 (-1)] 3) = w3 at hP ⊢
  generalize w2.heap.size = eb at hP ⊢
  have hI0 : SInv 0 1 s8 e8 [] := by
    refine ⟨rfl, rfl, fun k hk => ?_, (fun p hp => by simp at hp), (fun k hk p hp => by simp at hp), List.Pairwise.nil, by decide⟩
    have h8 : ∀ k, k < 8 → 0 ≤ s8.getD k 0 ∧ s8.getD k 0 ≤ 1 ∧ (e8.getD k 0 < 0 ↔ s8.getD k 0 = 0) := by decide
    exact h8 k hk
  go_loopw [8, 9, 10] (fun tv nv i W => ∃ (j : Nat) (now : Int) (ov : Value) (S E : List Int) (L : List T3), i = .int .i64 j ∧ j ≤ m ∧ j ≤ 400 ∧ PS w W b eb now sv ov tv nv S E L ∧ SInv j now S E L ∧ L.length ≤ allX (s.take j) ∧ now ≤ j + 1) (fun _ _ i _ => m - (intOf i).toNat)
  case atStart => exact ⟨0, 1, _, _, _, [], rfl, Nat.zero_le _, Nat.zero_le _, hP, hI0, Nat.zero_le _, by decide⟩
  case round =>
    clear hP hI0
    obtain ⟨j, now, ov, S, E, L, rfl, hj, hj4, hP, hI, hol, hnow⟩ := hrel
    by_cases hgo : j < m ∧ j < 400
    · obtain ⟨hjm, hj400⟩ := hgo
      have ho := List.getElem?_eq_getElem (show j < s.length by omega)
      obtain ⟨ad, rfl, c0, c1, c2', c3⟩ := ops4_cells (hr.fr hP.bk.fr (fun _ _ => id)) ho
      have hxo := hx _ (List.getElem_mem (show j < s.length by omega))
      have hax : allX (s.take (j + 1)) = allX (s.take j) + (s[j]'(by omega)).xs.length := by
        rw [List.take_add_one, ho, allX_app]; simp [allX]
      have hax2 : allX (s.take (j + 1)) ≤ 1048576 := by
        have : allX s = allX (s.take (j + 1)) + allX (s.drop (j + 1)) := by
          rw [← allX_app, List.take_append_drop]
        omega
      generalize s[j]'(by omega) = o at c0 c1 c2' c3 hxo hax
      obtain ⟨kd, sl, at_, ta, tc, xs⟩ := o
      simp only at c0 c1 c2' c3 hxo hax
      have g1 : (j : Int) < (m : Int) := by omega
      have g2 : (j : Int) < 400 := by omega
      have i0 : (0 : Int) ≤ (j : Int) := by omega
      have hb5 : Blk (wr.alloc (.cells #[.int .i64 kd, .int .i64 sl, .int .i64 at_, .slice ta xs.length tc] 35)) wr.heap.size [.int .i64 kd, .int .i64 sl, .int .i64 at_, .slice ta xs.length tc] 35 := Blk.at_new _ _ _ _ _ rfl rfl
      have hP5 := hP.new ((Fr.refl (fun _ => False) wr).alloc (.cells #[.int .i64 kd, .int .i64 sl, .int .i64 at_, .slice ta xs.length tc] 35))
      clear hP
      have hx5 := hxo.fr hP5.bk.fr (fun _ _ => id)
      go_upto_region 11 with fail
      generalize wr.alloc (.cells #[.int .i64 kd, .int .i64 sl, .int .i64 at_, .slice ta xs.length tc] 35) = w5 at hb5 hP5 hx5 ⊢
      generalize wr.heap.size = ob at hb5 ⊢
      clear c0 c1 c2' c3 ho
      have p0 := hb5.cell 0 rfl
      have p1 := hb5.cell 1 rfl
      go_upto_region 12 with fail
      obtain ⟨k, hk8, hk⟩ := slot8 sl
      rw [hk]
      clear hk p1
      have kE := hI.e8
      have kS := hI.s8
      have keb := hP5.ent.cell k (i64s_at (show k < E.length by omega))
      have ka : (⟨eb, 0, none⟩ : Addr).add k = ⟨eb, k, none⟩ := add_plain eb k
      have hebl := hP5.ent.lt
      have hebf := hP5.ent.free k
      have ik0 : (0 : Int) ≤ (k : Int) := by omega
      have ik1 : (k : Int) < 8 := by omega
      by_cases k1 : kd = 1
      · subst k1
        have Hnow := Lib.hid (nowS_any hP5.bk.book)
        have hsz5 := hP5.bk.fr.size
        have hone := hI.one
        have HP5 := Lib.hid hP5
        have HI := Lib.hid hI
        clear hP5 hI hx5
        go_wp2_with fail
        refine Hnow.out.mono ?_
        rintro e w' ⟨rfl, rfl⟩
        clear p0
        go_upto_if 59 with fail
        go_cut [13] (fun t W => ∃ a : Int, t = .int .i64 a ∧ 1 ≤ a ∧ a ≤ now ∧ W = w5)
        case first =>
          by_cases hj2 : j < m2
          · have hg : (j : Int) < (m2 : Int) := by omega
            have hux := List.getElem?_eq_getElem (show j < us.length by omega)
            obtain ⟨ad2, rfl, hcu⟩ := hU j (.int .u8 (us[j]'(by omega))) (by rw [List.getElem?_map, hux]; rfl)
            have hub' := hub _ (List.getElem_mem (show j < us.length by omega))
            have hcu5 := HP5.out.bk.fr.cell hcu id
            generalize us[j]'(by omega) = u at hcu5 hub'
            have u4 : 0 ≤ u % 4 ∧ u % 4 ≤ 3 := by omega
            clear hcu hux
            by_cases hmx : 1 < now - u % 4
            · go_wp2
              go_meet
              case rel => exact ⟨_, rfl, by omega, by omega, rfl⟩
            · go_wp2
              go_meet
              case rel => exact ⟨_, rfl, by omega, by omega, rfl⟩
          · have hg : ¬ (j : Int) < (m2 : Int) := by omega
            go_wp2
            go_meet
            case rel => exact ⟨now, rfl, hone, Int.le_refl _, rfl⟩
        case rest =>
          obtain ⟨at1, rfl, ha1, ha2, hwc⟩ := hcut
          subst hwc
          go_upto_region 17 with fail
          have d5 : Fr (fun _ => False) wc wc.drew := (Fr.refl _ wc).drew
          have hP6 := HP5.out.new d5
          obtain ⟨r1, r2, r3⟩ := HI.out.rd k hk8
          have hE0 : enterE now S k at1 = if S.getD k 0 ≠ 0 then 11 else 0 := by unfold enterE; rw [if_neg (by omega), Int.toNat_natCast]
          by_cases hz : S.getD k 0 = 0
          · have hEz : E.getD k 0 < 0 := r3.2 hz
            have hEn := enterS_n hP6.bk k at1 0 (S.set k at1) (by rw [hE0, if_neg (by simpa using hz)]) (by rw [if_pos rfl, Int.toNat_natCast])
            have HEn := Lib.hid hEn
            have HP6 := Lib.hid hP6
            have hb6 := hP6.ent
            have gd : decide (E.getD k 0 < 0) = true := decide_eq_true hEz
            have Hz := Lib.hid hz
            have hsv := hP6.se
            clear hEn hP6 hE0 hz r1 r2 r3
            generalize E.getD k 0 = ek at keb hEz gd
            go_region_held3 (fun w' => w'.cell? ⟨eb, k, none⟩ = some (.int .i64 ek))
              (first | exact keb | exact hf7.cell keb hsv)
              (first
                | (go_at_call 10; refine HEn.out.mono ?_; rintro e w7 ⟨rfl, hB7, hf7⟩))
            have hP7 := HP6.out.slots' hB7 hf7
            have k7 := hf7.cell keb hsv
            have k7f := hP7.ent.free k
            have hP8 := hP7.ent' k (j : Int)
            have hI8 := HI.out.enter (by omega) k hk8 at1 ha1 ha2 Hz.out
            have HP8 := Lib.hid hP8
            have HI8 := Lib.hid hI8
            clear hP7 hP8 hI8 HP6 HEn hB7 HP5 HI
            go_wp2
            go_roundw
            case rel => exact ⟨j + 1, now, ov, _, _, L, by go_num, by omega, by omega, HP8.out, by have := HI8.out; rwa [Int.natCast_add], by omega, by omega⟩
            case measure => simp [intOf]; omega
          · have hEz : ¬ E.getD k 0 < 0 := fun h => hz (r3.1 h)
            have hEn := enterS_n hP6.bk k at1 11 S (by rw [hE0, if_pos hz]) (by rw [if_neg (by decide)])
            have HEn := Lib.hid hEn
            have HP6 := Lib.hid hP6
            have gd : decide (E.getD k 0 < 0) = false := decide_eq_false hEz
            have hsv := hP6.se
            clear hEn hP6 hE0 hz r1 r2 r3
            generalize E.getD k 0 = ek at keb hEz gd
            go_region_held3 (fun w' => w'.cell? ⟨eb, k, none⟩ = some (.int .i64 ek))
              (first | exact keb | exact hf7.cell keb hsv)
              (first
                | (go_at_call 10; refine HEn.out.mono ?_; rintro e w7 ⟨rfl, hB7, hf7⟩))
            have hP7 := HP6.out.slots' hB7 hf7
            have k7 := hf7.cell keb hsv
            have hI8 := HI.out.next
            have HP8 := Lib.hid hP7
            have HI8 := Lib.hid hI8
            clear hP7 hI8 HP6 HEn hB7 HP5 HI
            go_wp2
            go_roundw
            case rel => exact ⟨j + 1, now, ov, _, _, L, by go_num, by omega, by omega, HP8.out, by have := HI8.out; rwa [Int.natCast_add], by omega, by omega⟩
            case measure => simp [intOf]; omega
      · by_cases k2 : kd = 2
        · subst k2
          go_upto_region 22 with fail
          clear p0
          have d5 : Fr (fun _ => False) w5 w5.drew := (Fr.refl _ w5).drew
          have hP6 := hP5.new d5
          obtain ⟨r1, r2, r3⟩ := hI.rd k hk8
          have hE0 : leaveE S k = if S.getD k 0 = 0 then 11 else 0 := by unfold leaveE; rw [if_neg (by omega), Int.toNat_natCast]
          have hEn := leaveS_n hP6.bk k _ _ rfl rfl
          have hI8 := hI.leave k hk8
          generalize hSS : (if leaveE S (k : Int) = 0 then S.set (k : Int).toNat 0 else S) = S' at hEn hI8
          have HEn := Lib.hid hEn
          have HP6 := Lib.hid hP6
          have HI8 := Lib.hid hI8
          have hsv := hP6.se
          clear hEn hP6 hSS hI8 hx5 hP5
          have htest : (!(leaveE S (k : Int) == 0) == decide (0 ≤ E.getD k 0)) = false := by
            rw [hE0]
            by_cases hz : S.getD k 0 = 0
            · have := r3.2 hz
              rw [if_pos hz, decide_eq_false (by omega)]
              rfl
            · have : ¬ E.getD k 0 < 0 := fun h => hz (r3.1 h)
              rw [if_neg hz, decide_eq_true (by omega)]
              rfl
          generalize leaveE S (k : Int) = e0 at HEn htest
          generalize E.getD k 0 = ek at keb htest
          clear hE0 r1 r2 r3 hI
          go_region_held3 (fun w' => w'.cell? ⟨eb, k, none⟩ = some (.int .i64 ek))
            (first | exact keb | exact hf7.cell keb hsv)
            (first
              | (go_at_call 12; refine HEn.out.mono ?_; rintro e w7 ⟨rfl, hB7, hf7⟩))
          have hP7 := HP6.out.slots' hB7 hf7
          have k7 := hf7.cell keb hsv
          have k7f := hP7.ent.free k
          have hP8 := hP7.ent' k (-1)
          have HP8 := Lib.hid hP8
          clear hP7 hP8 HP6 HEn hB7
          go_wp2
          go_roundw
          case rel => exact ⟨j + 1, now, ov, _, _, L, by go_num, by omega, by omega, HP8.out, by have := HI8.out; rwa [Int.natCast_add], by omega, by omega⟩
          case measure => simp [intOf]; omega
        · by_cases k3 : kd = 3
          · subst k3
            have p3 := hb5.cell 3 rfl
            have hb5l := hb5.lt
            have hA : 0 < xs.length → ∀ ad, ta = some ad → ad.block ≠ b ∧ ov.ownBlock ≠ some ad.block := by
              intro h0 ad' e
              have hlt : ad'.block < w.heap.size := hxo.lt (j := 0) (v := .string (xs[0]'h0)) (by rw [List.getElem?_map, List.getElem?_eq_getElem h0]; rfl) e
              have h1 := hP5.bk.bn
              exact ⟨by omega, fun hh => by have := hP5.bk.on _ hh; omega⟩
            have hone := hI.one
            have hRe := retireS_n hP5.bk ta xs.length tc xs (by simp) hx5 hA (by rw [lOld_len]; omega) ⟨by omega, by omega⟩ (now + 1) rfl _ (lOld_news L xs now (j : Int))
            have hI8 := hI.retire xs
            have HRe := Lib.hid hRe
            have HP5 := Lib.hid hP5
            have HI8 := Lib.hid hI8
            have Hb5 := Lib.hid hb5
            clear hRe hP5 hI8 hI hx5 hA hb5
            go_wp2_with fail
            refine HRe.out.mono ?_
            rintro e w6 ⟨rfl, ⟨ov', hB6⟩, hf6⟩
            have hM6 := HP5.out.book hB6 hf6
            have hb6 := hf6.blk Hb5.out (fun hh => by
              rcases hh with hh | hh
              · exact (Hb5.out.ne HP5.out.bk.book.blk (by decide)) hh
              · exact (HP5.out.bk.book.wait.ne Hb5.out (by decide)) hh)
            have hx6 := hxo.fr hB6.fr (fun _ _ => id)
            have p6 := hb6.cell 3 rfl
            have HM6 := Lib.hid hM6
            have Hx6 := Lib.hid hx6
            have Hb6 := Lib.hid hb6
            have Hln := Lib.hid (show ((lNam L).length + (xs.map Value.string).length) * 16 ≤ 140737488355328 by rw [lNam_len, List.length_map]; omega)
            clear hB6 hf6 hM6 hb6 hx6 p3 HRe
            go_wp2_with (at_builtin; go_must (refine appW (W := w6) rfl _ _ 28 9 (.string ⟨#[]⟩) 16 rfl Try.underlying28 infoStr rfl (by decide) u9 (lNam L) rfl ta (xs.map Value.string) xs.length tc (by simp) rfl HM6.out.names Hx6.out (strs_one1 xs) Hln.out ?_); intro v7 w7 hv7 ho7 hf7)
            have hM7 := HM6.out.app_names hv7 ho7 hf7
            have hb7 := hf7.blk Hb6.out (HM6.out.names.ne_blk Hb6.out (by decide))
            have HM7 := Lib.hid hM7
            have HL := Lib.hid (show L.length + xs.length ≤ 1048576 by omega)
            clear hv7 ho7 hf7 p6 hM7 Hx6 Hb6 HM6 HP5 Hb5 Hln
            go_wp2_with fail
            go_loopw [8, 14] (fun tv i W => ∃ (q : Nat), i = .int .i64 q ∧ q ≤ xs.length ∧ PM w W b eb (now + 1) sv ov' tv v7 S E (lOld (L ++ news xs now j)) (lNam L ++ xs.map Value.string) (lTd L ++ List.replicate q (j : Int)) ∧ Blk W ob [.int .i64 3, .int .i64 sl, .int .i64 at_, .slice ta xs.length tc] 35) (fun _ i _ => xs.length - (intOf i).toNat)
            case atStart => exact ⟨0, rfl, Nat.zero_le _, by simpa using HM7.out, hb7⟩
            case round =>
              obtain ⟨q, rfl, hq, hM, hbo⟩ := hrel
              clear hb7
              have p3 := hbo.cell 3 rfl
              have iq0 : (0 : Int) ≤ (q : Int) := by omega
              by_cases hqn : q < xs.length
              · have hM8 := hM.new ((Fr.refl (fun _ => False) wr).alloc (.cells #[.int .i64 (j : Int)] 3))
                have hbo8 := ((Fr.refl (fun _ => False) wr).alloc (.cells #[.int .i64 (j : Int)] 3)).blk hbo id
                have hr8 : Rd (wr.alloc (.cells #[.int .i64 (j : Int)] 3)) (some ⟨wr.heap.size, 0, none⟩) [.int .i64 (j : Int)] := by
                  have hbn : Blk (wr.alloc (.cells #[.int .i64 (j : Int)] 3)) wr.heap.size [.int .i64 (j : Int)] 3 := Blk.at_new _ _ _ _ _ rfl rfl
                  intro k' v hv
                  refine ⟨_, rfl, ?_⟩
                  rw [add_plain]
                  exact hbn.cell k' hv
                have hsz8 : ((i64s (lTd L ++ List.replicate q (j : Int))).length + [Value.int .i64 (j : Int)].length) * 8 ≤ 140737488355328 := by
                  have := HL.out
                  rw [i64s_len, List.length_append, List.length_replicate, lTd_len, List.length_singleton]
                  omega
                have hone8 : ∀ u ∈ [Value.int .i64 (j : Int)], u.oneCell' = true := fun u hu => by rw [List.mem_singleton.1 hu]; rfl
                have e8 : i64s (lTd L ++ List.replicate q (j : Int)) ++ [Value.int .i64 (j : Int)] = i64s (lTd L ++ List.replicate (q + 1) (j : Int)) := by
                  rw [List.replicate_succ', ← List.append_assoc]
                  simp [i64s]
                have HM8 := Lib.hid hM8
                have Hbo8 := Lib.hid hbo8
                have HR8 := Lib.hid hr8
                have Hs8 := Lib.hid hsz8
                have Ho8 := Lib.hid hone8
                have He8 := Lib.hid e8
                clear hM8 hbo8 hr8 hM hsz8 hone8 e8
                go_wp2_with (at_builtin; go_must (refine appW (W := wr.alloc (.cells #[.int .i64 (j : Int)] 3)) rfl _ _ 27 3 (.int .i64 0) 8 rfl Try.underlying27 infoInt rfl (by decide) u8 (i64s (lTd L ++ List.replicate q (j : Int))) rfl (some ⟨wr.heap.size, 0, none⟩) [.int .i64 (j : Int)] 1 1 rfl rfl HM8.out.told HR8.out Ho8.out Hs8.out ?_); intro v9 w9 hv9 ho9 hf9)
                rw [He8.out] at hv9
                have hM9 := HM8.out.app_told hv9 ho9 hf9
                have hb9 := hf9.blk Hbo8.out (HM8.out.told.ne_blk Hbo8.out (by decide))
                go_wp2
                go_roundw
                case rel => exact ⟨q + 1, by go_num, by omega, hM9, hb9⟩
                case measure => simp [intOf]; omega
              · obtain rfl : q = xs.length := by omega
                have hP9 := hM.toPS (lNam_news L xs now j).symm (lTd_news L xs now j).symm
                have hlen : (L ++ news xs now (j : Int)).length ≤ allX (s.take (j + 1)) := by
                  rw [List.length_append, hax]
                  simp only [news, List.length_map]
                  omega
                have HP9 := Lib.hid hP9
                have Hlen := Lib.hid hlen
                clear hP9 hlen hM
                go_wp2
                go_roundw
                case rel => exact ⟨j + 1, now + 1, ov', _, _, L ++ news xs now j, by go_num, by omega, by omega, HP9.out, by have := HI8.out; rwa [Int.natCast_add], Hlen.out, by omega⟩
                case measure => simp [intOf]; omega
          · by_cases k4 : kd = 4
            · subst k4
              have HLn := Lib.hid (show L.length ≤ 1048576 by omega)
              have hLn := HLn.out
              clear hx5 hxo kS keb ka ik0 ik1 hebf hk8
              obtain ⟨n, hn, e1, e2⟩ := free_head (firstOf now S) L hI.up
              have hFr := freeS_n hP5.bk (lOld_str L) (by rw [lOld_len]; omega) _ rfl (lOld (L.take n)) (lOld (L.drop n)) (by rw [lOld_filter, e1]) (by rw [lOld_filter', e2])
              rw [lOld_len, List.length_take, Nat.min_eq_left hn, lOld_fst] at hFr
              have hfirst : ∀ p ∈ L.take n, p.at_ < firstOf now S := fun p hp => by
                rw [← e1] at hp
                simpa using (List.mem_filter.1 hp).2
              have HFr := Lib.hid hFr
              have HP5 := Lib.hid hP5
              have HI := Lib.hid hI
              have Hfirst := Lib.hid hfirst
              clear hFr hP5 hI hfirst e1 e2
              go_wp2_with fail
              refine HFr.out.mono ?_
              rintro e w6 ⟨fA, fc, rfl, ⟨ov', hB6⟩, hF6, hf6, hN6⟩
              clear p0
              have hM6 := HP5.out.book hB6 (hf6.mono (fun _ _ h => .inl h))
              obtain ⟨fA', fc', hv, hfR⟩ := hF6.rd
              injection hv with hv1 hv2 hv3
              subst hv1
              clear hv2 hv3
              have hHeld := heldS_any hM6.bk.book
              rw [lOld_len, List.length_drop] at hHeld
              have HHeld := Lib.hid hHeld
              have HM6 := Lib.hid hM6
              have HfR := Lib.hid hfR
              obtain ⟨NA, NC, hnv, hnc1, hnc2⟩ := hM6.names.slice
              rw [lNam_len] at hnv hnc1
              obtain ⟨TA, TC, htv, htc1, htc2⟩ := hM6.told.slice
              rw [i64s_len, lTd_len] at htv htc1
              subst hnv htv
              have g4 : decide ((L.length : Int) < (n : Int)) = false := decide_eq_false (by omega)
              obtain ⟨D, g5⟩ : ∃ D : Int, ((L.length - n : Nat) : Int) = D := ⟨_, rfl⟩
              have g6 : IntKind.i64.wrap ((L.length : Int) - (n : Int)) = D := by rw [IntWalk.i64_in _ (by omega)]; omega
              clear hB6 hF6 hf6 hN6 hM6 hfR hHeld HFr HP5
              go_wp2_with fail
              refine HHeld.out.mono ?_
              rintro e w' ⟨rfl, rfl⟩
              rw [g5]
              clear g5
              go_wp2_with fail
              go_loopw [16, 17] (fun kv _ W => ∃ (q : Nat), kv = .int .i64 q ∧ q ≤ n ∧ ∃ r, W = w6.drewN r) (fun kv _ _ => n - (intOf kv).toNat)
              case atStart => exact ⟨0, rfl, Nat.zero_le _, 0, rfl⟩
              case round =>
                obtain ⟨q, rfl, hq, r, rfl⟩ := hrel
                have iq0 : (0 : Int) ≤ (q : Int) := by omega
                by_cases hqn : q < n
                · have hqL : q < L.length := by omega
                  have hLt : (L.take n)[q]? = some L[q] := by rw [List.getElem?_take_of_lt hqn, List.getElem?_eq_getElem hqL]
                  obtain ⟨a1, rfl, c1⟩ := HfR.out q (.string L[q].x) (by unfold lNam; rw [List.getElem?_map, hLt]; rfl)
                  obtain ⟨a2, rfl, c2⟩ := HM6.out.names.rd q _ (lNam_at hqL)
                  obtain ⟨a3, rfl, c3⟩ := HM6.out.told.rd q _ (lTd_at hqL)
                  have hsafe := fun k hk => HI.out.safe (p := L[q]) (List.mem_of_mem_take (List.mem_of_getElem? hLt)) (Hfirst.out _ (List.mem_of_getElem? hLt)) k hk
                  clear hLt
                  generalize L[q].x = x at c1 c2
                  generalize L[q].td = td at c3 hsafe
                  have d1 : ∀ q', (w6.drewN q').cell? (a1.add q) = some (.string x) := fun q' => c1
                  have d2 : ∀ q', (w6.drewN q').cell? (a2.add q) = some (.string x) := fun q' => c2
                  have d3 : ∀ q', (w6.drewN q').cell? (a3.add q) = some (.int .i64 td) := fun q' => c3
                  have i1 : (q : Int) < (n : Int) := by omega
                  have i2 : (q : Int) < (L.length : Int) := by omega
                  clear c1 c2 c3
                  go_upto_region 40 with fail
                  go_quiet (fail)
                  go_wp2_with fail
                  go_loopw [17] (fun sv W => ∃ (t : Nat), sv = .int .i64 t ∧ t ≤ 8 ∧ ∃ r, W = w6.drewN r) (fun sv _ => 8 - (intOf sv).toNat)
                  case atStart => exact ⟨0, rfl, Nat.zero_le _, _, World.drewN_drewN _ _ _⟩
                  case round =>
                    obtain ⟨t, rfl, ht, r, rfl⟩ := hrel
                    by_cases ht8 : t < 8
                    · have hsf := hsafe t ht8
                      have c4 := HM6.out.ent.cell t (i64s_at (show t < E.length by omega))
                      have ka : (⟨eb, 0, none⟩ : Addr).add t = ⟨eb, t, none⟩ := add_plain eb t
                      generalize E.getD t 0 = et at c4 hsf
                      have d4 : ∀ q', (w6.drewN q').cell? ⟨eb, t, none⟩ = some (.int .i64 et) := fun q' => c4
                      have it0 : (0 : Int) ≤ (t : Int) := by omega
                      have it1 : (t : Int) < 8 := by omega
                      clear c4
                      by_cases hz : 0 ≤ et
                      · have gz : decide (0 ≤ et) = true := decide_eq_true hz
                        have gl : decide (et < td) = false := decide_eq_false (fun h => hsf ⟨hz, h⟩)
                        clear hsf
                        go_upto_region 45 with fail
                        go_quiet (fail)
                        go_wp2
                        go_roundw
                        case rel => exact ⟨t + 1, by go_num, by omega, _, rfl⟩
                        case measure => simp [intOf]; omega
                      · have gz : decide (0 ≤ et) = false := decide_eq_false hz
                        clear hsf
                        go_upto_region 45 with fail
                        go_quiet (fail)
                        go_wp2
                        go_roundw
                        case rel => exact ⟨t + 1, by go_num, by omega, _, rfl⟩
                        case measure => simp [intOf]; omega
                    · obtain rfl : t = 8 := by omega
                      go_wp2
                      go_roundw
                      case rel => exact ⟨q + 1, by go_num, by omega, _, rfl⟩
                      case measure => simp [intOf]; omega
                · obtain rfl : q = n := by omega
                  have hM8 := HM6.out.new ((Fr.refl (fun _ => False) w6).drewN r)
                  have HI8 := Lib.hid (HI.out.free q)
                  have hl8 : (L.drop q).length ≤ allX (s.take (j + 1)) := by rw [List.length_drop, hax]; omega
                  have Hl8 := Lib.hid hl8
                  have HM8 := Lib.hid hM8
                  have qn0 : (0 : Int) ≤ (q : Int) := by omega
                  have qn1 : (q : Int) ≤ (L.length : Int) := by omega
                  obtain ⟨wn, on⟩ := hM8.names.sliced hn
                  obtain ⟨wt, ot⟩ := hM8.told.sliced hn
                  have hcut := fun r' => (hM8.new ((Fr.refl (fun _ => False) _).drewN r')).cut (wt.fr ((Fr.refl (fun _ => False) _).drewN r') (fun _ _ => id)) (wn.fr ((Fr.refl (fun _ => False) _).drewN r') (fun _ _ => id)) ot on
                  have Hcut := Lib.hid hcut
                  clear hM8 hl8 HM6 HfR HHeld Hfirst HI hol hax wn on wt ot hcut HM8
                  generalize w6.drewN r = w8 at Hcut ⊢
                  go_upto_region 47 with fail
                  go_quiet (fail)
                  go_wp2
                  go_roundw
                  case rel => exact ⟨j + 1, now, ov', _, _, L.drop q, by go_num, by omega, by omega, Hcut.out _, by have := HI8.out; rwa [Int.natCast_add], Hl8.out, by omega⟩
                  case measure => simp [intOf]; omega
            · have hl8 : L.length ≤ allX (s.take (j + 1)) := by omega
              have HP5 := Lib.hid hP5
              have HI8 := Lib.hid hI.next
              clear hx5 hax hxo kS kE keb ka ik0 ik1 hebf hk8
              clear hP5 hI
              go_wp2
              go_roundw
              case rel => exact ⟨j + 1, now, ov, _, _, L, by go_num, by omega, by omega, HP5.out, by have := HI8.out; rwa [Int.natCast_add], hl8, by omega⟩
              case measure => simp [intOf]; omega
    · have hLn : L.length ≤ 1048576 := by
        have : allX s = allX (s.take j) + allX (s.drop j) := by rw [← allX_app, List.take_append_drop]
        omega
      have hlate : ∀ p ∈ L, p.at_ < now := fun p hp => (hI.el p hp).2
      have hS8 := hI.s8
      have HP := Lib.hid hP
      have Hlate := Lib.hid hlate
      have HS8 := Lib.hid hS8
      clear hP hI hlate hol hr hx hS8
      go_upto_region 8 with fail
      go_cut [38] (fun t W => t = .bool false ∧ W = wr)
      case first =>
        by_cases hjm : j < m
        · have hk3 : decide ((j : Int) < (m : Int)) = true := decide_eq_true (by omega)
          have ha3 : decide ((j : Int) < 400) = false := decide_eq_false (by omega)
          have ha4 : ¬ j < 400 := by omega
          go_wp2
          go_meet
          case rel => exact ⟨rfl, rfl⟩
        · have hk3 : decide ((j : Int) < (m : Int)) = false := decide_eq_false (by omega)
          go_wp2
          go_meet
          case rel => exact ⟨rfl, rfl⟩
      case rest =>
        obtain ⟨rfl, hwc⟩ := hcut
        subst hwc
        go_wp2_with fail
        go_loopw [18] (fun i W => ∃ (q : Nat) (Z : List Int), i = .int .i64 q ∧ q ≤ 8 ∧ Z.length = 8 ∧ (∀ k, k < q → Z.getD k 0 = 0) ∧ PS w W b eb now sv ov u8 u9 Z E L) (fun i _ => 8 - (intOf i).toNat)
        case atStart => exact ⟨0, S, rfl, Nat.zero_le _, HS8.out, fun k hk => absurd hk (Nat.not_lt_zero _), HP.out⟩
        case round =>
          clear HP
          obtain ⟨q, Z, rfl, hq, hZ, hzz, hP⟩ := hrel
          have iq0 : (0 : Int) ≤ (q : Int) := by omega
          by_cases hq8 : q < 8
          · have hle := leaveS_n hP.bk q _ _ rfl (leave_eq q (by omega))
            have HP := Lib.hid hP
            have Hle := Lib.hid hle
            have hzz' : ∀ k, k < q + 1 → (Z.set q 0).getD k 0 = 0 := fun k hk => by
              rw [getD_set _ _ _ _ (by omega)]
              split
              · rfl
              · exact hzz k (by omega)
            have Hzz := Lib.hid hzz'
            have hZ' : (Z.set q 0).length = 8 := by rw [List.length_set, hZ]
            clear hle hP hzz hzz'
            go_wp2_with fail
            refine Hle.out.mono ?_
            rintro e w7 ⟨rfl, hB7, hf7⟩
            have hP7 := Lib.hid (HP.out.slots' hB7 hf7)
            clear HP Hle hB7 hf7
            go_wp2
            go_roundw
            case rel => exact ⟨q + 1, _, by go_num, by omega, hZ', Hzz.out, hP7.out⟩
            case measure => simp [intOf]; omega
          · obtain rfl : q = 8 := by omega
            have hF := firstOf_zero now Z (fun k hk => hzz k (by omega))
            have e1 : ((lOld L).filter fun p => decide (p.2 < now)) = lOld L := by
              rw [lOld_filter, List.filter_eq_self.2 (fun p hp => by simpa using Hlate.out p hp)]
            have e2 : ((lOld L).filter fun p => !decide (p.2 < now)) = [] := by
              rw [lOld_filter', List.filter_eq_nil_iff.2 (fun p hp => by simpa using Hlate.out p hp)]
              rfl
            have hFr := freeS_n hP.bk (lOld_str L) (by rw [lOld_len]; omega) now hF (lOld L) [] e1 e2
            rw [lOld_len, lOld_fst] at hFr
            have HFr := Lib.hid hFr
            have HP := Lib.hid hP
            have HF := Lib.hid hF
            clear hFr hP hF e1 e2 hzz Hlate
            go_wp2_with fail
            refine HFr.out.mono ?_
            rintro e w6 ⟨fA, fc, rfl, ⟨ov', hB6⟩, hF6, hf6, hN6⟩
            have hM6 := HP.out.book hB6 (hf6.mono (fun _ _ h => .inl h))
            obtain ⟨fA', fc', hv, hfR⟩ := hF6.rd
            injection hv with hv1 hv2 hv3
            subst hv1
            clear hv2 hv3
            obtain ⟨NA, NC, hnv, hnc1, hnc2⟩ := hM6.names.slice
            rw [lNam_len] at hnv hnc1
            subst hnv
            have hnR := hM6.names.rd
            rw [lNam_map] at hfR hnR
            have hsm := same_any (xs := L.map T3.x) (n := L.length) (ca := fc) (cb := NC) (by simp) hfR hnR (by omega)
            have Hsm := Lib.hid hsm
            have HM6 := Lib.hid hM6
            clear hfR hnR hsm hM6 hB6 hF6 hf6 hN6 HFr HP
            go_wp2_with fail
            refine Hsm.out.mono ?_
            rintro e w7 ⟨rfl, q7, rfl⟩
            have hB7 := HM6.out.bk.new ((Fr.refl (fun _ => False) w6).drewN q7)
            generalize w6.drewN q7 = w7 at hB7 ⊢
            clear Hsm HM6
            go_wp2_with fail
            refine (heldS_any hB7.book).mono ?_
            rintro e w' ⟨rfl, rfl⟩
            go_wp2_with fail
            refine (freeS_n hB7 (by simp) (by simp) now HF.out [] [] rfl rfl).mono ?_
            rintro e w8 ⟨fA2, fc2, rfl, ⟨ov2, hB8⟩, _, _, _⟩
            have hfin := hB8.fr
            clear hB8 hB7
            go_wp2
            go_ret
            exact ⟨rfl, hfin⟩
end Go.Proofs.Ytolkoagjompjjaa
