/- The law EpochPlays, walked. Conditions: those of the lemmas. -/
import Derived.Test.YtolkoagjompjjaaPlaysPre
namespace Go.Proofs.Ytolkoagjompjjaa
open Go.RowKit
attribute [local go_sem ↓] Go.wp_at_zero Go.wp_at_succ
set_option maxHeartbeats 4000000 in
set_option maxRecDepth 100000 in
theorem plays_ok (n : Nat) (h1 : 1 ≤ n) (h16 : n ≤ 16) (w : World) (A : Option Addr) (m cp : Nat) (s : List Op4) (hs : s.length = m) (hr : Rd w A (ops4 s).flatten) (hx : ∀ o ∈ s, Rd w o.ta (o.xs.map Value.string)) (hsum : allX s ≤ 1048576) (hm : m ≤ 9223372036854775807) :
    Calls Try.prog 3 #[.int .i64 (n : Int), .slice A m cp] w fun e w' => e = .returned (.bool true) ∧ Fr (fun _ => False) w w' := by
  have hnew := newS_ok n h1 h16 w
  go_enter Try.func3, Try.ntmps3
  go_wp2_with fail
  refine hnew.mono ?_
  clear hnew
  rintro e w1 ⟨b, sv, rfl, hB, hf, hb, hsv⟩
  go_wp2_with fail
  refine (rnew_ok n h1 h16 _).mono ?_
  rintro e w2 ⟨sv2, rfl, hR, hf2, hs2⟩
  obtain ⟨A2, c2, hv⟩ := hR.slice
  rw [i64s_len, List.length_replicate] at hv
  subst hv
  have hl2 : ∀ q, sv.ownBlock = some q → (Value.slice A2 n c2).ownBlock ≠ some q := fun q hq hh => by
    have h3 := hs2 q hh
    have h4 := hB.slot.lt hq
    omega
  have hP : PI w (w2.alloc (.cells #[.int .i64 1, .slice A2 n c2, .slice none 0 0, .slice none 0 0] 30)) b w2.heap.size 1 sv (.slice A2 n c2) (.slice none 0 0) (.slice none 0 0) (.slice none 0 0) (List.replicate n 0) [] := by
    have f3 : Fr (fun _ => False) w2 (w2.alloc (.cells #[.int .i64 1, .slice A2 n c2, .slice none 0 0, .slice none 0 0] 30)) := (Fr.refl _ w2).alloc _
    have hbk : BkNS w w1 b 1 sv (List.replicate n 0) (.slice none 0 0) [] := ⟨hB, hf, hb, hsv, (fun q hq => by simp [Value.ownBlock] at hq), by simpa using h16⟩
    refine ⟨(hbk.new hf2).new f3, ⟨Blk.at_new _ _ _ _ _ rfl rfl, hR.fr f3 (fun _ _ => id), Row.nil _ _, Row.nil _ _, (fun q hq hh => by simp [Value.ownBlock] at hh), rfl⟩, ?_, ?_, ?_, ?_, ?_, ?_, by decide⟩
    · have := hf.size; have := hf2.size; omega
    · intro q hq; have := hs2 q hq; have := hf.size; omega
    · intro q hq; simp [Value.ownBlock] at hq
    · intro q hq; simp [Value.ownBlock] at hq
    · exact fun q hq => ⟨hl2 q hq, by simp [Value.ownBlock]⟩
    · intro s hs; rw [List.mem_replicate] at hs; omega
  clear hB hf hb hsv hf2 hR hs2 hl2
  go_wp2_with fail
  generalize w2.alloc (.cells #[.int .i64 1, .slice A2 n c2, .slice none 0 0, .slice none 0 0] 30) = w3 at hP ⊢
  generalize w2.heap.size = rb at hP ⊢
  refine (awake_any _).mono ?_
  rintro e w4 ⟨rfl, hf4⟩
  have hP4 := hP.new hf4
  clear hP hf4
  go_wp2_with fail
  go_loopw [9] (fun i W => ∃ (j : Nat) (now : Int) (ov ov2 av : Value) (slots : List Int) (old : List (ByteArray × Int)), i = .int .i64 j ∧ j ≤ m ∧ j ≤ 400 ∧ PI w W b rb now sv (.slice A2 n c2) ov ov2 av slots old ∧ slots.length = n ∧ old.length ≤ allX (s.take j) ∧ now ≤ j + 1) (fun i _ => m - (intOf i).toNat)
  case atStart => exact ⟨0, 1, _, _, _, _, _, rfl, Nat.zero_le _, by omega, hP4, by simp, Nat.zero_le _, by decide⟩
  case round =>
    clear hP4
    obtain ⟨j, now, ov, ov2, av, slots, old, rfl, hj, hj4, hP, hsl, hol, hnow⟩ := hrel
    by_cases hgo : j < m ∧ j < 400
    · obtain ⟨hjm, hj400⟩ := hgo
      have ho := List.getElem?_eq_getElem (show j < s.length by omega)
      obtain ⟨ad, rfl, c0, c1, c2', c3⟩ := ops4_cells (hr.fr hP.bk.fr (fun _ _ => id)) ho
      have hxo := hx _ (List.getElem_mem (show j < s.length by omega))
      have hax : allX (s.take (j + 1)) = allX (s.take j) + (s[j]'(by omega)).xs.length := by
        rw [List.take_add_one, ho, allX_app]; simp [allX]
      have hax2 : allX (s.take (j + 1)) ≤ 1048576 := by
        have : allX s = allX (s.take (j + 1)) + allX (s.drop (j + 1)) := by
          rw [← allX_app, List.take_append_drop]
        omega
      generalize s[j]'(by omega) = o at c0 c1 c2' c3 hxo hax
      obtain ⟨kd, sl, at_, ta, tc, xs⟩ := o
      simp only at c0 c1 c2' c3 hxo hax
      have g1 : (j : Int) < (m : Int) := by omega
      have g2 : (j : Int) < 400 := by omega
      have i0 : (0 : Int) ≤ (j : Int) := by omega
      have hb5 : Blk (wr.alloc (.cells #[.int .i64 kd, .int .i64 sl, .int .i64 at_, .slice ta xs.length tc] 35)) wr.heap.size [.int .i64 kd, .int .i64 sl, .int .i64 at_, .slice ta xs.length tc] 35 := Blk.at_new _ _ _ _ _ rfl rfl
      have hP5 := hP.new ((Fr.refl (fun _ => False) wr).alloc (.cells #[.int .i64 kd, .int .i64 sl, .int .i64 at_, .slice ta xs.length tc] 35))
      clear hP
      have hx5 := hxo.fr hP5.bk.fr (fun _ _ => id)
      go_upto_region 11 with fail
      generalize wr.alloc (.cells #[.int .i64 kd, .int .i64 sl, .int .i64 at_, .slice ta xs.length tc] 35) = w5 at hb5 hP5 hx5 ⊢
      generalize wr.heap.size = ob at hb5 ⊢
      clear c0 c1 c2' c3 ho
      have p0 := hb5.cell 0 rfl
      have few := hP5.bk.few
      have hpos := hP5.pos
      by_cases k1 : kd = 1
      · subst k1
        go_upto_region 14 with fail
        clear p0
        have d5 : Fr (fun _ => False) w5 w5.drew := (Fr.refl _ w5).drew
        have hP6 := hP5.new d5
        have hb6 := hb5.drew
        have hpE := enter_pos (now := now) hpos sl at_
        have hlE := set_len (slots := slots) (enterE now slots sl at_ = 0) sl.toNat at_
        have hEn := enterS_n hP6.bk sl at_ _ _ rfl rfl
        have hRn : ∀ W1, Fr (fun q => sv.ownBlock = some q) w5.drew W1 → _ := fun W1 hf => renter_any (hP6.ref_slots hf) sl at_ few hpos
        generalize (if enterE now slots sl at_ = 0 then slots.set sl.toNat at_ else slots) = slots' at hpE hlE hEn hRn
        generalize enterE now slots sl at_ = E at hEn hRn
        have HEn := Lib.hid hEn
        have HRn := Lib.hid hRn
        have HP6 := Lib.hid hP6
        have HpE := Lib.hid hpE
        have Hpos := Lib.hid hpos
        clear hEn hRn hP6 hpE hpos hP5 hx5
        go_region_held3 (fun w' => w'.cell? ⟨ob, 1, none⟩ = some (.int .i64 sl) ∧ w'.cell? ⟨ob, 2, none⟩ = some (.int .i64 at_))
          (first | exact ⟨hb6.cell 1 rfl, hb6.cell 2 rfl⟩ | exact ⟨hb7.cell 1 rfl, hb7.cell 2 rfl⟩ | exact ⟨hb8.cell 1 rfl, hb8.cell 2 rfl⟩)
          (first
            | (go_at_call 10; refine HEn.out.mono ?_; rintro e w6 ⟨rfl, hB6, hf6⟩; have hb7 := hf6.blk hb6 (HP6.out.bk.book.slot.ne hb6 (by decide)))
            | (go_at_call 11; refine (HRn.out _ hf6).mono ?_; rintro e w7 ⟨rfl, hR7, hf7, _⟩; have hb8 := hf7.blk hb7 ((HP6.out.ref_slots hf6).slot.ne hb7 (by decide))))
        have hP7 := HP6.out.slots' hB6 hR7 hf7 HpE.out hf6
        clear hB6 hR7 hf7 hf6 HP6
        go_upto_region 23 with fail
        obtain ⟨oA, oc, hov⟩ := hP7.rf.oldr.slice
        rw [oldS_len] at hov
        subst hov
        have r0 := hP7.rf.blk.cell 0 rfl
        have r2 := hP7.rf.blk.cell 2 rfl
        have few16 := hP7.bk.few
        have q1 := fun k => nowS_any ((hP7.new ((Fr.refl (fun _ => False) w7).drewN k)).bk.book)
        have q2 := fun k => heldS_any ((hP7.new ((Fr.refl (fun _ => False) w7).drewN k)).bk.book)
        have q3 := fun k => readersS_any ((hP7.new ((Fr.refl (fun _ => False) w7).drewN k)).bk.book) few16
        have q4 := fun k => rreaders_any ((hP7.new ((Fr.refl (fun _ => False) w7).drewN k)).rf) few16 hP7.pos
        rw [List.length_map] at q2
        have HP7 := Lib.hid hP7
        have Q1 := Lib.hid q1
        have Q2 := Lib.hid q2
        have Q3 := Lib.hid q3
        have Q4 := Lib.hid q4
        clear q1 q2 q3 q4 hP7
        have HL := Lib.hid (show old.length ≤ allX (s.take (j + 1)) from by omega)
        have HS := Lib.hid (show slots'.length = n from by omega)
        generalize readers slots' = R at Q3 Q4
        generalize old.length = L at Q2 r2 ⊢
        have n0 : (E != E) = false := by simp
        have n1 : (now != now) = false := by simp
        have n2 : ((L : Int) != (L : Int)) = false := by simp
        have n3 : ((R : Int) != (R : Int)) = false := by simp
        go_quiet (first | (go_at_call 19; exact quiet_left (Q1.out _)) | (go_at_call 20; exact quiet_left (Q2.out _)) | (go_at_call 21; exact quiet_left (Q3.out _)) | (go_at_call 22; exact quiet_left (Q4.out _)))
        go_wp2
        go_roundw
        case rel => exact ⟨j + 1, _, _, _, _, _, _, by go_num, by omega, by omega, HP7.out.new ((Fr.refl _ _).drewN _), HS.out, HL.out, by omega⟩
        case measure => simp [intOf]; omega
      · by_cases k2 : kd = 2
        · subst k2
          go_upto_region 16 with fail
          clear p0
          have d5 : Fr (fun _ => False) w5 w5.drew := (Fr.refl _ w5).drew
          have hP6 := hP5.new d5
          have hb6 := hb5.drew
          have hpE := leave_pos hpos sl
          have hlE := set_len (slots := slots) (leaveE slots sl = 0) sl.toNat 0
          have hEn := leaveS_n hP6.bk sl _ _ rfl rfl
          have hRn : ∀ W1, Fr (fun q => sv.ownBlock = some q) w5.drew W1 → _ := fun W1 hf => rleave_any (hP6.ref_slots hf) sl few hpos
          generalize (if leaveE slots sl = 0 then slots.set sl.toNat 0 else slots) = slots' at hpE hlE hEn hRn
          generalize leaveE slots sl = E at hEn hRn
          have HEn := Lib.hid hEn
          have HRn := Lib.hid hRn
          have HP6 := Lib.hid hP6
          have HpE := Lib.hid hpE
          have Hpos := Lib.hid hpos
          clear hEn hRn hP6 hpE hpos hP5 hx5
          go_region_held3 (fun w' => w'.cell? ⟨ob, 1, none⟩ = some (.int .i64 sl))
            (first | exact hb6.cell 1 rfl | exact hb7.cell 1 rfl | exact hb8.cell 1 rfl)
            (first
              | (go_at_call 12; refine HEn.out.mono ?_; rintro e w6 ⟨rfl, hB6, hf6⟩; have hb7 := hf6.blk hb6 (HP6.out.bk.book.slot.ne hb6 (by decide)))
              | (go_at_call 13; refine (HRn.out _ hf6).mono ?_; rintro e w7 ⟨rfl, hR7, hf7, _⟩; have hb8 := hf7.blk hb7 ((HP6.out.ref_slots hf6).slot.ne hb7 (by decide))))
          have hP7 := HP6.out.slots' hB6 hR7 hf7 HpE.out hf6
          clear hB6 hR7 hf7 hf6 HP6
          go_upto_region 23 with fail
          obtain ⟨oA, oc, hov⟩ := hP7.rf.oldr.slice
          rw [oldS_len] at hov
          subst hov
          have r0 := hP7.rf.blk.cell 0 rfl
          have r2 := hP7.rf.blk.cell 2 rfl
          have few16 := hP7.bk.few
          have q1 := fun k => nowS_any ((hP7.new ((Fr.refl (fun _ => False) w7).drewN k)).bk.book)
          have q2 := fun k => heldS_any ((hP7.new ((Fr.refl (fun _ => False) w7).drewN k)).bk.book)
          have q3 := fun k => readersS_any ((hP7.new ((Fr.refl (fun _ => False) w7).drewN k)).bk.book) few16
          have q4 := fun k => rreaders_any ((hP7.new ((Fr.refl (fun _ => False) w7).drewN k)).rf) few16 hP7.pos
          rw [List.length_map] at q2
          have HP7 := Lib.hid hP7
          have Q1 := Lib.hid q1
          have Q2 := Lib.hid q2
          have Q3 := Lib.hid q3
          have Q4 := Lib.hid q4
          clear q1 q2 q3 q4 hP7
          have HL := Lib.hid (show old.length ≤ allX (s.take (j + 1)) from by omega)
          have HS := Lib.hid (show slots'.length = n from by omega)
          generalize readers slots' = R at Q3 Q4
          generalize old.length = L at Q2 r2 ⊢
          have n0 : (E != E) = false := by simp
          have n1 : (now != now) = false := by simp
          have n2 : ((L : Int) != (L : Int)) = false := by simp
          have n3 : ((R : Int) != (R : Int)) = false := by simp
          go_quiet (first | (go_at_call 19; exact quiet_left (Q1.out _)) | (go_at_call 20; exact quiet_left (Q2.out _)) | (go_at_call 21; exact quiet_left (Q3.out _)) | (go_at_call 22; exact quiet_left (Q4.out _)))
          go_wp2
          go_roundw
          case rel => exact ⟨j + 1, _, _, _, _, _, _, by go_num, by omega, by omega, HP7.out.new ((Fr.refl _ _).drewN _), HS.out, HL.out, by omega⟩
          case measure => simp [intOf]; omega
        · by_cases k3 : kd = 3
          · subst k3
            have p3 := hb5.cell 3 rfl
            have hobl := hb5.lt
            have hxl : (xs.map Value.string).length * 16 ≤ 140737488355328 := by rw [List.length_map]; omega
            have hx1 : ∀ u ∈ xs.map Value.string, u.oneCell' = true := fun u hu => by obtain ⟨y, _, rfl⟩ := List.mem_map.1 hu; rfl
            have HX := Lib.hid (And.intro hx5 (And.intro hx1 hxl))
            have HP5 := Lib.hid hP5
            have Hpos := Lib.hid hpos
            clear hpos hP5 hx5 hx1 hxl
            go_wp2_with (at_builtin; go_must (refine appC (W := w5) rfl _ _ 28 9 (.string ⟨#[]⟩) 16 rfl Try.underlying28 infoStr rfl (by decide) rfl ta (xs.map Value.string) xs.length tc (by simp) rfl HX.out.1 HX.out.2.1 HX.out.2.2 ?_); intro A1 c1 w6 hR6 hf6 hN6)
            have hP6 := HP5.out.new hf6
            have hbl6 := HP5.out.bk.book.blk.lt
            have hrd6 : Rd w6 A1 (xs.map Value.string) := by
              obtain ⟨A', c', hv, hr⟩ := hR6.rd
              injection hv with hv1
              subst hv1
              exact hr
            have hA6 : 0 < xs.length → ∀ ad, A1 = some ad → ad.block ≠ b ∧ ov.ownBlock ≠ some ad.block := by
              intro h0 ad' e
              have hge : w5.heap.size ≤ ad'.block := by
                obtain ⟨g, hg, _⟩ := hR6.head h0
                rw [hg] at e
                injection e with e
                subst e
                exact hN6 g (by rw [hg]; rfl)
              exact ⟨by omega, fun hh => by have := HP5.out.bk.book.wait.lt hh; omega⟩
            have hol2 := HP5.out.time
            have hRe := retireS_n hP6.bk A1 xs.length c1 xs (by simp) hrd6 hA6 (by rw [List.length_map]; omega) ⟨by omega, by omega⟩ (now + 1) rfl (((old ++ xs.map fun x => (x, now)).map fun p => (Value.string p.1, p.2))) (by simp)
            have hb6 := hf6.blk hb5 id
            have HRe := Lib.hid hRe
            have HP6 := Lib.hid hP6
            clear hRe hP6 hR6 hN6 hrd6 hA6 HP5
            refine HRe.out.mono ?_
            rintro e w7 ⟨rfl, ⟨ov', hB7⟩, hf7⟩
            have hr7 := HP6.out.ref_book hf7
            have hb7 := hf7.blk hb6 (fun hh => by
              rcases hh with hh | hh
              · exact (hb6.ne HP6.out.bk.book.blk (by decide)) hh
              · exact (HP6.out.bk.book.wait.ne hb6 (by decide)) hh)
            have p3' := hb7.cell 3 rfl
            have hx7 := hxo.fr hB7.fr (fun _ _ => id)
            have hA7 : 0 < xs.length → ∀ ad, ta = some ad → ad.block ≠ rb ∧ ov2.ownBlock ≠ some ad.block ∧ av.ownBlock ≠ some ad.block := by
              intro h0 ad' e
              have hlt : ad'.block < w.heap.size := hxo.lt (j := 0) (v := .string (xs[0]'h0)) (by rw [List.getElem?_map, List.getElem?_eq_getElem h0]; rfl) e
              have h1 := HP6.out.rbn
              exact ⟨by omega, fun hh => by have := HP6.out.o2n _ hh; omega, fun hh => by have := HP6.out.an _ hh; omega⟩
            have hRr := rretire_any hr7 ta xs.length tc xs rfl hx7 hA7 (by rw [oldS_len]; omega) ⟨by omega, by omega⟩
            have HRr := Lib.hid hRr
            have HB7 := Lib.hid hB7
            have Hr7 := Lib.hid hr7
            clear hRr hB7 hr7 hx7 hA7 HRe p3
            go_wp2_with fail
            refine HRr.out.mono ?_
            rintro e w8 ⟨rfl, ov2', av', hR8, hf8, ho8, ha8⟩
            have hP7 := HP6.out.retire (xs := xs) HB7.out hf7 (by
              have e1 : oldS (old ++ xs.map fun x => (x, now)) = oldS old ++ xs.map Value.string := by simp [oldS]
              have e2 : oldA (old ++ xs.map fun x => (x, now)) = oldA old ++ List.replicate xs.length now := oldA_times old xs now
              rw [e1, e2]; exact hR8) hf8 ho8 ha8 Hr7.out
            clear HB7 hR8 hf8 hf7 HP6 Hr7 HRr
            have hol8 : (old ++ xs.map fun x => (x, now)).length ≤ allX (s.take (j + 1)) := by rw [List.length_append, List.length_map]; omega
            generalize old ++ xs.map (fun x => (x, now)) = old' at hP7 hol8
            go_upto_region 23 with fail
            obtain ⟨oA, oc, hov⟩ := hP7.rf.oldr.slice
            rw [oldS_len] at hov
            subst hov
            have r0 := hP7.rf.blk.cell 0 rfl
            have r2 := hP7.rf.blk.cell 2 rfl
            have few16 := hP7.bk.few
            have q1 := fun k => nowS_any ((hP7.new ((Fr.refl (fun _ => False) w8).drewN k)).bk.book)
            have q2 := fun k => heldS_any ((hP7.new ((Fr.refl (fun _ => False) w8).drewN k)).bk.book)
            have q3 := fun k => readersS_any ((hP7.new ((Fr.refl (fun _ => False) w8).drewN k)).bk.book) few16
            have q4 := fun k => rreaders_any ((hP7.new ((Fr.refl (fun _ => False) w8).drewN k)).rf) few16 hP7.pos
            rw [List.length_map] at q2
            have HP7 := Lib.hid hP7
            have Q1 := Lib.hid q1
            have Q2 := Lib.hid q2
            have Q3 := Lib.hid q3
            have Q4 := Lib.hid q4
            clear q1 q2 q3 q4 hP7
            have HL := Lib.hid (show old'.length ≤ allX (s.take (j + 1)) from hol8)
            have HS := Lib.hid (show slots.length = n from by omega)
            generalize readers slots = R at Q3 Q4
            generalize old'.length = L at Q2 r2 ⊢
            have n0 : ((0 : Int) != (0 : Int)) = false := by simp
            have n1 : ((now + 1) != (now + 1)) = false := by simp
            have n2 : ((L : Int) != (L : Int)) = false := by simp
            have n3 : ((R : Int) != (R : Int)) = false := by simp
            go_quiet (first | (go_at_call 19; exact quiet_left (Q1.out _)) | (go_at_call 20; exact quiet_left (Q2.out _)) | (go_at_call 21; exact quiet_left (Q3.out _)) | (go_at_call 22; exact quiet_left (Q4.out _)))
            go_wp2
            go_roundw
            case rel => exact ⟨j + 1, _, _, _, _, _, _, by go_num, by omega, by omega, HP7.out.new ((Fr.refl _ _).drewN _), HS.out, HL.out, by omega⟩
            case measure => simp [intOf]; omega
          · by_cases k4 : kd = 4
            · subst k4
              have hfirst : ∀ p : ByteArray × Int, decide (p.2 < firstOf now slots) = !seenB now slots p.2 := fun p => seen_first now p.2 slots hpos
              have hfl1 : ((old.map fun p => (Value.string p.1, p.2)).filter fun p => decide (p.2 < firstOf now slots)) = (old.filter fun p => !seenB now slots p.2).map fun p => (Value.string p.1, p.2) := by
                rw [List.filter_map]
                congr 1
                apply List.filter_congr
                intro p _
                exact hfirst p
              have hfl2 : ((old.map fun p => (Value.string p.1, p.2)).filter fun p => !decide (p.2 < firstOf now slots)) = (old.filter fun p => seenB now slots p.2).map fun p => (Value.string p.1, p.2) := by
                rw [List.filter_map]
                congr 1
                apply List.filter_congr
                intro p _
                show (!decide (p.2 < firstOf now slots)) = _
                rw [hfirst p, Bool.not_not]
              have hFr := freeS_n hP5.bk (fun p hp => by obtain ⟨q, _, rfl⟩ := List.mem_map.1 hp; exact ⟨q.1, rfl⟩) (by rw [List.length_map]; omega) _ rfl _ _ hfl1 hfl2
              have hlf := List.length_filter_le (fun p : ByteArray × Int => seenB now slots p.2) old
              have hlf2 := List.length_filter_le (fun p : ByteArray × Int => !seenB now slots p.2) old
              have hRf : ∀ W1, Fr (fun q => q = b) w5 W1 → _ := fun W1 hf => rfree_any (hP5.ref_book (hf.mono (fun _ _ h => .inl h))) few (by omega)
              rw [List.length_map] at hFr
              have e3 : ((old.filter fun p => !seenB now slots p.2).map fun p => (Value.string p.1, p.2)).map Prod.fst = ((old.filter fun p => !seenB now slots p.2).map Prod.fst).map Value.string := by simp
              have e4 : oldS (old.filter fun p => !seenB now slots p.2) = ((old.filter fun p => !seenB now slots p.2).map Prod.fst).map Value.string := by simp [oldS]
              rw [e3] at hFr
              rw [e4] at hRf
              have hl5 : ((old.filter fun p => !seenB now slots p.2).map Prod.fst).length = (old.filter fun p => !seenB now slots p.2).length := by simp
              generalize (old.filter fun p => seenB now slots p.2) = left at hFr hRf hlf
              generalize (old.filter fun p => !seenB now slots p.2).map Prod.fst = fs at hFr hRf hl5
              generalize (old.filter fun p => !seenB now slots p.2).length = fl at hFr hl5 hlf2
              have HP5 := Lib.hid hP5
              have HFr := Lib.hid hFr
              have HRf := Lib.hid hRf
              have Hfl := Lib.hid (And.intro hl5 (And.intro hlf hlf2))
              have Hpos := Lib.hid hpos
              clear hFr hRf hP5 hfirst hfl1 hfl2 e3 e4 hl5 hlf hlf2 hpos hx5
              go_wp2_with fail
              refine HFr.out.mono ?_
              rintro e w6 ⟨fA, fc, rfl, ⟨ov', hB6⟩, hF6, hf6, hN6⟩
              go_wp2_with fail
              refine (HRf.out _ hf6).mono ?_
              rintro e w7 ⟨fv, lv, av2, rfl, hR7, hF7, hf7, hl7, ha7, hv7⟩
              have hr6 := HP5.out.ref_book (hf6.mono (fun _ _ h => .inl h))
              have hP7 := HP5.out.free hB6 hr6 hR7 hf7 hl7 ha7
              have hF6' := hF6.fr hf7 (fun q hq hh => by subst hh; exact (hF6.ne hr6.blk (by decide)) hq)
              obtain ⟨fA2, fc2, hv⟩ := hF7.slice
              rw [List.length_map, Hfl.out.1] at hv
              subst hv
              have hrd1 : Rd w7 fA (fs.map Value.string) := by
                obtain ⟨A', c', hv, hr⟩ := hF6'.rd
                injection hv with hv1
                subst hv1
                exact hr
              have hrd2 : Rd w7 fA2 (fs.map Value.string) := by
                obtain ⟨A', c', hv, hr⟩ := hF7.rd
                injection hv with hv1
                subst hv1
                exact hr
              have hSm := same_any (ca := fc) (cb := fc2) Hfl.out.1 hrd1 hrd2 (by have := Hfl.out.2.2; omega)
              have HSm := Lib.hid hSm
              have HP7 := Lib.hid hP7
              clear hSm hrd1 hrd2 hF6 hF6' hF7 hR7 hB6 hr6 hf7 hf6 HFr HRf hP7
              go_wp2_with fail
              refine HSm.out.mono ?_
              rintro e w8 ⟨rfl, qn, rfl⟩
              have hP7 := HP7.out.new ((Fr.refl _ w7).drewN qn)
              have hol8 : left.length ≤ allX (s.take (j + 1)) := by have := Hfl.out.2.1; omega
              generalize w7.drewN qn = w8 at hP7 ⊢
              clear HP7 HSm
              go_upto_region 23 with fail
              obtain ⟨oA, oc, hov⟩ := hP7.rf.oldr.slice
              rw [oldS_len] at hov
              subst hov
              have r0 := hP7.rf.blk.cell 0 rfl
              have r2 := hP7.rf.blk.cell 2 rfl
              have few16 := hP7.bk.few
              have q1 := fun k => nowS_any ((hP7.new ((Fr.refl (fun _ => False) w8).drewN k)).bk.book)
              have q2 := fun k => heldS_any ((hP7.new ((Fr.refl (fun _ => False) w8).drewN k)).bk.book)
              have q3 := fun k => readersS_any ((hP7.new ((Fr.refl (fun _ => False) w8).drewN k)).bk.book) few16
              have q4 := fun k => rreaders_any ((hP7.new ((Fr.refl (fun _ => False) w8).drewN k)).rf) few16 hP7.pos
              rw [List.length_map] at q2
              have HP7 := Lib.hid hP7
              have Q1 := Lib.hid q1
              have Q2 := Lib.hid q2
              have Q3 := Lib.hid q3
              have Q4 := Lib.hid q4
              clear q1 q2 q3 q4 hP7
              have HL := Lib.hid (show left.length ≤ allX (s.take (j + 1)) from hol8)
              have HS := Lib.hid (show slots.length = n from by omega)
              generalize readers slots = R at Q3 Q4
              generalize left.length = L at Q2 r2 ⊢
              have n0 : ((0 : Int) != (0 : Int)) = false := by simp
              have n1 : (now != now) = false := by simp
              have n2 : ((L : Int) != (L : Int)) = false := by simp
              have n3 : ((R : Int) != (R : Int)) = false := by simp
              go_quiet (first | (go_at_call 19; exact quiet_left (Q1.out _)) | (go_at_call 20; exact quiet_left (Q2.out _)) | (go_at_call 21; exact quiet_left (Q3.out _)) | (go_at_call 22; exact quiet_left (Q4.out _)))
              go_wp2
              go_roundw
              case rel => exact ⟨j + 1, _, _, _, _, _, _, by go_num, by omega, by omega, HP7.out.new ((Fr.refl _ _).drewN _), HS.out, HL.out, by omega⟩
              case measure => simp [intOf]; omega
            · have b1 : (kd == 1) = false := by simpa using k1
              have b2 : (kd == 2) = false := by simpa using k2
              have b3 : (kd == 3) = false := by simpa using k3
              have b4 : (kd == 4) = false := by simpa using k4
              have hP7 := hP5
              have Hk := Lib.hid (And.intro k1 (And.intro k2 (And.intro k3 k4)))
              clear hP5 k1 k2 k3 k4 hpos hx5
              go_upto_region 23 with fail
              obtain ⟨oA, oc, hov⟩ := hP7.rf.oldr.slice
              rw [oldS_len] at hov
              subst hov
              have r0 := hP7.rf.blk.cell 0 rfl
              have r2 := hP7.rf.blk.cell 2 rfl
              have few16 := hP7.bk.few
              have q1 := fun k => nowS_any ((hP7.new ((Fr.refl (fun _ => False) w5).drewN k)).bk.book)
              have q2 := fun k => heldS_any ((hP7.new ((Fr.refl (fun _ => False) w5).drewN k)).bk.book)
              have q3 := fun k => readersS_any ((hP7.new ((Fr.refl (fun _ => False) w5).drewN k)).bk.book) few16
              have q4 := fun k => rreaders_any ((hP7.new ((Fr.refl (fun _ => False) w5).drewN k)).rf) few16 hP7.pos
              rw [List.length_map] at q2
              have HP7 := Lib.hid hP7
              have Q1 := Lib.hid q1
              have Q2 := Lib.hid q2
              have Q3 := Lib.hid q3
              have Q4 := Lib.hid q4
              clear q1 q2 q3 q4 hP7
              have HL := Lib.hid (show old.length ≤ allX (s.take (j + 1)) from by omega)
              have HS := Lib.hid (show slots.length = n from by omega)
              generalize readers slots = R at Q3 Q4
              generalize old.length = L at Q2 r2 ⊢
              have n0 : ((0 : Int) != (0 : Int)) = false := by simp
              have n1 : (now != now) = false := by simp
              have n2 : ((L : Int) != (L : Int)) = false := by simp
              have n3 : ((R : Int) != (R : Int)) = false := by simp
              go_quiet (first | (go_at_call 19; exact quiet_left (Q1.out _)) | (go_at_call 20; exact quiet_left (Q2.out _)) | (go_at_call 21; exact quiet_left (Q3.out _)) | (go_at_call 22; exact quiet_left (Q4.out _)))
              go_wp2
              go_roundw
              case rel => exact ⟨j + 1, _, _, _, _, _, _, by go_num, by omega, by omega, HP7.out.new ((Fr.refl _ _).drewN _), HS.out, HL.out, by omega⟩
              case measure => simp [intOf]; omega
    · have hgo' : ¬ (j : Int) < (m : Int) ∨ ¬ (j : Int) < 400 := by omega
      have hfr := hP.bk.fr
      clear hP
      by_cases hjm : (j : Int) < (m : Int)
      · have hj4' : ¬ (j : Int) < 400 := by omega
        go_wp2
        go_ret
        exact ⟨rfl, hfr⟩
      · go_wp2
        go_ret
        exact ⟨rfl, hfr⟩
end Go.Proofs.Ytolkoagjompjjaa
