/- The cutter's Add: it answers the chunks that have ended. Conditions: those of the lemma. -/
import Derived.Test.YticlbmeldcncnaaAddPre
namespace Go.Proofs.Yticlbmeldcncnaa
open Go.RowKit Ch
set_option maxHeartbeats 1000000 in
set_option maxRecDepth 100000 in
theorem add_any (kb : Nat) (cf : List Int) (c : Cf) (hcl : cf[8]? = some c.least) (hcm : cf[9]? = some c.mean) (hcM : cf[10]? = some c.most) (hok : c.ok)
    (h o : List Int) (ov : Value) (A : Option Addr) (n cp : Nat) (bs : List Int) (w : World) (hC : CutB w kb cf h ov) (hO : Row w 5 ov (u8s o)) (hD : RdB w A n bs)
    (hA1 : 0 < n → ∀ ad, A = some ad → ad.block ≠ kb ∧ ov.ownBlock ≠ some ad.block) (hn : n ≤ 1000000) (hh : h.length ≤ 1000000000) (ho : o.length ≤ 1000000000) :
    Calls Try.prog 16 #[.pointer (some ⟨kb, 0, none⟩), .slice A n cp] w fun e w' => ∃ v ov' vs, e = .returned v ∧ AddInv w w' kb cf (St.run c ⟨h, o, []⟩ bs) ov ov' v vs := by
  go_enter Try.func16, Try.ntmps16
  go_wp2
  go_loopw [5, 13] (fun v i wr => ∃ (k : Nat) (ov' : Value) (vs : List Value), k ≤ n ∧ i = .int .i64 k ∧ AddInv w wr kb cf (St.run c ⟨h, o, []⟩ (bs.take k)) ov ov' v vs) (fun _ i _ => n - (intOf i).toNat)
  case atStart =>
    refine ⟨0, ov, [], Nat.zero_le _, rfl, hC, hO, Chs.nil _, Row.nil _ _, List.pairwise_cons.2 ⟨by simp, List.Pairwise.nil⟩, Fr.refl _ _, ?_, ?_⟩
    · intro u hu q hq
      rcases List.mem_cons.1 hu with rfl | hu
      · exact .inl hq
      · cases hu
    · intro q hq
      simp [Value.ownBlock] at hq
  case round =>
    obtain ⟨k, ov', vs, hk, rfl, hI⟩ := hrel
    by_cases hlt : k < n
    · obtain ⟨ad, rfl, hcs⟩ := hD.2.2 (by omega)
      have hcell : wr.cell? (ad.add k) = some (.int .u8 (bs.getD k 0)) := hI.fr.cell (hcs k hlt) (by rw [Addr.add_block]; intro hh; rcases hh with hh | hh; exact (hA1 (by omega) ad rfl).1 hh; exact (hA1 (by omega) ad rfl).2 hh)
      have hb := getD_range hD.2.1 k
      generalize hbk : bs.getD k 0 = b at hcell hb
      have Hbk := Lib.hid hbk
      clear hbk hcs
      obtain ⟨hb0, hb1⟩ := hb
      obtain ⟨s, hs⟩ : ∃ s, s = St.run c ⟨h, o, []⟩ (bs.take k) := ⟨_, rfl⟩
      rw [← hs] at hI
      have Hs := Lib.hid hs
      clear hs
      have hsh : s.h.length ≤ 2000000000 := by
        have := congrArg List.length (St.run_h c (bs.take k) ⟨h, o, []⟩)
        rw [← Hs.out, List.length_append, List.length_take] at this
        simp only at this
        omega
      have hso : (u8s s.o).length ≤ 2000000000 := by
        have := St.run_o c (bs.take k) ⟨h, o, []⟩
        rw [← Hs.out, List.length_take] at this
        rw [u8s_len]
        simp only at this
        omega
      go_upto_region 10 with (first
        | (go_at_call 21; refine (push_any kb cf s.h ov' b wr hI.cut hb0 hb1 (by omega)).mono ?_; rintro e w1 ⟨rfl, hC1, hf1, -⟩; have h31 := hC1.opn; have f31 := hC1.free 31)
        | (at_builtin; go_must (refine app1 rfl _ _ 24 5 (.int .u8 0) 1 rfl Try.underlying24 info5 rfl (by decide) ov' (u8s s.o) (.int .u8 b) rfl rfl rfl (hI.opn.fr hf1 (fun q hq e => hI.cut.ne hI.opn (by decide) (e ▸ hq))) (by omega) ?_); intro g c2 w2 hR2 hor2 hf2 hs2; have hC2 := hC1.fr hf2 (hI.cut.ne hI.opn (by decide)); have k31 := hC2.opn; have g31 := hC2.free 31))
      have hgk : g ≠ kb := by
        rcases hor2 with e | e
        · intro e'; subst e'; exact hI.cut.ne hI.opn (by decide) e
        · have := hC1.lt; omega
      have hC3 := hC2.set (.slice (some ⟨g, 0, none⟩) ((u8s s.o).length + 1) c2)
      have hR3 := hR2.other (a := ⟨kb, 31, none⟩) (by simpa [Value.ownBlock] using hgk) (.slice (some ⟨g, 0, none⟩) ((u8s s.o).length + 1) c2)
      have hf3 : Fr (fun q => q = kb ∨ ov'.ownBlock = some q) wr (w2.setCell ⟨kb, 31, none⟩ (.slice (some ⟨g, 0, none⟩) ((u8s s.o).length + 1) c2)) := ((hf1.mono (fun _ _ h => .inl h)).trans (hf2.mono (S' := fun q => q = kb ∨ ov'.ownBlock = some q) (fun _ _ h => .inr h)) (fun _ _ h => h)).setCell _ _ (fun _ => .inl rfl)
      generalize w2.setCell ⟨kb, 31, none⟩ (.slice (some ⟨g, 0, none⟩) ((u8s s.o).length + 1) c2) = w3 at hC3 hR3 hf3 ⊢
      have k8 := hC3.conf 8 hcl
      have k9 := hC3.conf 9 hcm
      have k10 := hC3.conf 10 hcM
      have k29 := hC3.sum
      have k31 := hC3.opn
      have j31 := hC3.free 31
      obtain ⟨hs0, hs1⟩ := hs_range (s.h ++ [b])
      obtain ⟨ok1, ok2, ok3, ok4, ok5⟩ := hok
      generalize hSS : hs (s.h ++ [b]) = S at k29 hs0 hs1
      have HS := Lib.hid hSS
      clear hSS
      go_cut [71] (fun t w => t = .bool (decide (((u8s s.o).length : Int) + 1 = c.most) || (decide (c.least ≤ ((u8s s.o).length : Int) + 1) && decide (S % c.mean = c.mean - 1))) ∧ ∃ q, w = w3.drewN q)
      case first =>
        by_cases h1 : ((u8s s.o).length : Int) + 1 = c.most
        · have h1' : ((((u8s s.o).length : Int) + 1) == c.most) = true := by simpa using h1
          go_quiet (fail)
          go_wp2
          go_meet
          case rel => exact ⟨congrArg Value.bool (by simp [h1]), _, rfl⟩
        · have h1' : ((((u8s s.o).length : Int) + 1) == c.most) = false := by simpa using h1
          by_cases h2 : c.least ≤ ((u8s s.o).length : Int) + 1
          · have h2' : decide (c.least ≤ ((u8s s.o).length : Int) + 1) = true := by simpa using h2
            go_quiet (fail)
            go_wp2
            go_meet
            case rel =>
              refine ⟨congrArg Value.bool ?_, _, rfl⟩
              have e1 := Int.emod_nonneg S (show c.mean ≠ 0 by omega)
              have e2 := Int.emod_lt_of_pos S (show 0 < c.mean by omega)
              generalize S % c.mean = R at e1 e2
              have e3 : wrap64 R = R := by unfold wrap64; omega
              rw [e3]
              simp [h1, show c.least ≤ ((u8s s.o).length : Int) + 1 by omega]
              rfl
          · have h2' : decide (c.least ≤ ((u8s s.o).length : Int) + 1) = false := by simpa using h2
            go_quiet (fail)
            go_wp2
            go_meet
            case rel => exact ⟨congrArg Value.bool (by simp [h1]; intro hh; omega), _, rfl⟩
      case rest =>
        obtain ⟨ht, q, rfl⟩ := hcut
        have hend : (decide (((u8s s.o).length : Int) + 1 = c.most) || (decide (c.least ≤ ((u8s s.o).length : Int) + 1) && decide (S % c.mean = c.mean - 1))) = ends c (s.o.length + 1) (s.h ++ [b]) := by
          unfold ends
          rw [HS.out, u8s_len]
          simp only [Int.natCast_add, Int.natCast_one]
        rw [hend] at ht
        have hstep : Hid (St.run c ⟨h, o, []⟩ (bs.take (k + 1)) = St.step c s b) := by
          rw [List.take_succ_eq_append_getElem (by rw [hD.1]; exact hlt), St.run_snoc, Hs.out]
          congr 1
          have := Hbk.out
          rw [List.getD_eq_getElem?_getD, List.getElem?_eq_getElem (by rw [hD.1]; exact hlt)] at this
          exact this
        have hK := hI.keep hC3 hR3 hf3 (hor2.imp id (fun h => by have := hf1.size; omega))
        have hvs : vs.length ≤ 2000000000 := by
          have := St.run_out c (bs.take k) ⟨h, o, []⟩
          rw [← Hs.out, List.length_take] at this
          rw [hI.rows.1]
          simp only [List.length_nil] at this
          omega
        have hK4 : AddInv w (w3.drewN q) kb cf ⟨s.h ++ [b], s.o ++ [b], s.out⟩ ov (.slice (some ⟨g, 0, none⟩) ((u8s s.o).length + 1) c2) u5 vs := ⟨hK.cut, hK.opn, hK.rows, hK.out, hK.apart, hK.fr.drewN q, hK.new, hK.newOut⟩
        generalize w3.drewN q = w4 at hK4 ⊢
        clear hK hC3 hR3 hf3 k8 k9 k10 k29 k31 j31 hs0 hs1 hcell hor2
        have m31 := hK4.cut.opn
        have n31 := hK4.cut.free 31
        by_cases hE : ends c (s.o.length + 1) (s.h ++ [b]) = true
        · rw [hE] at ht
          subst ht
          go_wp2_with (first
            | (at_builtin; go_must (refine app1 rfl _ _ 39 24 (.slice none 0 0) 24 rfl Try.underlying39 info24 rfl (by decide) u5 vs (.slice (some ⟨g, 0, none⟩) ((u8s s.o).length + 1) c2) rfl rfl rfl hK4.out (by omega) ?_); intro g1 c3 w5 hR5 hor5 hf5 _; have hC5 := hK4.cut.fr hf5 (hK4.cut.ne hK4.out (by decide)); have p31 := hC5.opn; have r31 := hC5.free 31))
          go_roundw
          case rel =>
            have hN := hK4.emit hR5 hor5 hf5
            refine ⟨k + 1, .slice none 0 0, vs ++ [.slice (some ⟨g, 0, none⟩) ((u8s s.o).length + 1) c2], by omega, by go_num, ?_⟩
            rw [hstep.out]
            unfold St.step
            rw [if_pos hE]
            exact hN
          case measure => simp [intOf]; omega
        · rw [Bool.eq_false_iff.2 hE] at ht
          subst ht
          go_wp2
          go_roundw
          case rel =>
            refine ⟨k + 1, .slice (some ⟨g, 0, none⟩) ((u8s s.o).length + 1) c2, vs, by omega, by go_num, ?_⟩
            rw [hstep.out]
            unfold St.step
            rw [if_neg hE]
            exact hK4
          case measure => simp [intOf]; omega
    · obtain rfl : k = n := by omega
      go_wp2
      go_ret
      rw [List.take_of_length_le (by rw [hD.1]; exact Nat.le_refl _)] at hI
      exact ⟨u5, ov', vs, rfl, hI⟩
end Go.Proofs.Yticlbmeldcncnaa
