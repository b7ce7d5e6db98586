/- The law ChunkLeaves, walked. Conditions: those of the lemmas. -/
import Derived.Test.YticlbmeldcncnaaLeavesPre
namespace Go.Proofs.Yticlbmeldcncnaa
open Go.RowKit Go.Shelf Ch
attribute [local go_sem] Oper.semAt_some
structure LvI (w : World) (cf : List Int) (lv : Int) (cB lB rB nB : Nat) (k : Nat) (W : World) : Prop where
  fr : Fr (fun _ => False) w W
  conf : Blk W cB (i64s cf) 23
  leave : Blk W lB [.int .u8 lv] 5
  res : Blk W rB [.bool false] 4
  num : Blk W nB [.int .i64 k] 3
theorem LvI.turn {w : World} {cf : List Int} {lv : Int} {cB lB rB nB k B : Nat} {W W' : World} (h : LvI w cf lv cB lB rB nB k W) (hf : Fr (Turn B W) W W') (hB : w.heap.size ≤ B) : LvI w cf lv cB lB rB nB k W' :=
  ⟨h.fr.turn hf hB, h.conf.turn hf, h.leave.turn hf, h.res.turn hf, h.num.turn hf⟩
set_option maxHeartbeats 2000000 in
set_option maxRecDepth 100000 in
theorem leaves_ok (c0 c1 c2 c3 c4 c5 c6 c7 c8 c9 c10 c11 : Int) (A : Option Addr) (n cp : Nat) (bs : List Int) (lv : Int) (hlv0 : 0 ≤ lv) (hlv1 : lv ≤ 255) (w : World) (hD : RdB w A n bs) (hn : n ≤ 30000) :
    Calls Try.prog 7 #[.agg #[.int .i64 c0, .int .i64 c1, .int .i64 c2, .int .i64 c3, .int .i64 c4, .int .i64 c5, .int .i64 c6, .int .i64 c7, .int .i64 c8, .int .i64 c9, .int .i64 c10, .int .i64 c11], .slice A n cp, .int .u8 lv] w fun e w' => e = .returned (.bool true) ∧ Fr (fun _ => False) w w' := by
  obtain ⟨m, hm⟩ : ∃ m : Nat, m = 9 := ⟨_, rfl⟩
  clear hm
  refine (callsIn_wide (n := m)).1 ?_
  refine callsIn_of_wp_marks Try.func7 rfl trivial ?_ rfl
  simp only [Try.ntmps7, List.size_toArray, List.length_cons, List.length_nil, Nat.reduceAdd, Nat.reduceSub, Array.replicate_succ, Array.replicate_zero, List.push_toArray, List.append_toArray, List.nil_append, List.cons_append]
  have nd : Fence.wide.depth.isSome = true → 1 ≤ m := fun h => by simp [Fence.wide] at h
  have ND := Lib.hid nd
  clear nd
  have hB0 := Blk.new w (i64s [c0, c1, c2, c3, c4, c5, c6, c7, c8, c9, c10, c11]) 23
  have hl0 : Blk ((w.alloc (.cells (i64s [c0, c1, c2, c3, c4, c5, c6, c7, c8, c9, c10, c11]).toArray 23)).alloc (.cells #[.int .u8 lv] 5)) (w.heap.size + 1) [.int .u8 lv] 5 := Blk.at_new _ _ _ _ _ (by simp) rfl
  have hr0 : Blk (((w.alloc (.cells (i64s [c0, c1, c2, c3, c4, c5, c6, c7, c8, c9, c10, c11]).toArray 23)).alloc (.cells #[.int .u8 lv] 5)).alloc (.cells #[.bool false] 4)) (w.heap.size + 1 + 1) [.bool false] 4 := Blk.at_new _ _ _ _ _ (by simp) rfl
  have f0 : Fr (fun _ => False) w (((w.alloc (.cells (i64s [c0, c1, c2, c3, c4, c5, c6, c7, c8, c9, c10, c11]).toArray 23)).alloc (.cells #[.int .u8 lv] 5)).alloc (.cells #[.bool false] 4)) := (((Fr.refl _ w).alloc _).alloc _).alloc _
  gi_wp2_with (fail)
  refine ⟨trivial, ND.out, (callsIn_wide.2 (awake_any _)).mono ?_⟩
  rintro e w1 ⟨rfl, hf1⟩
  have hB1 := hf1.blk ((hB0.alloc (.cells #[.int .u8 lv] 5)).alloc (.cells #[.bool false] 4)) id
  have hl1 := hf1.blk (hl0.alloc (.cells #[.bool false] 4)) id
  have hr1 := hf1.blk hr0 id
  have f1 := f0.trans hf1 (fun _ _ h => h)
  clear hB0 hl0 hr0 f0 hf1
  have hN2 := Blk.at_new w1 [.int .i64 0] 3 w1.heap.size _ rfl rfl
  gi_upto_region 4 with (fail)
  have hl := hr1.lt
  have hB2 := hB1.alloc (.cells #[.int .i64 0] 3)
  have hl2 := hl1.alloc (.cells #[.int .i64 0] 3)
  have hr2 := hr1.alloc (.cells #[.int .i64 0] 3)
  have f2 := f1.alloc (.cells #[.int .i64 0] 3)
  simp only [List.toArray] at hN2
  generalize w1.alloc (.cells #[.int .i64 0] 3) = w2 at hN2 hB2 hl2 hr2 f2 ⊢
  have l0 : w.heap.size + 1 + 1 < w1.heap.size := hl
  clear hB1 hl1 hr1 f1 hl
  generalize w1.heap.size = nB at hN2 l0 ⊢
  obtain ⟨e0, e1, e2, e3, e4, e5, e6, e7, e8, e9, e10, e11⟩ := agg_of c0 c1 c2 c3 c4 c5 c6 c7 c8 c9 c10 c11 w2 _ hB2
  gi_wp2_with (fail)
  clear e0 e1 e2 e3 e4 e5 e6 e7 e8 e9 e10 e11
  refine ⟨trivial, ND.out, (callsIn_wide.2 (parts_any c0 c1 c2 c3 c4 c5 c6 c7 c8 c9 c10 c11 A n cp _)).mono ?_⟩
  rintro e w5 ⟨rfl, hw5⟩
  have f45 : Fr (fun _ => False) w2 w5 := by rw [← hw5]; exact ((Fr.refl _ w2).alloc _).alloc _
  have hcB : Blk w5 w2.heap.size (i64s [c0, c1, c2, c3, c4, c5, c6, c7, c8, c9, c10, c11]) 23 := by rw [← hw5]; exact (Blk.at_new _ _ _ _ _ rfl rfl).alloc _
  have hdB : Blk w5 (w2.heap.size + 1) [.slice A n cp] 24 := by rw [← hw5]; exact Blk.at_new _ _ _ _ _ (by simp) rfl
  have f5 := f2.trans f45 (fun _ _ h => h)
  have hD5 : RdB w5 A n bs := hD.fr f5 (fun _ _ => id)
  clear hw5
  have hit := fun l J Jx W => parts_iter2 (m := m) c0 c1 c2 c3 c4 c5 c6 c7 c8 c9 c10 c11 w2.heap.size (w2.heap.size + 1) A n cp bs w5 hcB hdB hD5 (by omega) l J Jx W
  have hI0 : LvI w [c0, c1, c2, c3, c4, c5, c6, c7, c8, c9, c10, c11] lv w.heap.size (w.heap.size + 1) (w.heap.size + 1 + 1) nB 0 w5 :=
    ⟨f5, f45.blk hB2 id, f45.blk hl2 id, f45.blk hr2 id, f45.blk hN2 id⟩
  have hPLx : partsOf ⟨c8, c9, c10⟩ bs = partsOf ⟨c8, c9, c10⟩ bs := rfl
  generalize hPL : partsOf ⟨c8, c9, c10⟩ bs = PL at hit
  have HPL := Lib.hid hPL
  clear hPL hPLx
  gi_wp2_with (fail)
  refine range_break 0 (n := m) (gf := 22) (lb := #[.pointer (some ⟨w2.heap.size, 0, none⟩), .pointer (some ⟨w2.heap.size + 1, 0, none⟩)]) rfl (enters_of Try.func22 (by kernel_rfl) rfl) (fun x : Ck => #[.int .i64 x.at_, x.v]) (fun _ => rfl)
    (fun pre W => LvI w [c0, c1, c2, c3, c4, c5, c6, c7, c8, c9, c10, c11] lv w.heap.size (w.heap.size + 1) (w.heap.size + 1 + 1) nB pre.length W ∧ (pre.length : Int) ≤ lv)
    (fun pre W => LvI w [c0, c1, c2, c3, c4, c5, c6, c7, c8, c9, c10, c11] lv w.heap.size (w.heap.size + 1) (w.heap.size + 1 + 1) nB pre.length W ∧ (pre.length : Int) = lv + 1)
    (Gd PL) Kp (fun _ _ _ h hf => ⟨h.1.turn hf f5.size, h.2⟩) (fun _ _ _ h hf => ⟨h.1.turn hf f5.size, h.2⟩) (Gd.calm _ _) Kp.trans Kp.turn
    (fun xs => xs.map Ck.cs = PL) (fun pre => pre.map Ck.cs <+: PL) hit ⟨hI0, by simpa using hlv0⟩
    (fun W => LvI w [c0, c1, c2, c3, c4, c5, c6, c7, c8, c9, c10, c11] lv w.heap.size (w.heap.size + 1) (w.heap.size + 1 + 1) nB (min (lv.toNat + 1) PL.length) W) ?round ?done ?stop (fun _ _ h => h) ?rest
  case done =>
    rintro xs W hS ⟨hi, hl⟩
    have : min (lv.toNat + 1) PL.length = xs.length := by rw [← hS, List.length_map]; omega
    rw [this]
    exact hi
  case stop =>
    rintro pre W hS ⟨hi, hl⟩
    have h2 := hS.length_le
    rw [List.length_map] at h2
    have : min (lv.toNat + 1) PL.length = pre.length := by omega
    rw [this]
    exact hi
  case round =>
    rintro l pre x W ⟨hI, hle⟩ hG
    gi_wp2
    refine ⟨Fr.refl _ _, ?_⟩
    intro W3 hf3
    have hI3 := hI.turn hf3 f5.size
    have hG3 := Gd.calm _ _ _ _ _ _ hG hf3
    clear hI hG hf3
    obtain ⟨xA, xc, hxv⟩ := hG3.1.slice
    rw [u8s_len] at hxv
    have hpos := hG3.2.2.1
    have hpl := hG3.len
    rw [hxv]
    have k5 := hI3.num.cell 0 rfl
    have k5f := hI3.num.free 0
    have k6 := hI3.leave.cell 0 rfl
    have k7 := (hI3.num.set 0 (.int .i64 ((pre.length : Int) + 1))).cell 0 rfl
    have k8 := (hI3.leave.other (a := ⟨nB, 0, none⟩) (by simp; omega) (.int .i64 ((pre.length : Int) + 1))).cell 0 rfl
    have t0 : ((x.cs.length : Int) == 0) = false := by simp only [beq_eq_false_iff_ne, ne_eq]; omega
    have t0' : ¬ x.cs.length = 0 := by omega
    have t2 : ¬ lv + 1 < (pre.length : Int) + 1 := by omega
    have t3 : ¬ 1 + lv < (pre.length : Int) + 1 := by omega
    have t1 : IntKind.i64.wrap ((pre.length : Int) + 1) = (pre.length : Int) + 1 := IntWalk.i64_in _ (by omega)
    have g1 : Fr (fun k => k = nB) W3 (W3.setCell ⟨nB, 0, none⟩ (.int .i64 ((pre.length : Int) + 1))) := (Fr.refl _ W3).set1 _ _
    have hI4 : LvI w [c0, c1, c2, c3, c4, c5, c6, c7, c8, c9, c10, c11] lv w.heap.size (w.heap.size + 1) (w.heap.size + 1 + 1) nB (pre ++ [x]).length (W3.setCell ⟨nB, 0, none⟩ (.int .i64 ((pre.length : Int) + 1))) := by
      refine ⟨hI3.fr.setCell _ _ (fun h => by simp only at h; omega), hI3.conf.other (by simp; omega) _, hI3.leave.other (by simp; omega) _, hI3.res.other (by simp; omega) _, ?_⟩
      have := hI3.num.set 0 (.int .i64 ((pre.length : Int) + 1))
      rw [List.length_append, List.length_singleton, Int.natCast_add]
      exact this
    have hst : Stay w5.heap.size W3 (W3.setCell ⟨nB, 0, none⟩ (.int .i64 ((pre.length : Int) + 1))) := Stay.of_fr g1 (fun k hk => by subst hk; exact ⟨_, _, _, hI3.num.out⟩)
    have hkp : Kp W3 (W3.setCell ⟨nB, 0, none⟩ (.int .i64 ((pre.length : Int) + 1))) := Kp.fr g1 (fun k hk cs t hc => by
      subst hk
      rw [hI3.num.out] at hc
      cases hc
      exact ⟨by decide, by decide⟩)
    have HI4 := Lib.hid hI4
    have Hst := Lib.hid hst
    have Hkp := Lib.hid hkp
    clear hI4 hst hkp g1 hI3 hG3 hit hI0
    by_cases hq : (pre.length : Int) = lv
    · subst hq
      gi_wp2
      exact ⟨Hst.out, rfl, HI4.out, by simp⟩
    · have hq2 : ¬ (pre.length : Int) + 1 = 1 + lv := by omega
      gi_wp2
      refine ⟨Hst.out, Hkp.out, HI4.out, ?_⟩
      rw [List.length_append, List.length_singleton]
      omega
  case rest =>
    intro D W hDD hR hK
    obtain ⟨hfR, hcR, hlR, hrR, hnR⟩ := hR
    clear hit hI0 hcB hdB hD5 f45 hB2 hl2 hr2 hN2 f2
    generalize hNN : min (lv.toNat + 1) PL.length = N at hnR
    have HNN := Lib.hid hNN
    clear hNN
    obtain ⟨e0, e1, e2, e3, e4, e5, e6, e7, e8, e9, e10, e11⟩ := agg_of c0 c1 c2 c3 c4 c5 c6 c7 c8 c9 c10 c11 W _ hcR
    by_cases hok : (⟨c8, c9, c10⟩ : Cf).ok
    · obtain ⟨h1, h2, h3, h4, h5⟩ := hok
      have hPP := HPL.out
      unfold partsOf at hPP
      rw [if_pos ⟨h1, h2, h3, h4, h5⟩] at hPP
      have HPP := Lib.hid hPP
      clear hPP
      gi_wp2_with (fail)
      refine ⟨trivial, ND.out, (callsIn_wide.2 (new_ok c0 c1 c2 c3 c4 c5 c6 c7 c8 c9 c10 c11 W h1 h2 h3 h4 h5)).mono ?_⟩
      rintro e W1 ⟨kb, rfl, _, hf1, _⟩
      clear e0 e1 e2 e3 e4 e5 e6 e7 e8 e9 e10 e11
      obtain ⟨e0, e1, e2, e3, e4, e5, e6, e7, e8, e9, e10, e11⟩ := agg_of c0 c1 c2 c3 c4 c5 c6 c7 c8 c9 c10 c11 W1 _ (hf1.blk hcR id)
      gi_wp2_with (fail)
      refine ⟨trivial, ND.out, (callsIn_wide.2 (rcheck_ok c0 c1 c2 c3 c4 c5 c6 c7 c8 c9 c10 c11 W1 h1 h2 h3 h4 h5)).mono ?_⟩
      rintro e W2 ⟨rfl, hW2⟩
      have hf2 : Fr (fun _ => False) W W2 := by rw [← hW2]; exact hf1.alloc _
      clear e0 e1 e2 e3 e4 e5 e6 e7 e8 e9 e10 e11 hW2
      have hc2 := hf2.blk hcR id
      have hl2 := hf2.blk hlR id
      have hDW : RdB W2 A n bs := hD.fr (hfR.trans hf2 (fun _ _ h => h)) (fun _ _ => id)
      gi_upto_region 14 with (fail)
      gi_cut [13] from 51 (fun t W' => t = .int .i64 N ∧ Fr (fun _ => False) W2 W')
      case first =>
        obtain ⟨e0, e1, e2, e3, e4, e5, e6, e7, e8, e9, e10, e11⟩ := agg_of c0 c1 c2 c3 c4 c5 c6 c7 c8 c9 c10 c11 W2 _ hc2
        have kl := hl2.cell 0 rfl
        have kl' : W2.drew.cell? ⟨w.heap.size + 1, 0, none⟩ = some (.int .u8 lv) := kl
        have hDr : RdB W2.drew A n bs := hDW
        have hcr : Blk W2.drew w.heap.size (i64s [c0, c1, c2, c3, c4, c5, c6, c7, c8, c9, c10, c11]) 23 := hc2
        have hS : (convert 24 9 (.slice A n cp)).run Try.prog W2.drew = .ok (.string (strOfNums bs)) W2.drew := run_str W2.drew 24 5 9 Try.underlying24 Try.underlying5 Try.underlying9 A n cp bs hD.1 hDr.rd
        refine wpIn_mono ?_ NoPanic.imp
        have hl2r : Blk W2.drew (w.heap.size + 1) [.int .u8 lv] 5 := hl2
        have hpl : PL.length ≤ 1000000 := by
          have e1 := St.run_out ⟨c8, c9, c10⟩ bs ⟨[], [], []⟩
          have e2 := ne_len ((St.run ⟨c8, c9, c10⟩ ⟨[], [], []⟩ bs).out ++ [(St.run ⟨c8, c9, c10⟩ ⟨[], [], []⟩ bs).o])
          rw [hD.1] at e1
          simp only [List.length_nil] at e1
          simp only [List.length_append, List.length_singleton] at e2
          have e3 := HPP.out
          unfold Ch.St.parts at e3
          rw [e3] at e2
          omega
        have t0 : IntKind.i64.wrap lv = lv := IntWalk.i64_in _ (by omega)
        have t1 : IntKind.i64.wrap (1 + lv) = 1 + lv := IntWalk.i64_in _ (by omega)
        have t2 : ((N : Nat) : Int) = min (1 + lv) (PL.length : Int) := by rw [← HNN.out]; omega
        have T2 := Lib.hid t2
        clear t2
        gi_region_with ((refine ⟨trivial, ND.out, (callsIn_wide.2 (rcut_any c0 c1 c2 c3 c4 c5 c6 c7 c8 c9 c10 c11 (strOfNums bs) W2.drew ?_ h1 h2 h3 h4 h5)).mono ?_⟩; (rw [strOfNums_size, hD.1]; omega); rintro e W5 ⟨v5, rfl, hR5, hf5, hN5⟩; rw [bsOf_str bs hD.2.1, ← parts_lens, HPP.out] at hR5; obtain ⟨A5, k5, rfl, _⟩ := hR5.rd; have kl5 := (hf5.blk hl2r id).cell 0 rfl; rw [i64s_len, List.length_map]))
        all_goals (
          refine NoPanic.normal ?_
          gi_wp2)
        all_goals (
          go_meet
          case rel =>
            have t2 := T2.out
            exact ⟨congrArg (Value.int .i64) (by first | omega | (rw [t0, t1] at *; omega) | (simp only [t0, t1] at *; omega)), (Fr.refl _ W2).drew.trans hf5 (fun _ _ h => h)⟩)
      case rest =>
        obtain ⟨rfl, hf3⟩ := hcut
        have hf3 := hf2.trans hf3 (fun _ _ h => h)
        clear hc2 hl2 hDW hf2 hf1
        have hcc := hf3.blk hcR id
        have hrr := hf3.blk hrR id
        have hnn := hf3.blk hnR id
        have kn := hnn.cell 0 rfl
        have hKc := (hf3.block D (Array.getElem?_eq_some_iff.1 hK).1 id).trans hK
        have f9 := hfR.trans hf3 (fun _ _ h => h)
        clear hf3 hcR hlR hrR hnR hfR hK HPP
        obtain ⟨e0, e1, e2, e3, e4, e5, e6, e7, e8, e9, e10, e11⟩ := agg_of c0 c1 c2 c3 c4 c5 c6 c7 c8 c9 c10 c11 wc _ hcc
        gi_wp2_with (fail)
        refine ⟨trivial, ND.out, (callsIn_wide.2 (rcheck_ok c0 c1 c2 c3 c4 c5 c6 c7 c8 c9 c10 c11 wc h1 h2 h3 h4 h5)).mono ?_⟩
        rintro e W3 ⟨rfl, hW3⟩
        have hf3 : Fr (fun _ => False) wc W3 := by rw [← hW3]; exact (Fr.refl _ wc).alloc _
        clear e0 e1 e2 e3 e4 e5 e6 e7 e8 e9 e10 e11 hW3
        gi_wp2_with (fail)
        refine ⟨trivial, ND.out, (callsIn_wide.2 (add_nil (.slice A n cp) W3)).mono ?_⟩
        rintro e W4 ⟨rfl, rfl⟩
        gi_wp2_with (fail)
        refine ⟨trivial, ND.out, (callsIn_wide.2 (end_nil W3)).mono ?_⟩
        rintro e W4 ⟨rfl, rfl⟩
        have hr3 := hf3.blk hrr id
        have k3 := hr3.cell 0 rfl
        have k3f := hr3.free 0
        gi_wp2
        have hK3 := (hf3.block D (Array.getElem?_eq_some_iff.1 hKc).1 id).trans hKc
        have hK' := (KeepsOthers.setCell W3 ⟨w.heap.size + 1 + 1, 0, none⟩ (.bool true)).same D _ hK3 rfl
        have r1 := hr3.set 0 (.bool true)
        have g1 : Fr (fun _ => False) w (W3.setCell ⟨w.heap.size + 1 + 1, 0, none⟩ (.bool true)) := (f9.trans hf3 (fun _ _ h => h)).setCell _ _ (fun h => by simp only at h; omega)
        generalize W3.setCell ⟨w.heap.size + 1 + 1, 0, none⟩ (.bool true) = W6 at hK' r1 g1 ⊢
        have ht : Fr (Turn w.heap.size W6) W6 (W6.putObj D (.deferred none)) := turn_put _ (by have := f5.size; omega) hK' rfl
        have hc := (r1.turn ht).cell 0 rfl
        refine ⟨by simp, .inl ⟨_, _, rfl, run_takeDeferred hK', ?_⟩⟩
        refine ⟨.bool true, ?_, rfl, g1.turn ht (Nat.le_refl _)⟩
        simp [results, Try.results7, go_sem, hc]
    · have hno : ¬ (1 ≤ c8 ∧ 1 ≤ c9 ∧ c9 ≤ 65536 ∧ c8 ≤ c10 ∧ c10 ≤ 4096) := hok
      have hPP := HPL.out
      unfold partsOf at hPP
      rw [if_neg hok] at hPP
      have hN0 : N = 0 := by rw [← HNN.out, ← hPP]; simp
      subst hN0
      have Hno := Lib.hid hno
      clear hno hok hPP
      have hKc := hK
      have f9 := hfR
      have hrr := hrR
      have kn := hnR.cell 0 rfl
      gi_wp2_with (fail)
      refine ⟨trivial, ND.out, (callsIn_wide.2 (new_no c0 c1 c2 c3 c4 c5 c6 c7 c8 c9 c10 c11 W Hno.out)).mono ?_⟩
      rintro e W1 ⟨rfl, hf1⟩
      clear e0 e1 e2 e3 e4 e5 e6 e7 e8 e9 e10 e11
      obtain ⟨e0, e1, e2, e3, e4, e5, e6, e7, e8, e9, e10, e11⟩ := agg_of c0 c1 c2 c3 c4 c5 c6 c7 c8 c9 c10 c11 W1 _ (hf1.blk hcR id)
      gi_wp2_with (fail)
      refine ⟨trivial, ND.out, (callsIn_wide.2 (rcheck_no c0 c1 c2 c3 c4 c5 c6 c7 c8 c9 c10 c11 W1 Hno.out)).mono ?_⟩
      rintro e W2 ⟨rfl, hW2⟩
      have hf2 : Fr (fun _ => False) W W2 := by rw [← hW2]; exact hf1.alloc _
      clear e0 e1 e2 e3 e4 e5 e6 e7 e8 e9 e10 e11 hW2 hf1
      obtain ⟨e0, e1, e2, e3, e4, e5, e6, e7, e8, e9, e10, e11⟩ := agg_of c0 c1 c2 c3 c4 c5 c6 c7 c8 c9 c10 c11 W2 _ (hf2.blk hcR id)
      have kn2 := hf2.cell kn id
      gi_wp2_with (fail)
      refine ⟨trivial, ND.out, (callsIn_wide.2 (rcheck_no c0 c1 c2 c3 c4 c5 c6 c7 c8 c9 c10 c11 W2 Hno.out)).mono ?_⟩
      rintro e W3 ⟨rfl, hW3⟩
      have hf3 : Fr (fun _ => False) W W3 := by rw [← hW3]; exact hf2.alloc _
      clear e0 e1 e2 e3 e4 e5 e6 e7 e8 e9 e10 e11 hW3 hf2
      gi_wp2_with (fail)
      refine ⟨trivial, ND.out, (callsIn_wide.2 (add_nil (.slice A n cp) W3)).mono ?_⟩
      rintro e W4 ⟨rfl, rfl⟩
      gi_wp2_with (fail)
      refine ⟨trivial, ND.out, (callsIn_wide.2 (end_nil W3)).mono ?_⟩
      rintro e W4 ⟨rfl, rfl⟩
      have hr3 := hf3.blk hrr id
      have k3 := hr3.cell 0 rfl
      have k3f := hr3.free 0
      gi_wp2
      have hK3 := (hf3.block D (Array.getElem?_eq_some_iff.1 hKc).1 id).trans hKc
      have hK' := (KeepsOthers.setCell W3 ⟨w.heap.size + 1 + 1, 0, none⟩ (.bool true)).same D _ hK3 rfl
      have r1 := hr3.set 0 (.bool true)
      have g1 : Fr (fun _ => False) w (W3.setCell ⟨w.heap.size + 1 + 1, 0, none⟩ (.bool true)) := (f9.trans hf3 (fun _ _ h => h)).setCell _ _ (fun h => by simp only at h; omega)
      generalize W3.setCell ⟨w.heap.size + 1 + 1, 0, none⟩ (.bool true) = W6 at hK' r1 g1 ⊢
      have ht : Fr (Turn w.heap.size W6) W6 (W6.putObj D (.deferred none)) := turn_put _ (by have := f5.size; omega) hK' rfl
      have hc := (r1.turn ht).cell 0 rfl
      refine ⟨by simp, .inl ⟨_, _, rfl, run_takeDeferred hK', ?_⟩⟩
      refine ⟨.bool true, ?_, rfl, g1.turn ht (Nat.le_refl _)⟩
      simp [results, Try.results7, go_sem, hc]
set_option maxHeartbeats 400000 in
set_option maxRecDepth 100000 in
theorem leaves_long (c0 c1 c2 c3 c4 c5 c6 c7 c8 c9 c10 c11 : Int) (A : Option Addr) (n cp : Nat) (lv : Int) (w : World) (hn : 30000 < n) :
    Calls Try.prog 7 #[.agg #[.int .i64 c0, .int .i64 c1, .int .i64 c2, .int .i64 c3, .int .i64 c4, .int .i64 c5, .int .i64 c6, .int .i64 c7, .int .i64 c8, .int .i64 c9, .int .i64 c10, .int .i64 c11], .slice A n cp, .int .u8 lv] w fun e w' => e = .returned (.bool true) ∧ Fr (fun _ => False) w w' := by
  have hr0 : Blk (((w.alloc (.cells (i64s [c0, c1, c2, c3, c4, c5, c6, c7, c8, c9, c10, c11]).toArray 23)).alloc (.cells #[.int .u8 lv] 5)).alloc (.cells #[.bool false] 4)) (w.heap.size + 1 + 1) [.bool false] 4 := Blk.at_new _ _ _ _ _ (by simp) rfl
  have f0 : Fr (fun _ => False) w (((w.alloc (.cells (i64s [c0, c1, c2, c3, c4, c5, c6, c7, c8, c9, c10, c11]).toArray 23)).alloc (.cells #[.int .u8 lv] 5)).alloc (.cells #[.bool false] 4)) := (((Fr.refl _ w).alloc _).alloc _).alloc _
  go_enter Try.func7, Try.ntmps7
  go_wp2_with fail
  refine (awake_any _).mono ?_
  rintro e w1 ⟨rfl, hf1⟩
  have hr1 := hf1.blk hr0 id
  have f1 := f0.trans hf1 (fun _ _ h => h)
  go_wp2_with fail
  refine (awake_any _).mono ?_
  rintro e w2 ⟨rfl, hf2⟩
  have hr2 := hf2.blk hr1 id
  have k2 := hr2.cell 0 rfl
  have k2f := hr2.free 0
  have f2 := (f1.trans hf2 (fun _ _ h => h)).setCell ⟨w.heap.size + 1 + 1, 0, none⟩ (.bool true) (fun h => by simp only at h; omega)
  have hr3 := (hr2.set 0 (.bool true)).cell 0 rfl
  go_wp2
  exact bodyPost_ret (v := .bool true) (by simp [results, Try.results7, go_sem, hr3]) rfl ⟨rfl, f2⟩
/-- ChunkLeaves answers true, whatever it is given, and leaves what was there. -/
theorem leaves_any (c0 c1 c2 c3 c4 c5 c6 c7 c8 c9 c10 c11 : Int) (A : Option Addr) (n cp : Nat) (bs : List Int) (lv : Int) (hlv0 : 0 ≤ lv) (hlv1 : lv ≤ 255) (w : World) (hD : RdB w A n bs) :
    Calls Try.prog 7 #[.agg #[.int .i64 c0, .int .i64 c1, .int .i64 c2, .int .i64 c3, .int .i64 c4, .int .i64 c5, .int .i64 c6, .int .i64 c7, .int .i64 c8, .int .i64 c9, .int .i64 c10, .int .i64 c11], .slice A n cp, .int .u8 lv] w fun e w' => e = .returned (.bool true) ∧ Fr (fun _ => False) w w' := by
  by_cases hn : n ≤ 30000
  · exact leaves_ok c0 c1 c2 c3 c4 c5 c6 c7 c8 c9 c10 c11 A n cp bs lv hlv0 hlv1 w hD hn
  · exact leaves_long c0 c1 c2 c3 c4 c5 c6 c7 c8 c9 c10 c11 A n cp lv w (by omega)
end Go.Proofs.Yticlbmeldcncnaa
