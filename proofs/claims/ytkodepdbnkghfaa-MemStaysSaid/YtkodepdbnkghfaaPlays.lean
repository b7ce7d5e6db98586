/- The law MemPlays, walked. Conditions: those of the lemmas. -/
import Derived.Test.YtkodepdbnkghfaaDoes
import Derived.Test.YtkodepdbnkghfaaAwake
import Derived.Deep.RegionLaw
import Derived.Deep.DeepCutAuto
namespace Go.Proofs.Ytkodepdbnkghfaa
open Go.RowKit
attribute [local go_sem ↓] Go.wp_at_zero Go.wp_at_succ
set_option maxHeartbeats 4000000 in
set_option maxRecDepth 100000 in
theorem plays_any {W : World} {B : Option Addr} {n cp : Nat} {s : List Op3} (hs : s.length = n) (hr : Rd W B (ops3 s).flatten) (hn : n ≤ 9223372036854775807) :
    Calls Try.prog 4 #[.slice B n cp] W fun e w' => e = .returned (.bool true) ∧ Fr (fun _ => False) W w' := by
  go_enter Try.func4, Try.ntmps4
  go_wp2_with fail
  refine (awake_any _).mono ?_
  rintro e w1 ⟨rfl, hf1⟩
  have hr1 : Rd w1 B (ops3 s).flatten := hr.fr hf1 (fun _ _ => id)
  go_wp2_with fail
  refine (few_any hs hr1 hn).mono ?_
  rintro e w2 ⟨b, rfl, hb, rfl⟩
  clear hr1
  cases b with
  | false =>
    clear hb
    go_wp2_with fail
    refine (awake_any _).mono ?_
    rintro e w2 ⟨rfl, hf2⟩
    go_wp2
    go_ret
    exact ⟨rfl, hf1.trans hf2 (fun _ _ h => h)⟩
  | true =>
    have h300 := hb rfl
    clear hb hn
    have hm0 : Blk (w1.alloc (.cells #[.pointer none] 40)) w1.heap.size [.pointer none] 40 := Blk.at_new _ _ _ _ _ rfl rfl
    have f0 := hf1.alloc (.cells #[.pointer none] 40)
    have hmB : W.heap.size ≤ w1.heap.size := hf1.size
    go_wp2_with fail
    generalize w1.alloc (.cells #[.pointer none] 40) = w2 at hm0 f0 ⊢
    generalize w1.heap.size = mb at hm0 hmB ⊢
    clear hf1
    go_loopw [4, 5] (fun lv i wr => ∃ (j : Nat) (q : Option Addr) (t : Tr Int) (A : Option Addr) (c : Nat), i = .int .i64 j ∧ j ≤ n ∧ lv = .slice A t.toL.length c ∧ Blk wr mb [.pointer q] 40 ∧ IsI wr q t ∧ Lst wr A c t.toL ∧ Srt t.toL ∧ t.toL.length ≤ j ∧ (∀ ad, A = some ad → ad.block ≠ mb) ∧ Fr (fun _ => False) W wr) (fun _ i _ => n - (intOf i).toNat)
    case atStart => exact ⟨0, none, .nil, none, 0, rfl, Nat.zero_le _, rfl, hm0, rfl, Lst.nil _, List.Pairwise.nil, Nat.le_refl _, (fun ad h => by cases h), f0⟩
    case round =>
      clear hm0 f0
      obtain ⟨j, q, t, A, c, rfl, hj, rfl, hm, hI, hL, hS, hlen, hA, hf⟩ := hrel
      have hct : t.cnt ≤ 900000 := by rw [Tr.cnt_len]; omega
      by_cases hjn : j < n
      · have hjs : j < s.length := by omega
        have ho := List.getElem?_eq_getElem hjs
        obtain ⟨ad, rfl, c0, c1, c2⟩ := ops3_cells (hr.fr hf (fun _ _ => id)) ho
        have hadW : ad.block < W.heap.size := by
          obtain ⟨ad', e', h0, _⟩ := ops3_cells hr ho
          cases e'
          have := World.block_lt_of_cell? W _ h0
          rwa [add_block] at this
        have hdT := does_toL hS (s[j]'hjs)
        have hdS := does_srt hS (s[j]'hjs)
        have hdl := does_len t.toL (s[j]'hjs)
        have hd8 : Fr (fun _ => False) wr wr.drew := (Fr.refl _ wr).drew
        have hdoes := does_any (hI.new hd8) hct (hL.new hd8) (by omega) (s[j]'hjs)
        rw [← hdT] at hdoes hdS hdl
        have hcell : ∀ w', Fr (fun _ => False) W w' → w'.cell? (ad.add (j * 3)) = some (.int .i64 (s[j]'hjs).kind) ∧ w'.cell? ⟨(ad.add (j * 3)).block, (ad.add (j * 3)).off + 1, none⟩ = some (.string (s[j]'hjs).key) ∧ w'.cell? ⟨(ad.add (j * 3)).block, (ad.add (j * 3)).off + 2, none⟩ = some (.int .i64 (s[j]'hjs).val) := by
          intro w' hfw
          obtain ⟨ad', e', h0, h1, h2⟩ := ops3_cells (hr.fr hfw (fun _ _ => id)) ho
          cases e'
          exact ⟨h0, h1, h2⟩
        clear hdT
        generalize s[j]'hjs = o at c0 c1 c2 hdoes hdS hdl hcell
        obtain ⟨kd, ky, vl⟩ := o
        simp only at hcell hdoes c0 c1 c2
        generalize doesT t ⟨kd, ky, vl⟩ = t' at hdoes hdS hdl
        have i0 : (0 : Int) ≤ (j : Int) := by omega
        have i1 : (j : Int) < (n : Int) := by omega
        have hmW : W.heap.size ≤ mb := hmB
        have hml := hm.lt
        have Hdoes := Lib.hid hdoes
        have Hcell := Lib.hid hcell
        have HA := Lib.hid hA
        have HS := Lib.hid hdS
        have Hlen := Lib.hid hdl
        have Hf := Lib.hid hf
        clear hdoes hcell hA hdS hdl ho hS hI hL hf c0 c1 c2
        have hm1 := hm.drew
        go_upto_region 8 with fail
        go_cut [4] (fun lv W' => ∃ q3 A3 c3, lv = .slice A3 t'.toL.length c3 ∧ Blk W' mb [.pointer q3] 40 ∧ IsI W' q3 t' ∧ Lst W' A3 c3 t'.toL ∧ (∀ ad, A3 = some ad → ad.block ≠ mb) ∧ Fr (fun _ => False) W W')
        case first =>
          obtain ⟨c0, c1, c2⟩ := Hcell.out _ Hf.out.drew
          have km1 := hm1.cell 0 rfl
          go_region_law (first | (go_simp; go_at_call 13; refine Hdoes.out.mono ?_; rintro e w3 ⟨q3, A3, c3, rfl, hI3, hL3, hf3, hA3⟩; have hm3 := hf3.blk hm1 id; have hf3' := Hf.out.drew.trans hf3 (fun _ _ h => h); have km3 := hm3.cell 0 rfl; have kf3 := hm3.free 0))
          all_goals (
            have hne : ∀ ad, A3 = some ad → ad.block ≠ mb := fun ad had => by
              rcases hA3 ad had with h | h
              · exact HA.out ad h
              · have h1 : wr.drew.heap.size = wr.heap.size := rfl
                omega
            have g3 : Fr (fun i => i = mb) w3 (w3.setCell ⟨mb, 0, none⟩ (.pointer q3)) := (Fr.refl _ w3).set1 _ _
            go_wp2
            go_meet
            case rel => exact ⟨q3, A3, c3, rfl, hm3.set 0 _, hI3.fr g3 (fun b cs hb => hb.ne hm3 (by decide)), hL3.fr2 g3 (fun ad had _ hh => hne ad had hh), hne, hf3'.trans g3 (fun i hi hh => by omega)⟩)
        case rest =>
          obtain ⟨q3, A3, c3, rfl, hm3, hI3, hL3, hne, hf3⟩ := hcut
          clear hm hm1 Hdoes HA Hf hd8 hml hct
          have hS3 := HS.out
          have hlen3 := Hlen.out
          have hc3 : t'.cnt ≤ 900000 := by rw [Tr.cnt_len]; omega
          have d9 : Fr (fun _ => False) wc wc.drew := (Fr.refl _ wc).drew
          have hget := mget_any (hI3.new d9) ky
          rw [Tr.get_toL t' ky hS3] at hget
          have hrget := fun W' (hfw : Fr (fun _ => False) wc W') => rget_any (hL3.new hfw) ky (by omega)
          generalize hR : lget t'.toL ky = R at hget hrget
          have hlenfn := fun W' (hfw : Fr (fun _ => False) wc W') => mlenI_any (hI3.new hfw)
          have hisfn := fun W' (hfw : Fr (fun _ => False) wc W') => is_any (hI3.new hfw) hS3 hc3 (hL3.new hfw) ky
          rw [Tr.cnt_len] at hlenfn
          have Hend := Lib.hid (And.intro hI3 (And.intro hL3 (And.intro hS3 (And.intro hlen3 hf3))))
          have G1 := Lib.hid hget
          have G2 := Lib.hid hrget
          have G3 := Lib.hid hlenfn
          have G4 := Lib.hid hisfn
          have HF := Lib.hid hf3
          have L3 : t'.toL.length ≤ 900 := by omega
          clear hR hget hrget hlenfn hisfn hI3 hL3 hS3 hlen3 hf3 HS Hlen hc3
          generalize hLn : t'.toL.length = ln at *
          have HLn := Lib.hid hLn
          clear hLn
          have hm9 := hm3.drew
          go_upto_region 9 with fail
          go_region_held3 (fun w' => w'.cell? ⟨mb, 0, none⟩ = some (.pointer q3) ∧ w'.cell? ⟨(ad.add (j * 3)).block, (ad.add (j * 3)).off + 1, none⟩ = some (.string ky))
            (first | exact ⟨hm9.cell 0 rfl, (Hcell.out _ HF.out.drew).2.1⟩ | exact ⟨(hf4.blk hm9 id).cell 0 rfl, (Hcell.out _ (HF.out.drew.trans hf4 (fun _ _ h => h))).2.1⟩)
            (first
              | (go_at_call 14; refine G1.out.mono ?_; rintro e w4 ⟨rfl, hf4⟩))
          have hm4 := hf4.blk hm9 id
          have g4 := d9.trans hf4 (fun _ _ h => h)
          have k4 := (Hcell.out _ (HF.out.trans g4 (fun _ _ h => h))).2.1
          clear G1 hm9 d9 hf4
          go_upto_region 10 with fail
          go_wp2_with fail
          refine (G2.out _ g4).mono ?_
          rintro e w5 ⟨rfl, rfl⟩
          go_upto_region 11 with fail
          have b1 : (R.getD 0 != R.getD 0) = false := by simp
          have b2 : (R.isSome != R.isSome) = false := by simp
          have b3 : ((ln : Int) != (ln : Int)) = false := by simp
          have hm5 := hm4.drew
          have g5 := g4.drew
          clear k4 hm4 g4
          go_region_held3 (fun w' => w'.cell? ⟨mb, 0, none⟩ = some (.pointer q3) ∧ w'.cell? ⟨(ad.add (j * 3)).block, (ad.add (j * 3)).off + 1, none⟩ = some (.string ky))
            (first | exact ⟨hm5.cell 0 rfl, (Hcell.out _ (HF.out.trans g5 (fun _ _ h => h))).2.1⟩ | exact ⟨hm6.cell 0 rfl, (Hcell.out _ (HF.out.trans g6 (fun _ _ h => h))).2.1⟩ | exact ⟨(hf7.blk hm6 id).cell 0 rfl, (Hcell.out _ ((HF.out.trans g6 (fun _ _ h => h)).trans hf7 (fun _ _ h => h))).2.1⟩)
            (first
              | (go_at_call 16; refine (G3.out _ g5).mono ?_; rintro e w6 ⟨rfl, hf6⟩; have hm6 := hf6.blk hm5 id; have g6 := g5.trans hf6 (fun _ _ h => h))
              | (go_at_call 17; refine (G4.out _ g6).mono ?_; rintro e w7 ⟨rfl, hf7⟩))
          go_wp2
          go_roundw
          case rel =>
            obtain ⟨hI3, hL3, hS3, hlen3, hf3⟩ := Hend.out
            have g7 := g6.trans hf7 (fun _ _ h => h)
            exact ⟨j + 1, q3, t', A3, c3, by go_num, by omega, by rw [HLn.out], g7.blk hm3 id, hI3.new g7, hL3.new g7, hS3, by have := HLn.out; omega, hne, hf3.trans g7 (fun _ _ h => h)⟩
          case measure => simp [intOf]; omega
      · obtain rfl : j = n := by omega
        have k0 := hm.cell 0 rfl
        have C := Lib.hid (is_any hI hS hct hL ⟨#[]⟩)
        clear hI hL hS hlen hA hm
        go_wp2_with fail
        refine C.out.mono ?_
        rintro e w3 ⟨rfl, hf3⟩
        go_wp2
        go_ret
        exact ⟨rfl, hf.trans hf3 (fun _ _ h => h)⟩
end Go.Proofs.Ytkodepdbnkghfaa
