/- The law SchedNil, walked: where there is a scheduler. Conditions: those of the lemmas. -/
import Derived.Test.YtlljfopacdnpbaaNil
namespace Go.Proofs.Ytlljfopacdnpbaa
open Go.RowKit
set_option maxHeartbeats 4000000 in
set_option maxRecDepth 100000 in
theorem nil_yes (n : Nat) (slot : Int) (w : World) (h1 : 1 ≤ n) (h16 : n ≤ 16) : Calls Try.prog 7 #[.int .i64 (n : Int), .int .i64 slot] w fun e w' => e = .returned (.bool true) ∧ Fr (fun _ => False) w w' := by
  have hs := snew_ok n h1 h16 w
  have n1 : (1 : Int) ≤ (n : Int) := by omega
  have n2 : (n : Int) ≤ 16 := by omega
  go_enter Try.func7, Try.ntmps7
  go_wp2_with fail
  refine hs.mono ?_
  rintro e w1 ⟨sb, tb, rfl, hS, hf1, hb1, hb2, hne⟩
  have f2 : Fr (fun _ => False) w1 (w1.alloc (.cells #[.func (.func 38) #[] #[], .pointer none] 53)) := (Fr.refl _ w1).alloc _
  have b2 : Blk (w1.alloc (.cells #[.func (.func 38) #[] #[], .pointer none] 53)) w1.heap.size [.func (.func 38) #[] #[], .pointer none] 53 := Blk.at_new _ _ _ _ _ rfl rfl
  have hS2 := hS.fr f2 id id
  have htb := hS.tsk.lt
  clear hS hs
  go_wp2_with fail
  refine (storeI_nil _ _).mono ?_
  rintro e w' ⟨rfl, rfl⟩
  go_wp2_with fail
  refine (drop_nil _ slot).mono ?_
  rintro e w' ⟨rfl, rfl⟩
  go_wp2_with fail
  refine (pick_nil _ _).mono ?_
  rintro e w' ⟨rfl, rfl⟩
  go_upto_if 57 with fail
  generalize w1.alloc (.cells #[.func (.func 38) #[] #[], .pointer none] 53) = w2 at f2 b2 hS2 ⊢
  generalize w1.heap.size = nb at b2 htb ⊢
  have d0 := b2.cell 0 rfl
  have d1 := b2.cell 1 rfl
  have f12 := hf1.trans f2 (fun _ _ h => h)
  clear f2 hf1
  go_cut [13] (fun _ W => Fr (fun _ => False) w W ∧ Blk W nb [.func (.func 38) #[] #[], .pointer none] 53)
  case first =>
    by_cases hsl : 0 ≤ slot ∧ slot < (n : Int)
    · obtain ⟨k, hk⟩ : ∃ k : Nat, slot = k := ⟨slot.toNat, by omega⟩
      obtain ⟨s1, s2⟩ := hsl
      have hTk : (List.replicate n (Value.nilFunc, Value.pointer none))[k]? = some (Value.nilFunc, Value.pointer none) := by rw [List.getElem?_replicate, if_pos (by omega)]
      have hput := put_in hS2 hTk (.func 38) #[] #[] (.pointer none) ⟨none, rfl⟩
      simp only [isF, Bool.false_eq_true, if_false] at hput
      rw [← hk] at hput
      have HP := Lib.hid hput
      have Hk := Lib.hid hk
      have hkn : k < n := by omega
      clear hput hS2 hk
      go_wp2_with fail
      refine HP.out.mono ?_
      rintro e w3 ⟨rfl, hS3, hf3⟩
      have b3 := hf3.blk b2 (fun hh => by omega)
      have f13 : Fr (fun _ => False) w w3 := f12.trans hf3 (fun q hq hh => by omega)
      have hal := alive_in hS3 (k := k) (p := (.func (.func 38) #[] #[], .pointer none)) (List.getElem?_set_self (by simp; omega))
      simp only [isF] at hal
      rw [← Hk.out] at hal
      have hpn := put_none hS3 slot (.pointer none)
      clear HP d0 d1 b2 f12 hf3 hTk
      go_wp2_with fail
      refine hal.mono ?_
      rintro e w' ⟨rfl, rfl⟩
      go_wp2_with fail
      refine hpn.mono ?_
      rintro e w4 ⟨rfl, hf4⟩
      have b4 := hf4.blk b3 id
      have f14 := f13.trans hf4 (fun _ _ h => h)
      clear hS3 hal hpn b3 f13 hf4
      go_wp2
      go_meet
      case rel => exact ⟨f14, b4⟩
    · have ho : slot < 0 ∨ ((List.replicate n (Value.nilFunc, Value.pointer none)).length : Int) ≤ slot := by simp only [List.length_replicate]; omega
      have HP := Lib.hid (put_out hS2 slot ho (.func (.func 38) #[] #[]) (.pointer none))
      go_wp2_with fail
      refine HP.out.mono ?_
      rintro e w3 ⟨rfl, hf3⟩
      have hS3 := hS2.fr hf3 id id
      have b3 := hf3.blk b2 id
      have f13 : Fr (fun _ => False) w w3 := f12.trans hf3 (fun _ _ h => h)
      have hal := alive_out hS3 slot ho
      have hpn := put_none hS3 slot (.pointer none)
      clear HP d0 d1 b2 f12 hf3 hS2 ho
      by_cases h0 : 0 ≤ slot
      · have h0' : ¬ slot < (n : Int) := by omega
        clear hsl
        go_wp2_with fail
        refine hal.mono ?_
        rintro e w' ⟨rfl, rfl⟩
        go_wp2_with fail
        refine hpn.mono ?_
        rintro e w4 ⟨rfl, hf4⟩
        have b4 := hf4.blk b3 id
        have f14 := f13.trans hf4 (fun _ _ h => h)
        clear hS3 hal hpn b3 f13 hf4
        go_wp2
        go_meet
        case rel => exact ⟨f14, b4⟩
      · clear hsl
        go_wp2_with fail
        refine hal.mono ?_
        rintro e w' ⟨rfl, rfl⟩
        go_wp2_with fail
        refine hpn.mono ?_
        rintro e w4 ⟨rfl, hf4⟩
        have b4 := hf4.blk b3 id
        have f14 := f13.trans hf4 (fun _ _ h => h)
        clear hS3 hal hpn b3 f13 hf4
        go_wp2
        go_meet
        case rel => exact ⟨f14, b4⟩
  case rest =>
    obtain ⟨f14, b4⟩ := hcut
    have d0 := b4.cell 0 rfl
    have d1 := b4.cell 1 rfl
    clear hS2 f12 b2
    go_wp2_with fail
    refine (awake_any _).mono ?_
    rintro e w9 ⟨rfl, hf9⟩
    have HFR := Lib.hid (f14.trans hf9 (fun _ _ h => h))
    have hb9 := hf9.blk b4 id
    clear d0 d1
    have d0 := hb9.cell 0 rfl
    have d1 := hb9.cell 1 rfl
    clear hf9 hb9 f14 b4
    go_wp2_with fail
    refine (loadI_nil _).mono ?_
    rintro e w' ⟨rfl, rfl⟩
    go_wp2_with fail
    refine (swapI_nil _ _ _).mono ?_
    rintro e w' ⟨rfl, rfl⟩
    go_wp2_with fail
    refine (setsI_nil _).mono ?_
    rintro e w' ⟨rfl, rfl⟩
    go_wp2_with fail
    refine (holder_any (muNone _)).mono ?_
    rintro e w' ⟨rfl, rfl⟩
    simp only [Option.getD_none]
    go_wp2_with fail
    refine (mfree_no (muNone _) slot (by simp)).mono ?_
    rintro e w' ⟨rfl, rfl⟩
    go_wp2_with fail
    refine (put_nil _ slot _ _).mono ?_
    rintro e w10 ⟨rfl, hf10⟩
    have HFR2 := Lib.hid (HFR.out.trans hf10 (fun _ _ h => h))
    clear hf10 HFR
    go_wp2_with fail
    refine (alive_nil _ slot).mono ?_
    rintro e w' ⟨rfl, rfl⟩
    go_wp2_with fail
    refine (ready_nil _ slot).mono ?_
    rintro e w' ⟨rfl, rfl⟩
    go_wp2_with fail
    refine (step_nil _ slot).mono ?_
    rintro e w' ⟨rfl, rfl⟩
    go_wp2_with fail
    refine (ssteps_nil _).mono ?_
    rintro e w' ⟨rfl, rfl⟩
    go_wp2
    go_ret
    exact ⟨rfl, HFR2.out⟩
theorem nil_any (n slot : Int) (w : World) : Calls Try.prog 7 #[.int .i64 n, .int .i64 slot] w fun e w' => e = .returned (.bool true) ∧ Fr (fun _ => False) w w' := by
  by_cases h1 : 1 ≤ n
  · by_cases h2 : n ≤ 16
    · obtain ⟨k, rfl⟩ : ∃ k : Nat, n = k := ⟨n.toNat, by omega⟩
      exact nil_yes k slot w (by omega) (by omega)
    · exact nil_no n slot w (.inr (by omega))
  · exact nil_no n slot w (.inl (by omega))
end Go.Proofs.Ytlljfopacdnpbaa
