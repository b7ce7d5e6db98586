/- The law SchedNil, walked. Conditions: those of the lemmas. -/
import Derived.Test.YtlljfopacdnpbaaAwake
namespace Go.Proofs.Ytlljfopacdnpbaa
open Go.RowKit
set_option maxHeartbeats 4000000 in
set_option maxRecDepth 100000 in
theorem nil_no (n slot : Int) (w : World) (h : n < 1 ∨ 16 < n) : Calls Try.prog 7 #[.int .i64 n, .int .i64 slot] w fun e w' => e = .returned (.bool true) ∧ Fr (fun _ => False) w w' := by
  have f1 : Fr (fun _ => False) w (w.alloc (.cells #[.func (.func 38) #[] #[], .pointer none] 53)) := (Fr.refl _ w).alloc _
  have b1 : Blk (w.alloc (.cells #[.func (.func 38) #[] #[], .pointer none] 53)) w.heap.size [.func (.func 38) #[] #[], .pointer none] 53 := Blk.at_new _ _ _ _ _ rfl rfl
  have hs := snew_no n h w
  have t1 : (decide (1 ≤ n) && decide (n ≤ 16)) = false := by
    rcases h with h | h
    · rw [decide_eq_false (by omega)]; rfl
    · rw [decide_eq_false (p := n ≤ 16) (by omega), Bool.and_false]
  by_cases h1 : 1 ≤ n
  · have h2 : ¬ n ≤ 16 := by omega
    clear h t1
    go_enter Try.func7, Try.ntmps7
    go_wp2_with fail
    refine hs.mono ?_
    rintro e w' ⟨rfl, rfl⟩
    go_wp2_with fail
    refine (storeI_nil _ _).mono ?_
    rintro e w' ⟨rfl, rfl⟩
    go_wp2_with fail
    refine (drop_nil _ slot).mono ?_
    rintro e w' ⟨rfl, rfl⟩
    go_wp2_with fail
    refine (pick_nil _ _).mono ?_
    rintro e w' ⟨rfl, rfl⟩
    go_wp2_with fail
    refine (awake_any _).mono ?_
    rintro e w9 ⟨rfl, hf9⟩
    have HFR := Lib.hid (f1.trans hf9 (fun _ _ h => h))
    have hb9 := hf9.blk b1 id
    have d0 := hb9.cell 0 rfl
    have d1 := hb9.cell 1 rfl
    clear hf9 hb9 f1 b1
    go_wp2_with fail
    refine (loadI_nil _).mono ?_
    rintro e w' ⟨rfl, rfl⟩
    go_wp2_with fail
    refine (swapI_nil _ _ _).mono ?_
    rintro e w' ⟨rfl, rfl⟩
    go_wp2_with fail
    refine (setsI_nil _).mono ?_
    rintro e w' ⟨rfl, rfl⟩
    go_wp2_with fail
    refine (holder_any (muNone _)).mono ?_
    rintro e w' ⟨rfl, rfl⟩
    simp only [Option.getD_none]
    go_wp2_with fail
    refine (mfree_no (muNone _) slot (by simp)).mono ?_
    rintro e w' ⟨rfl, rfl⟩
    go_wp2_with fail
    refine (put_nil _ slot _ _).mono ?_
    rintro e w10 ⟨rfl, hf10⟩
    have HFR2 := Lib.hid (HFR.out.trans hf10 (fun _ _ h => h))
    clear hf10 HFR
    go_wp2_with fail
    refine (alive_nil _ slot).mono ?_
    rintro e w' ⟨rfl, rfl⟩
    go_wp2_with fail
    refine (ready_nil _ slot).mono ?_
    rintro e w' ⟨rfl, rfl⟩
    go_wp2_with fail
    refine (step_nil _ slot).mono ?_
    rintro e w' ⟨rfl, rfl⟩
    go_wp2_with fail
    refine (ssteps_nil _).mono ?_
    rintro e w' ⟨rfl, rfl⟩
    go_wp2
    go_ret
    exact ⟨rfl, HFR2.out⟩
  · clear h t1
    go_enter Try.func7, Try.ntmps7
    go_wp2_with fail
    refine hs.mono ?_
    rintro e w' ⟨rfl, rfl⟩
    go_wp2_with fail
    refine (storeI_nil _ _).mono ?_
    rintro e w' ⟨rfl, rfl⟩
    go_wp2_with fail
    refine (drop_nil _ slot).mono ?_
    rintro e w' ⟨rfl, rfl⟩
    go_wp2_with fail
    refine (pick_nil _ _).mono ?_
    rintro e w' ⟨rfl, rfl⟩
    go_wp2_with fail
    refine (awake_any _).mono ?_
    rintro e w9 ⟨rfl, hf9⟩
    have HFR := Lib.hid (f1.trans hf9 (fun _ _ h => h))
    have hb9 := hf9.blk b1 id
    have d0 := hb9.cell 0 rfl
    have d1 := hb9.cell 1 rfl
    clear hf9 hb9 f1 b1
    go_wp2_with fail
    refine (loadI_nil _).mono ?_
    rintro e w' ⟨rfl, rfl⟩
    go_wp2_with fail
    refine (swapI_nil _ _ _).mono ?_
    rintro e w' ⟨rfl, rfl⟩
    go_wp2_with fail
    refine (setsI_nil _).mono ?_
    rintro e w' ⟨rfl, rfl⟩
    go_wp2_with fail
    refine (holder_any (muNone _)).mono ?_
    rintro e w' ⟨rfl, rfl⟩
    simp only [Option.getD_none]
    go_wp2_with fail
    refine (mfree_no (muNone _) slot (by simp)).mono ?_
    rintro e w' ⟨rfl, rfl⟩
    go_wp2_with fail
    refine (put_nil _ slot _ _).mono ?_
    rintro e w10 ⟨rfl, hf10⟩
    have HFR2 := Lib.hid (HFR.out.trans hf10 (fun _ _ h => h))
    clear hf10 HFR
    go_wp2_with fail
    refine (alive_nil _ slot).mono ?_
    rintro e w' ⟨rfl, rfl⟩
    go_wp2_with fail
    refine (ready_nil _ slot).mono ?_
    rintro e w' ⟨rfl, rfl⟩
    go_wp2_with fail
    refine (step_nil _ slot).mono ?_
    rintro e w' ⟨rfl, rfl⟩
    go_wp2_with fail
    refine (ssteps_nil _).mono ?_
    rintro e w' ⟨rfl, rfl⟩
    go_wp2
    go_ret
    exact ⟨rfl, HFR2.out⟩
end Go.Proofs.Ytlljfopacdnpbaa
