/- The law EpochNil, walked. Conditions: those of the lemmas. -/
import Derived.Test.YtolkoagjompjjaaAwake
import Derived.Test.YtolkoagjompjjaaBookNI
namespace Go.Proofs.Ytolkoagjompjjaa
open Go.RowKit
theorem now_nil (w : World) : Calls Try.prog 26 #[.pointer none] w fun e w' => e = .returned (.int .i64 0) ∧ w = w' := by
  go_enter Try.func26, Try.ntmps26
  go_wp2
  go_ret
  exact ⟨rfl, rfl⟩
theorem enter_nil (a b : Int) (w : World) : Calls Try.prog 28 #[.pointer none, .int .i64 a, .int .i64 b] w fun e w' => e = .returned (.int .i64 1) ∧ w = w' := by
  go_enter Try.func28, Try.ntmps28
  go_wp2
  go_ret
  exact ⟨rfl, rfl⟩
theorem leave_nil (a : Int) (w : World) : Calls Try.prog 29 #[.pointer none, .int .i64 a] w fun e w' => e = .returned (.int .i64 1) ∧ w = w' := by
  go_enter Try.func29, Try.ntmps29
  go_wp2
  go_ret
  exact ⟨rfl, rfl⟩
theorem retire_nil (v : Value) (w : World) : Calls Try.prog 24 #[.pointer none, v] w fun e w' => e = .returned (.int .i64 1) ∧ w = w' := by
  go_enter Try.func24, Try.ntmps24
  go_wp2
  go_ret
  exact ⟨rfl, rfl⟩
theorem free_nil (w : World) : Calls Try.prog 25 #[.pointer none] w fun e w' => e = .returned (.slice none 0 0) ∧ w = w' := by
  go_enter Try.func25, Try.ntmps25
  go_wp2
  go_ret
  exact ⟨rfl, rfl⟩
theorem held_nil (w : World) : Calls Try.prog 27 #[.pointer none] w fun e w' => e = .returned (.int .i64 0) ∧ w = w' := by
  go_enter Try.func27, Try.ntmps27
  go_wp2
  go_ret
  exact ⟨rfl, rfl⟩
theorem readers_nil (w : World) : Calls Try.prog 30 #[.pointer none] w fun e w' => e = .returned (.int .i64 0) ∧ w = w' := by
  go_enter Try.func30, Try.ntmps30
  go_wp2
  go_ret
  exact ⟨rfl, rfl⟩
set_option maxHeartbeats 1000000 in
set_option maxRecDepth 100000 in
theorem nil_any (n slot at_ : Int) (w : World) : Calls Try.prog 6 #[.int .i64 n, .int .i64 slot, .int .i64 at_] w fun e w' => e = .returned (.bool true) ∧ Fr (fun _ => False) w w' := by
  by_cases hn : 1 ≤ n ∧ n ≤ 16
  · obtain ⟨h1, h2⟩ := hn
    have hnew := newI_ok n.toNat (by omega) (by omega) w
    rw [show ((n.toNat : Nat) : Int) = n by omega] at hnew
    go_enter Try.func6, Try.ntmps6
    go_wp2_with fail
    refine hnew.mono ?_
    clear hnew
    rintro e w1 ⟨b, sv, rfl, hB, hf, hb, hs⟩
    go_wp2_with (first | (go_at_call 9; refine (awake_any _).mono ?_; rintro e w2 ⟨rfl, hf2⟩) | (go_at_call 26; refine (now_nil _).mono ?_; rintro e w3 ⟨rfl, rfl⟩) | (go_at_call 28; refine (enter_nil _ _ _).mono ?_; rintro e w3 ⟨rfl, rfl⟩) | (go_at_call 29; refine (leave_nil _ _).mono ?_; rintro e w3 ⟨rfl, rfl⟩) | (go_at_call 24; refine (retire_nil _ _).mono ?_; rintro e w3 ⟨rfl, rfl⟩) | (go_at_call 25; refine (free_nil _).mono ?_; rintro e w3 ⟨rfl, rfl⟩) | (go_at_call 27; refine (held_nil _).mono ?_; rintro e w3 ⟨rfl, rfl⟩) | (go_at_call 30; refine (readers_nil _).mono ?_; rintro e w3 ⟨rfl, rfl⟩))
    go_ret
    exact ⟨rfl, (hf.trans hf2 (fun _ _ h => h)).alloc _⟩
  · go_enter Try.func6, Try.ntmps6
    go_wp2_with fail
    refine (newI_no n (by omega) w).mono ?_
    rintro e w1 ⟨rfl, rfl⟩
    by_cases h1 : 1 ≤ n
    · have h2 : ¬ n ≤ 16 := by omega
      go_wp2_with (first | (go_at_call 9; refine (awake_any _).mono ?_; rintro e w2 ⟨rfl, hf2⟩) | (go_at_call 26; refine (now_nil _).mono ?_; rintro e w3 ⟨rfl, rfl⟩) | (go_at_call 28; refine (enter_nil _ _ _).mono ?_; rintro e w3 ⟨rfl, rfl⟩) | (go_at_call 29; refine (leave_nil _ _).mono ?_; rintro e w3 ⟨rfl, rfl⟩) | (go_at_call 24; refine (retire_nil _ _).mono ?_; rintro e w3 ⟨rfl, rfl⟩) | (go_at_call 25; refine (free_nil _).mono ?_; rintro e w3 ⟨rfl, rfl⟩) | (go_at_call 27; refine (held_nil _).mono ?_; rintro e w3 ⟨rfl, rfl⟩) | (go_at_call 30; refine (readers_nil _).mono ?_; rintro e w3 ⟨rfl, rfl⟩))
      go_ret
      exact ⟨rfl, hf2.alloc _⟩
    · go_wp2_with (first | (go_at_call 9; refine (awake_any _).mono ?_; rintro e w2 ⟨rfl, hf2⟩) | (go_at_call 26; refine (now_nil _).mono ?_; rintro e w3 ⟨rfl, rfl⟩) | (go_at_call 28; refine (enter_nil _ _ _).mono ?_; rintro e w3 ⟨rfl, rfl⟩) | (go_at_call 29; refine (leave_nil _ _).mono ?_; rintro e w3 ⟨rfl, rfl⟩) | (go_at_call 24; refine (retire_nil _ _).mono ?_; rintro e w3 ⟨rfl, rfl⟩) | (go_at_call 25; refine (free_nil _).mono ?_; rintro e w3 ⟨rfl, rfl⟩) | (go_at_call 27; refine (held_nil _).mono ?_; rintro e w3 ⟨rfl, rfl⟩) | (go_at_call 30; refine (readers_nil _).mono ?_; rintro e w3 ⟨rfl, rfl⟩))
      go_ret
      exact ⟨rfl, hf2.alloc _⟩
end Go.Proofs.Ytolkoagjompjjaa
