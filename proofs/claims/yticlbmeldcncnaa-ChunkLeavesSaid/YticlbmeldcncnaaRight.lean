/- right: a conf that may be. Conditions: the numbers are int64s. -/
import Derived.Test.YticlbmeldcncnaaBase
namespace Go.Proofs.Yticlbmeldcncnaa
open Go.RowKit
theorem tm_range (x : Int) (n : Int) (hn : 0 < n) : 0 ≤ (IntKind.u64.wrap x).tmod n ∧ (IntKind.u64.wrap x).tmod n < n :=
  ⟨Int.tmod_nonneg _ (wrap_u64_nonneg x), Int.tmod_lt_of_pos _ hn⟩
set_option maxHeartbeats 400000 in
set_option maxRecDepth 100000 in
theorem right_any (c0 c1 c2 c3 c4 c5 c6 c7 c8 c9 c10 c11 : Int) (w : World) :
    Calls Try.prog 14 #[.agg #[.int .i64 c0, .int .i64 c1, .int .i64 c2, .int .i64 c3, .int .i64 c4, .int .i64 c5, .int .i64 c6, .int .i64 c7, .int .i64 c8, .int .i64 c9, .int .i64 c10, .int .i64 c11]] w fun e w' => ∃ d8 d9 d10 : Int, e = .returned (.agg #[.int .i64 c0, .int .i64 c1, .int .i64 c2, .int .i64 c3, .int .i64 c4, .int .i64 c5, .int .i64 c6, .int .i64 c7, .int .i64 d8, .int .i64 d9, .int .i64 d10, .int .i64 c11]) ∧
      1 ≤ d8 ∧ d8 ≤ 64 ∧ 1 ≤ d9 ∧ d9 ≤ 256 ∧ d8 ≤ d10 ∧ d10 ≤ d8 + 511 ∧ Fr (fun _ => False) w w' := by
  go_enter Try.func14, Try.ntmps14
  go_wp2
  refine bodyPost_ret (v := .agg #[.int .i64 c0, .int .i64 c1, .int .i64 c2, .int .i64 c3, .int .i64 c4, .int .i64 c5, .int .i64 c6, .int .i64 c7, .int .i64 (wrap64 (1 + wrap64 ((IntKind.u64.wrap c8).tmod 64))), .int .i64 (wrap64 (1 + wrap64 ((IntKind.u64.wrap c9).tmod 256))), .int .i64 (wrap64 (wrap64 (1 + wrap64 ((IntKind.u64.wrap c8).tmod 64)) + wrap64 ((IntKind.u64.wrap c10).tmod 512))), .int .i64 c11]) (by simp [results, Try.results14, go_sem]) rfl ⟨_, _, _, rfl, ?_⟩
  have h8 := tm_range c8 64 (by decide)
  have h9 := tm_range c9 256 (by decide)
  have h10 := tm_range c10 512 (by decide)
  generalize (IntKind.u64.wrap c8).tmod 64 = r8 at h8
  generalize (IntKind.u64.wrap c9).tmod 256 = r9 at h9
  generalize (IntKind.u64.wrap c10).tmod 512 = r10 at h10
  have e1 : wrap64 r8 = r8 := by unfold wrap64; omega
  have e2 : wrap64 r9 = r9 := by unfold wrap64; omega
  have e3 : wrap64 r10 = r10 := by unfold wrap64; omega
  rw [e1, e2, e3]
  have f1 : wrap64 (1 + r8) = 1 + r8 := by unfold wrap64; omega
  have f2 : wrap64 (1 + r9) = 1 + r9 := by unfold wrap64; omega
  rw [f1, f2]
  have f3 : wrap64 (1 + r8 + r10) = 1 + r8 + r10 := by unfold wrap64; omega
  rw [f3]
  exact ⟨by omega, by omega, by omega, by omega, by omega, by omega, ((Fr.refl _ w).alloc _).alloc _⟩
end Go.Proofs.Yticlbmeldcncnaa
