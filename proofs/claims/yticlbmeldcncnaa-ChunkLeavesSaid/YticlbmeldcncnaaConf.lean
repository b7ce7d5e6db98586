/- Check (the program's and the reference's), New, End. Conditions: none but those that each lemma names. -/
import Derived.Test.YticlbmeldcncnaaAddPre
namespace Go.Proofs.Yticlbmeldcncnaa
open Go.RowKit Ch
set_option maxRecDepth 100000 in
theorem check_ok (c0 c1 c2 c3 c4 c5 c6 c7 c8 c9 c10 c11 : Int) (w : World) (h1 : 1 ≤ c8) (h2 : 1 ≤ c9) (h3 : c9 ≤ 65536) (h4 : c8 ≤ c10) (h5 : c10 ≤ 4096) :
    Calls Try.prog 10 #[.agg #[.int .i64 c0, .int .i64 c1, .int .i64 c2, .int .i64 c3, .int .i64 c4, .int .i64 c5, .int .i64 c6, .int .i64 c7, .int .i64 c8, .int .i64 c9, .int .i64 c10, .int .i64 c11]] w fun e w' => e = .returned (.int .i64 0) ∧ w.alloc (.cells #[.int .i64 c0, .int .i64 c1, .int .i64 c2, .int .i64 c3, .int .i64 c4, .int .i64 c5, .int .i64 c6, .int .i64 c7, .int .i64 c8, .int .i64 c9, .int .i64 c10, .int .i64 c11] 23) = w' := by
  go_enter Try.func10, Try.ntmps10
  go_wp2
  go_ret
  exact ⟨rfl, rfl⟩
set_option maxRecDepth 100000 in
theorem check_no (c0 c1 c2 c3 c4 c5 c6 c7 c8 c9 c10 c11 : Int) (w : World) (h : ¬ (1 ≤ c8 ∧ 1 ≤ c9 ∧ c9 ≤ 65536 ∧ c8 ≤ c10 ∧ c10 ≤ 4096)) :
    Calls Try.prog 10 #[.agg #[.int .i64 c0, .int .i64 c1, .int .i64 c2, .int .i64 c3, .int .i64 c4, .int .i64 c5, .int .i64 c6, .int .i64 c7, .int .i64 c8, .int .i64 c9, .int .i64 c10, .int .i64 c11]] w fun e w' => e = .returned (.int .i64 1) ∧ w.alloc (.cells #[.int .i64 c0, .int .i64 c1, .int .i64 c2, .int .i64 c3, .int .i64 c4, .int .i64 c5, .int .i64 c6, .int .i64 c7, .int .i64 c8, .int .i64 c9, .int .i64 c10, .int .i64 c11] 23) = w' := by
  by_cases h1 : 1 ≤ c8
  · by_cases h2 : 1 ≤ c9
    · by_cases h3 : c9 ≤ 65536
      · by_cases h4 : c8 ≤ c10
        · have h5 : 4096 < c10 := by omega
          clear h
          go_enter Try.func10, Try.ntmps10
          go_wp2
          go_ret
          exact ⟨rfl, rfl⟩
        · have h5 : c10 < c8 := by omega
          clear h h4
          go_enter Try.func10, Try.ntmps10
          go_wp2
          go_ret
          exact ⟨rfl, rfl⟩
      · have h5 : 65536 < c9 := by omega
        clear h h3
        go_enter Try.func10, Try.ntmps10
        go_wp2
        go_ret
        exact ⟨rfl, rfl⟩
    · have h5 : c9 < 1 := by omega
      clear h h2
      go_enter Try.func10, Try.ntmps10
      go_wp2
      go_ret
      exact ⟨rfl, rfl⟩
  · have h5 : c8 < 1 := by omega
    clear h h1
    go_enter Try.func10, Try.ntmps10
    go_wp2
    go_ret
    exact ⟨rfl, rfl⟩
set_option maxRecDepth 100000 in
theorem rcheck_ok (c0 c1 c2 c3 c4 c5 c6 c7 c8 c9 c10 c11 : Int) (w : World) (h1 : 1 ≤ c8) (h2 : 1 ≤ c9) (h3 : c9 ≤ 65536) (h4 : c8 ≤ c10) (h5 : c10 ≤ 4096) :
    Calls Try.prog 11 #[.agg #[.int .i64 c0, .int .i64 c1, .int .i64 c2, .int .i64 c3, .int .i64 c4, .int .i64 c5, .int .i64 c6, .int .i64 c7, .int .i64 c8, .int .i64 c9, .int .i64 c10, .int .i64 c11]] w fun e w' => e = .returned (.bool true) ∧ w.alloc (.cells #[.int .i64 c0, .int .i64 c1, .int .i64 c2, .int .i64 c3, .int .i64 c4, .int .i64 c5, .int .i64 c6, .int .i64 c7, .int .i64 c8, .int .i64 c9, .int .i64 c10, .int .i64 c11] 23) = w' := by
  go_enter Try.func11, Try.ntmps11
  go_wp2
  go_ret
  exact ⟨rfl, rfl⟩
set_option maxRecDepth 100000 in
theorem rcheck_no (c0 c1 c2 c3 c4 c5 c6 c7 c8 c9 c10 c11 : Int) (w : World) (h : ¬ (1 ≤ c8 ∧ 1 ≤ c9 ∧ c9 ≤ 65536 ∧ c8 ≤ c10 ∧ c10 ≤ 4096)) :
    Calls Try.prog 11 #[.agg #[.int .i64 c0, .int .i64 c1, .int .i64 c2, .int .i64 c3, .int .i64 c4, .int .i64 c5, .int .i64 c6, .int .i64 c7, .int .i64 c8, .int .i64 c9, .int .i64 c10, .int .i64 c11]] w fun e w' => e = .returned (.bool false) ∧ w.alloc (.cells #[.int .i64 c0, .int .i64 c1, .int .i64 c2, .int .i64 c3, .int .i64 c4, .int .i64 c5, .int .i64 c6, .int .i64 c7, .int .i64 c8, .int .i64 c9, .int .i64 c10, .int .i64 c11] 23) = w' := by
  by_cases h1 : 1 ≤ c8
  · by_cases h2 : 1 ≤ c9
    · by_cases h3 : c9 ≤ 65536
      · by_cases h4 : c8 ≤ c10
        · have h5 : 4096 < c10 := by omega
          clear h
          go_enter Try.func11, Try.ntmps11
          go_wp2
          go_ret
          exact ⟨congrArg (fun b => Ending.returned (Value.bool b)) (decide_eq_false (by omega)), rfl⟩
        · have h5 : c10 < c8 := by omega
          clear h h4
          go_enter Try.func11, Try.ntmps11
          go_wp2
          go_ret
          exact ⟨rfl, rfl⟩
      · have h5 : 65536 < c9 := by omega
        clear h h3
        go_enter Try.func11, Try.ntmps11
        go_wp2
        go_ret
        exact ⟨rfl, rfl⟩
    · have h5 : c9 < 1 := by omega
      clear h h2
      go_enter Try.func11, Try.ntmps11
      go_wp2
      go_ret
      exact ⟨rfl, rfl⟩
  · have h5 : c8 < 1 := by omega
    clear h h1
    go_enter Try.func11, Try.ntmps11
    go_wp2
    go_ret
    exact ⟨rfl, rfl⟩
def pw : Nat → Int
  | 0 => 1
  | n + 1 => pw n * 31 % 4294967296
theorem pw15 : pw 15 = 3784433119 := by decide
theorem pw_range (n : Nat) : 0 ≤ pw n ∧ pw n < 4294967296 := by
  cases n with
  | zero => decide
  | succ n => unfold pw; omega
theorem set30 {cf ring : List Int} {a b c d : Value} (h12 : cf.length = 12) (h16 : ring.length = 16) (v : Value) :
    (i64s cf ++ (u8s ring ++ [a, b, c, d])).set 30 v = i64s cf ++ (u8s ring ++ [a, b, v, d]) := by
  have l1 : (i64s cf).length = 12 := by simp [i64s, h12]
  have l2 : (u8s ring).length = 16 := by simp [u8s, h16]
  rw [List.set_append_right _ _ (by omega), List.set_append_right _ _ (by omega), l1, l2]; rfl
set_option maxHeartbeats 400000 in
set_option maxRecDepth 100000 in
theorem new_ok (c0 c1 c2 c3 c4 c5 c6 c7 c8 c9 c10 c11 : Int) (w : World) (h1 : 1 ≤ c8) (h2 : 1 ≤ c9) (h3 : c9 ≤ 65536) (h4 : c8 ≤ c10) (h5 : c10 ≤ 4096) :
    Calls Try.prog 15 #[.agg #[.int .i64 c0, .int .i64 c1, .int .i64 c2, .int .i64 c3, .int .i64 c4, .int .i64 c5, .int .i64 c6, .int .i64 c7, .int .i64 c8, .int .i64 c9, .int .i64 c10, .int .i64 c11]] w fun e w' => ∃ kb, e = .returned (.tuple #[.pointer (some ⟨kb, 0, none⟩), .int .i64 0]) ∧ CutB w' kb [c0, c1, c2, c3, c4, c5, c6, c7, c8, c9, c10, c11] [] (.slice none 0 0) ∧ Fr (fun _ => False) w w' ∧ w.heap.size ≤ kb := by
  go_enter Try.func15, Try.ntmps15
  go_wp2_with (go_at_call 10; refine (check_ok c0 c1 c2 c3 c4 c5 c6 c7 c8 c9 c10 c11 _ h1 h2 h3 h4 h5).mono ?_; rintro e w1 ⟨rfl, rfl⟩)
  go_loopw [14] (fun i wr => ∃ k : Nat, k ≤ 15 ∧ i = .int .i64 k ∧ Blk wr (w.heap.size + 1 + 1) (i64s [c0, c1, c2, c3, c4, c5, c6, c7, c8, c9, c10, c11] ++ (u8s (List.replicate 16 0) ++ [.int .i64 0, .int .u32 0, .int .u32 (pw k), .slice none 0 0])) 54 ∧ Fr (fun _ => False) w wr) (fun i _ => 15 - (intOf i).toNat)
  case atStart => exact ⟨0, by omega, rfl, Blk.at_new _ _ _ _ _ (by simp) rfl, (((Fr.refl _ w).alloc _).alloc _).alloc _⟩
  case round =>
    obtain ⟨k, hk, rfl, hB, hF⟩ := hrel
    have hl : w.heap.size + 1 + 1 < wr.heap.size := hB.lt
    obtain ⟨hp0, hp1⟩ := pw_range k
    have hpw : Hid (pw (k + 1) = pw k * 31 % 4294967296) := rfl
    generalize hpe : pw k = p at hB hp0 hp1 hpw
    have Hpe := Lib.hid hpe
    clear hpe
    have k30 : wr.cell? ⟨w.heap.size + 1 + 1, 30, none⟩ = some (.int .u32 p) := hB.cell 30 rfl
    have j30 := hB.free 30
    by_cases hlt : k < 15
    · go_wp2
      go_roundw
      case rel =>
        refine ⟨k + 1, by omega, by go_num, ?_, hF.setCell _ _ (fun h => by simp only at h; omega)⟩
        have := hB.set 30 (.int .u32 (pw (k + 1)))
        rw [set30 rfl rfl] at this
        rw [hpw.out] at this ⊢
        exact this
      case measure => simp [intOf]; omega
    · obtain rfl : k = 15 := by omega
      go_wp2
      go_ret2
      refine ⟨w.heap.size + 1 + 1, rfl, ⟨List.replicate 16 0, ⟨rfl, by decide, fun p hp => by simp at hp⟩, rfl, ?_⟩, hF, by omega⟩
      rw [← Hpe.out, pw15] at hB
      exact hB
/-- New of a conf that may not be. -/
theorem new_no (c0 c1 c2 c3 c4 c5 c6 c7 c8 c9 c10 c11 : Int) (w : World) (h : ¬ (1 ≤ c8 ∧ 1 ≤ c9 ∧ c9 ≤ 65536 ∧ c8 ≤ c10 ∧ c10 ≤ 4096)) :
    Calls Try.prog 15 #[.agg #[.int .i64 c0, .int .i64 c1, .int .i64 c2, .int .i64 c3, .int .i64 c4, .int .i64 c5, .int .i64 c6, .int .i64 c7, .int .i64 c8, .int .i64 c9, .int .i64 c10, .int .i64 c11]] w fun e w' => e = .returned (.tuple #[.pointer none, .int .i64 1]) ∧ Fr (fun _ => False) w w' := by
  go_enter Try.func15, Try.ntmps15
  go_wp2_with (go_at_call 10; refine (check_no c0 c1 c2 c3 c4 c5 c6 c7 c8 c9 c10 c11 _ h).mono ?_; rintro e w1 ⟨rfl, rfl⟩)
  go_ret2
  exact ⟨rfl, ((Fr.refl _ w).alloc _).alloc _⟩
/-- End. -/
theorem end_any (kb : Nat) (cf h : List Int) (ov : Value) (w : World) (hC : CutB w kb cf h ov) :
    Calls Try.prog 17 #[.pointer (some ⟨kb, 0, none⟩)] w fun e w' => e = .returned ov ∧ CutB w' kb cf [] (.slice none 0 0) ∧ Fr (fun k => k = kb) w w' := by
  have hC0 := hC
  obtain ⟨ring, hR, h12, hB⟩ := hC
  have k31 := hC0.opn
  have hca := cells_at (a := .int .i64 h.length) (b := .int .u32 (hs h)) (c := .int .u32 3784433119) (d := ov) h12 hR.1 0
  have k28 := hB.cell 28 hca.2.1
  have k29 := hC0.sum
  have j31 := hC0.free 31
  have j28 := hC0.free 28
  have j29 := hC0.free 29
  go_enter Try.func17, Try.ntmps17
  go_wp2
  go_ret
  refine ⟨rfl, ⟨ring, hR.nil, h12, ?_⟩, (((Fr.refl _ w).set1 _ _).set1 _ _).set1 _ _⟩
  have := ((hB.set 31 (.slice none 0 0)).set 28 (.int .i64 0)).set 29 (.int .u32 0)
  rw [(cells_set h12 hR.1 _).2.2.1, (cells_set h12 hR.1 _).1, (cells_set h12 hR.1 _).2.1] at this
  exact this
theorem end_nil (w : World) : Calls Try.prog 17 #[.pointer none] w fun e w' => e = .returned (.slice none 0 0) ∧ w = w' := by
  go_enter Try.func17, Try.ntmps17
  go_wp2
  go_ret
  exact ⟨rfl, rfl⟩
theorem add_nil (v : Value) (w : World) : Calls Try.prog 16 #[.pointer none, v] w fun e w' => e = .returned (.slice none 0 0) ∧ w = w' := by
  go_enter Try.func16, Try.ntmps16
  go_wp2
  go_ret
  exact ⟨rfl, rfl⟩
end Go.Proofs.Yticlbmeldcncnaa
