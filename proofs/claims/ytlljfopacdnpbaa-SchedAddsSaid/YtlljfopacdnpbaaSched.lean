/- Mutexes; a scheduler's small calls. Conditions: those of the lemmas. -/
import Derived.Test.YtlljfopacdnpbaaSPre
namespace Go.Proofs.Ytlljfopacdnpbaa
open Go.RowKit
theorem newMutex_any (W : World) : Calls Try.prog 17 #[] W fun e w' => ∃ b, e = .returned (.pointer (some ⟨b, 0, none⟩)) ∧ Blk w' b [.bool false, .int .i64 0] 83 ∧ Fr (fun _ => False) W w' ∧ W.heap.size ≤ b := by
  go_enter Try.func17, Try.ntmps17
  go_wp2
  go_ret
  exact ⟨_, rfl, Blk.at_new _ _ _ _ _ rfl rfl, (Fr.refl _ W).alloc _, Nat.le_refl _⟩
theorem holder_any {W : World} {mp : Value} {h : Option Int} (hm : MuV W mp h) : Calls Try.prog 23 #[mp] W fun e w' => e = .returned (.int .i64 (h.getD (-1))) ∧ W = w' := by
  rcases hm with ⟨rfl, rfl⟩ | ⟨mb, s, rfl, hb, hs⟩
  · go_enter Try.func23, Try.ntmps23
    go_wp2
    go_ret
    exact ⟨rfl, rfl⟩
  · have k0 := hb.cell 0 rfl
    have k1 := hb.cell 1 rfl
    rcases h with _ | x
    · simp only [Option.isSome_none] at k0
      go_enter Try.func23, Try.ntmps23
      go_wp2
      go_ret
      exact ⟨rfl, rfl⟩
    · obtain rfl := hs x rfl
      simp only [Option.isSome_some] at k0
      go_enter Try.func23, Try.ntmps23
      go_wp2
      go_ret
      exact ⟨rfl, rfl⟩
theorem mfree_no {W : World} {mp : Value} {h : Option Int} (hm : MuV W mp h) (sl : Int) (hne : h ≠ some sl) : Calls Try.prog 24 #[mp, .int .i64 sl] W fun e w' => e = .returned (.int .i64 11) ∧ W = w' := by
  rcases hm with ⟨rfl, rfl⟩ | ⟨mb, s, rfl, hb, hs⟩
  · go_enter Try.func24, Try.ntmps24
    go_wp2
    go_ret
    exact ⟨rfl, rfl⟩
  · have k0 := hb.cell 0 rfl
    have k1 := hb.cell 1 rfl
    rcases h with _ | x
    · simp only [Option.isSome_none] at k0
      go_enter Try.func24, Try.ntmps24
      go_wp2
      go_ret
      exact ⟨rfl, rfl⟩
    · obtain rfl := hs x rfl
      simp only [Option.isSome_some] at k0
      have hne2 : ¬ s = sl := fun e => hne (by rw [e])
      go_enter Try.func24, Try.ntmps24
      go_wp2
      go_ret
      exact ⟨rfl, rfl⟩
theorem mfree_ok {W : World} {mb : Nat} {sl : Int} (hb : Blk W mb [.bool true, .int .i64 sl] 83) : Calls Try.prog 24 #[.pointer (some ⟨mb, 0, none⟩), .int .i64 sl] W fun e w' => e = .returned (.int .i64 0) ∧ Blk w' mb [.bool false, .int .i64 0] 83 ∧ Fr (fun q => q = mb) W w' := by
  have k0 := hb.cell 0 rfl
  have k1 := hb.cell 1 rfl
  have f0 := hb.free 0
  have f1 := hb.free 1
  have hlt := hb.lt
  have h2 := (hb.set 0 (.bool false)).set 1 (.int .i64 0)
  go_enter Try.func24, Try.ntmps24
  go_wp2
  go_ret
  exact ⟨rfl, h2, ((Fr.refl _ W).set1 _ _).set1 _ _⟩
theorem snew_no (n : Int) (h : n < 1 ∨ 16 < n) (W : World) : Calls Try.prog 15 #[.int .i64 n] W fun e w' => e = .returned (.tuple #[.pointer none, .int .i64 1]) ∧ W = w' := by
  rcases h with h | h
  · go_enter Try.func15, Try.ntmps15
    go_wp2
    go_ret2
    exact ⟨rfl, rfl⟩
  · have h' : ¬ n < 1 := by omega
    go_enter Try.func15, Try.ntmps15
    go_wp2
    go_ret2
    exact ⟨rfl, rfl⟩
theorem info53 : (Try.prog.info? 53).map (fun i => (i.zero, i.size, i.bytes)) = some (some (.agg #[.nilFunc, .pointer none]), 2, 16) := by kernel_rfl
theorem made2 (n : Nat) (h : n ≤ 16) : madeCells (Value.agg #[.nilFunc, .pointer none]).cells (n * 2) = (pairs (List.replicate n (Value.nilFunc, Value.pointer none))).toArray := by
  apply Array.ext
  · simp [size_madeCells, pairs_len]
  · intro i h1 h2
    rw [size_madeCells] at h1
    have e : (List.replicate n (Value.nilFunc, Value.pointer none))[i / 2]? = some (Value.nilFunc, Value.pointer none) := by
      rw [List.getElem?_replicate, if_pos (by omega)]
    have hc : (Value.agg #[Value.nilFunc, .pointer none]).cells = #[Value.nilFunc, .pointer none] := by simp [Value.cells]
    have h2' : i < (pairs (List.replicate n (Value.nilFunc, Value.pointer none))).length := by simpa using h2
    have hr : ∀ v, (pairs (List.replicate n (Value.nilFunc, Value.pointer none)))[i]? = some v → (pairs (List.replicate n (Value.nilFunc, Value.pointer none))).toArray[i]'h2 = v := fun v hv => by
      rw [List.getElem?_eq_getElem h2'] at hv
      injection hv
    rcases Nat.mod_two_eq_zero_or_one i with hm | hm
    · have h3 := pairs_fst e
      rw [show i / 2 * 2 = i by omega] at h3
      rw [hr _ h3]
      simp [madeCells, hc, hm]
    · have h3 := pairs_snd e
      rw [show i / 2 * 2 + 1 = i by omega] at h3
      rw [hr _ h3]
      simp [madeCells, hc, hm]
theorem run_make53 (n : Nat) (h1 : n ≤ 16) (w : World) : (Instr.makeSlice 76 (.int .i64 (n : Int)) (.int .i64 (n : Int))).run Try.prog w = .ok (.slice (some ⟨w.heap.size, 0, none⟩) n n) (w.alloc (.cells (pairs (List.replicate n (Value.nilFunc, Value.pointer none))).toArray 53)) := by
  obtain ⟨i, hi, hzz⟩ := Option.map_eq_some_iff.1 info53
  simp only [Prod.mk.injEq] at hzz
  obtain ⟨hz, hs, hb⟩ := hzz
  have hr := run_make (P := Try.prog) w 76 53 i _ Try.underlying76 hi hz .i64 .i64 n n (by omega) (Int.le_refl _) (by rw [hb]; omega) (by omega)
  rw [← made2 n h1]
  simpa only [Int.toNat_natCast, hs] using hr
theorem snew_ok (n : Nat) (h0 : 1 ≤ n) (h1 : n ≤ 16) (W : World) : Calls Try.prog 15 #[.int .i64 (n : Int)] W fun e w' => ∃ sb tb, e = .returned (.tuple #[.pointer (some ⟨sb, 0, none⟩), .int .i64 0]) ∧ Sch w' sb tb 0 (List.replicate n (.nilFunc, .pointer none)) ∧ Fr (fun _ => False) W w' ∧ W.heap.size ≤ sb ∧ W.heap.size ≤ tb ∧ sb ≠ tb := by
  have hmk := run_make53 n h1
  go_enter Try.func15, Try.ntmps15
  go_wp2
  go_ret2
  refine ⟨_, W.heap.size, rfl, ⟨Blk.at_new _ _ _ _ _ (by simp) (by simp), (Blk.at_new _ _ _ _ _ rfl rfl).alloc _, fun p hp => ?_, by simp; omega⟩, ((Fr.refl _ W).alloc _).alloc _, by omega, by omega, by omega⟩
  rw [List.eq_of_mem_replicate hp]
  exact .inl rfl
theorem ssteps_any {W : World} {sb tb : Nat} {st : Int} {T : List TV} (h : Sch W sb tb st T) : Calls Try.prog 39 #[.pointer (some ⟨sb, 0, none⟩)] W fun e w' => e = .returned (.int .i64 st) ∧ W = w' := by
  have k1 := h.blk.cell 1 rfl
  go_enter Try.func39, Try.ntmps39
  go_wp2
  go_ret
  exact ⟨rfl, rfl⟩
theorem ssteps_nil (W : World) : Calls Try.prog 39 #[.pointer none] W fun e w' => e = .returned (.int .i64 0) ∧ W = w' := by
  go_enter Try.func39, Try.ntmps39
  go_wp2
  go_ret
  exact ⟨rfl, rfl⟩
/-! ### Alive -/
theorem alive_in {W : World} {sb tb : Nat} {st : Int} {T : List TV} (h : Sch W sb tb st T) {k : Nat} {p : TV} (hk : T[k]? = some p) : Calls Try.prog 34 #[.pointer (some ⟨sb, 0, none⟩), .int .i64 (k : Int)] W fun e w' => e = .returned (.bool (isF p.1)) ∧ W = w' := by
  have k0 := h.blk.cell 0 rfl
  have kf := h.tsk.cell _ (pairs_fst hk)
  have hf := h.fnAt hk
  have hkl := (List.getElem?_eq_some_iff.1 hk).1
  have ka : (⟨tb, 0, none⟩ : Addr).add (k * 2) = ⟨tb, k * 2, none⟩ := add_plain _ _
  have i0 : (0 : Int) ≤ (k : Int) := by omega
  have i1 : (k : Int) < (T.length : Int) := by omega
  obtain ⟨f, m⟩ := p
  simp only at kf hf
  clear hk h
  rcases hf with rfl | ⟨g, a, b, rfl⟩
  · have hq := fun (w : World) => run_neq_nil_nil (P := Try.prog) 51 Try.underlying51 w
    go_enter Try.func34, Try.ntmps34
    go_wp2
    go_ret
    exact ⟨rfl, rfl⟩
  · have hq := fun (w : World) => run_neq_func_nil (P := Try.prog) 51 Try.underlying51 w g a b
    go_enter Try.func34, Try.ntmps34
    go_wp2
    go_ret
    exact ⟨rfl, rfl⟩
theorem alive_out {W : World} {sb tb : Nat} {st : Int} {T : List TV} (h : Sch W sb tb st T) (sl : Int) (ho : sl < 0 ∨ (T.length : Int) ≤ sl) : Calls Try.prog 34 #[.pointer (some ⟨sb, 0, none⟩), .int .i64 sl] W fun e w' => e = .returned (.bool false) ∧ W = w' := by
  have k0 := h.blk.cell 0 rfl
  by_cases h0 : 0 ≤ sl
  · have h1 : ¬ sl < (T.length : Int) := by omega
    clear ho h
    go_enter Try.func34, Try.ntmps34
    go_wp2
    go_ret
    exact ⟨rfl, rfl⟩
  · clear ho h
    go_enter Try.func34, Try.ntmps34
    go_wp2
    go_ret
    exact ⟨rfl, rfl⟩
theorem alive_nil (W : World) (sl : Int) : Calls Try.prog 34 #[.pointer none, .int .i64 sl] W fun e w' => e = .returned (.bool false) ∧ W = w' := by
  go_enter Try.func34, Try.ntmps34
  go_wp2
  go_ret
  exact ⟨rfl, rfl⟩
end Go.Proofs.Ytlljfopacdnpbaa
