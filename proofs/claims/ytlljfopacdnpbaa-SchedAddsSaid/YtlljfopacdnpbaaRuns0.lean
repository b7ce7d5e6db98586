/- Runs of tasks and of the reference side by side: begin without tasks, what keeps the two worlds apart. Conditions: those of the lemmas. -/
import Derived.Test.YtlljfopacdnpbaaSame
namespace Go.Proofs.Ytlljfopacdnpbaa
open Go.RowKit
set_option maxHeartbeats 4000000 in
set_option maxRecDepth 100000 in
theorem begin_nil (w : World) (LA : Option Addr) (lc : Nat) :
    Calls Try.prog 9 #[.slice LA 0 lc] w fun e w' => ∃ b, e = .returned (.tuple #[.pointer (some ⟨b, 0, none⟩), .bool true]) ∧ Fr (fun _ => False) w w' := by
  have f0 : Fr (fun _ => False) w (w.alloc (.cells #[.slice none 0 0, .slice none 0 0, .slice none 0 0, .pointer none] 38)) := (Fr.refl _ w).alloc _
  have m0 : Mk w (w.alloc (.cells #[.slice none 0 0, .slice none 0 0, .slice none 0 0, .pointer none] 38)) w.heap.size (.slice none 0 0) (.slice none 0 0) (fun _ => 0) (fun _ => 0) 0 0 :=
    ⟨Blk.at_new _ _ _ _ _ rfl rfl, Row.nil _ _, Row.nil _ _, fun j hj => absurd hj (Nat.not_lt_zero _), fun j hj => absurd hj (Nat.not_lt_zero _), fun i j hi => absurd hi (Nat.not_lt_zero _), fun i j hi => absurd hi (Nat.not_lt_zero _), f0, Nat.le_refl _, fun q hq => by simp [Value.ownBlock] at hq, fun q hq => by simp [Value.ownBlock] at hq, fun j hj => absurd hj (Nat.not_lt_zero _), fun j hj => absurd hj (Nat.not_lt_zero _)⟩
  go_enter Try.func9, Try.ntmps9
  go_wp2_with fail
  generalize w.alloc (.cells #[.slice none 0 0, .slice none 0 0, .slice none 0 0, .pointer none] 38) = w1 at m0 ⊢
  clear f0
  generalize hwb : w.heap.size = wb at m0 ⊢
  clear hwb
  go_loopw [5] (fun i W => ∃ (k : Nat) (cv mv : Value) (c m : Nat → Nat), i = .int .i64 k ∧ k ≤ 4 ∧ Mk w W wb cv mv c m k k) (fun i _ => 4 - (intOf i).toNat)
  case atStart => exact ⟨0, _, _, _, _, rfl, Nat.zero_le _, m0⟩
  case round =>
    clear m0
    obtain ⟨k, cv, mv, c, m, rfl, hk, hM⟩ := hrel
    by_cases hk4 : k < 4
    · have o0 := hM.obj.cell 0 rfl
      have of0 := hM.obj.free 0
      have ol := hM.obj.lt
      have ik : (k : Int) < 4 := by omega
      have HM := Lib.hid (hM.new ((Fr.refl (fun _ => False) wr).drew))
      clear hM
      go_upto_block 1 with fail
      go_cut [] (fun W => ∃ (cv' mv' : Value) (c' m' : Nat → Nat), Mk w W wb cv' mv' c' m' (k + 1) (k + 1))
      case first =>
        go_upto_region 5 with fail
        go_cut [] (fun W => ∃ (cv' : Value) (c' : Nat → Nat), Mk w W wb cv' mv c' m (k + 1) k)
        case first =>
          go_region_law
           (first
            | (show (if Region.wanted ⟨some 21, _, _, _, _, _⟩ _ = true then _ else _); rw [if_pos (by simp [Region.wanted])]; go_simp; refine (newCellI_any 0 _).mono ?_; rintro e w5 ⟨b, rfl, hc5, hf5, hb5⟩; dsimp only; have o5 := hf5.cell o0 id; have lo5 := (hf5.blk HM.out.obj id).lt)
            | (show (if Region.wanted ⟨some 23, _, _, _, _, _⟩ _ = true then _ else _); go_must (refine step_app1 (W := w5) rfl _ _ 34 47 (.pointer none) 8 rfl Try.underlying34 info47 rfl (by decide) cv (ptrs c k) (.pointer (some ⟨b, 0, none⟩)) rfl rfl rfl (HM.out.cs.fr hf5 (fun _ _ => id)) ?_ ?_); (rw [ptrs_len]; omega); intro g c2 w6 hR6 hor6 hf6 _; have b6 := hf6.blk (hf5.blk HM.out.obj id) (HM.out.cs.ne HM.out.obj (by decide)); have o6 := b6.cell 0 rfl; have of6 := b6.free 0; have l6 := b6.lt))
          all_goals
            (go_wp2
             go_meet
             exact ⟨_, _, (HM.out.new hf5).cell hc5 (Nat.le_trans HM.out.fr.size hb5) (fun j hj e => by have := Blk.lt (HM.out.cel j hj); omega) hf6 hR6 (fun q hq => by
               have e : g = q := by simpa [Value.ownBlock] using hq
               rw [← e]
               exact hor6.imp id (fun h => by omega))⟩)
        case rest =>
          obtain ⟨cv', c', hM2⟩ := hcut
          clear o0 of0 ol HM
          have o0 := hM2.obj.cell 1 rfl
          have of0 := hM2.obj.free 1
          have ol := hM2.obj.lt
          have HM := Lib.hid (hM2.new ((Fr.refl (fun _ => False) wc).drew))
          clear hM2
          go_upto_region 6 with fail
          go_region_law
           (first
            | (show (if Region.wanted ⟨some 31, _, _, _, _, _⟩ _ = true then _ else _); rw [if_pos (by simp [Region.wanted])]; go_simp; refine (newMutex_any _).mono ?_; rintro e w5 ⟨b, rfl, hc5, hf5, hb5⟩; dsimp only; have o5 := hf5.cell o0 id; have lo5 := (hf5.blk HM.out.obj id).lt)
            | (show (if Region.wanted ⟨some 33, _, _, _, _, _⟩ _ = true then _ else _); go_must (refine step_app1 (W := w5) rfl _ _ 35 49 (.pointer none) 8 rfl Try.underlying35 info49 rfl (by decide) mv (ptrs m k) (.pointer (some ⟨b, 0, none⟩)) rfl rfl rfl (HM.out.ms.fr hf5 (fun _ _ => id)) ?_ ?_); (rw [ptrs_len]; omega); intro g c2 w6 hR6 hor6 hf6 _; have b6 := hf6.blk (hf5.blk HM.out.obj id) (HM.out.ms.ne HM.out.obj (by decide)); have o6 := b6.cell 1 rfl; have of6 := b6.free 1; have l6 := b6.lt))
          all_goals
            (go_wp2
             go_meet
             exact ⟨_, _, _, _, (HM.out.new hf5).mutex hc5 (Nat.le_trans HM.out.fr.size hb5) (fun j hj e => by have := (HM.out.mux j hj).lt; omega) hf6 hR6 (fun q hq => by
               have e : g = q := by simpa [Value.ownBlock] using hq
               rw [← e]
               exact hor6.imp id (fun h => by omega))⟩)
      case rest =>
        obtain ⟨cv', mv', c', m', hM2⟩ := hcut
        clear o0 of0 ol HM
        go_wp2
        go_roundw
        case rel => exact ⟨k + 1, _, _, _, _, by go_num, by omega, hM2⟩
        case measure => simp [intOf]; omega
    · obtain rfl : k = 4 := by omega
      clear hk4 hk
      obtain ⟨cA, cc, hcv⟩ := hM.cs.slice
      obtain ⟨mA, mc, hmv⟩ := hM.ms.slice
      rw [ptrs_len] at hcv hmv
      subst hcv hmv
      obtain ⟨ca, rfl, _⟩ := hM.cs.head (by decide)
      obtain ⟨ma, rfl, _⟩ := hM.ms.head (by decide)
      have hs := snew_no 0 (.inl (by decide)) wr
      have o3 := hM.obj.cell 3 rfl
      have f3 := hM.obj.free 3
      have ol := hM.obj.lt
      have HM := Lib.hid hM
      clear hM
      go_wp2_with fail
      refine hs.mono ?_
      rintro e w5 ⟨rfl, rfl⟩
      go_wp2
      go_ret2
      exact ⟨_, rfl, HM.out.fr.setCell _ _ (fun hh => by have := HM.out.wn; simp at hh; omega)⟩
/-! ### The two worlds side by side -/
theorem Blk.ne_len {W : World} {b b' : Nat} {cs cs' : List Value} {t t' : TypeId} (h : Blk W b cs t) (h' : Blk W b' cs' t') (hl : cs.length ≠ cs'.length) : b ≠ b' := by
  rintro rfl
  have := h.out.symm.trans h'.out
  simp at this
  exact hl (by rw [this.1])
theorem rS_ne {W : World} {mb : Nat} {R : RE} {ls : List PT} {ts : List RT} {pos : Nat → Nat} {s : St} {st : Int} (hA : RefAt W mb R ls ts pos s st) {q : Nat} {cs : List Value} {t : TypeId} (hq : Blk W q cs t) (h31 : t ≠ 31) (h69 : t ≠ 69) (h3 : t ≠ 3 ∨ cs.length ≠ 4) : ¬ rS mb R q := by
  obtain ⟨_, ht⟩ := hA.tbB
  have key : ∀ (b : Nat) (f : Nat → Int), Blk W b (four f) 3 → q ≠ b := fun b f hb => by
    rcases h3 with h3 | h3
    · exact hq.ne hb h3
    · exact hq.ne_len hb (by simpa [four] using h3)
  rintro (h | h | h | h | h)
  · exact hq.ne hA.obj h31 h
  · exact hq.ne ht h69 h
  · exact key _ _ hA.cells h
  · exact key _ _ hA.sets h
  · exact key _ _ hA.held h
/-- Two worlds that know nothing of each other. -/
structure Two (w W : World) (E : Env) (tb mb : Nat) (R : RE) (st : Int) (ls : List PT) (pos : Nat → Nat) (s : St) (T : List TV) (ts : List RT) : Prop where
  run : Run w W E tb st ls pos s T
  ref : RefAt W mb R ls ts pos s st
  sep : ∀ q, Mem E tb q → ¬ rS mb R q
  low : ∀ q, rS mb R q → w.heap.size ≤ q
  lst : ∀ p ∈ ls, ∀ ad, p.A = some ad → ad.block < w.heap.size
section
variable {w W W' : World} {E : Env} {tb mb : Nat} {R : RE} {st : Int} {ls : List PT} {pos : Nat → Nat} {s : St} {T : List TV} {ts : List RT}
theorem Two.lt (h : Two w W E tb mb R st ls pos s T ts) : ∀ p ∈ ls, ∀ ad, p.A = some ad → ad.block < W.heap.size := fun p hp ad e => by
  have := h.lst p hp ad e
  have := h.run.fr.size
  omega
theorem Two.new (h : Two w W E tb mb R st ls pos s T ts) (hf : Fr (fun _ => False) W W') : Two w W' E tb mb R st ls pos s T ts := ⟨h.run.new hf, h.ref.new hf, h.sep, h.low, h.lst⟩
/-- The tasks change nothing of the reference's world. -/
theorem Two.refM (h : Two w W E tb mb R st ls pos s T ts) (hf : Fr (Mem E tb) W W') : RefAt W' mb R ls ts pos s st :=
  h.ref.fr hf (fun hq => h.sep _ hq (.inl rfl)) (fun k hk hq => h.sep _ hq (.inr hk)) (fun p hp ad e => (h.run.rd p hp).2.1 ad e)
/-- The reference changes nothing of the tasks' world. -/
theorem run_rS {st2 : Int} {pos2 : Nat → Nat} {s2 : St} (hR : Run w W E tb st ls pos s T) (hA : RefAt W mb R ls ts pos2 s2 st2) (hsep : ∀ q, Mem E tb q → ¬ rS mb R q) (hlow : ∀ q, rS mb R q → w.heap.size ≤ q) (hf : Fr (rS mb R) W W') : Run w W' E tb st ls pos s T := by
  obtain ⟨_, hca⟩ := hR.wd.csB
  obtain ⟨_, hma⟩ := hR.wd.msB
  refine ⟨hR.wd.fr hf (rS_ne hA hR.wd.obj (by decide) (by decide) (.inl (by decide))) (rS_ne hA hca (by decide) (by decide) (.inl (by decide))) (rS_ne hA hma (by decide) (by decide) (.inl (by decide))) (hsep _ (.inl (.inl rfl))) (fun k hk => hsep _ (.inl (.inr ⟨k, hk, .inl rfl⟩))) (fun k hk => hsep _ (.inl (.inr ⟨k, hk, .inr rfl⟩))), hR.sch.fr hf (hsep _ (.inr (.inl rfl))) (hsep _ (.inr (.inr rfl))), hR.len, fun i p hi => ?_, fun p hp => ⟨(hR.rd p hp).1.fr hf (fun ad e => ?_), (hR.rd p hp).2⟩, hR.kn, hR.hp, hR.fr.trans hf (fun q hq hh => by have := hlow q hh; omega), hR.nw⟩
  · obtain ⟨n, h1, h2⟩ := hR.tk i p hi
    refine ⟨n, h1, fun hl => ?_⟩
    obtain ⟨k, k2⟩ := h2 hl
    exact ⟨⟨hf.blk k.b1 (rS_ne hA k.b1 (by decide) (by decide) (.inl (by decide))), hf.blk k.b3 (rS_ne hA k.b3 (by decide) (by decide) (.inl (by decide))), hf.blk k.b4 (rS_ne hA k.b4 (by decide) (by decide) (.inr (by simp))), fun x hx => hf.blk (k.b2 x hx) (rS_ne hA (k.b2 x hx) (by decide) (by decide) (.inl (by decide)))⟩, k2⟩
  · rintro (hh | hh)
    · exact (hA.sep p hp ad e).1 hh
    · exact (hA.sep p hp ad e).2 hh
theorem Two.runR (h : Two w W E tb mb R st ls pos s T ts) (hf : Fr (rS mb R) W W') : Run w W' E tb st ls pos s T := run_rS h.run h.ref h.sep h.low hf
end
theorem turn_nil (n : Int) : turn [] n = none := by simp [turn]
theorem turn_some {l : List Nat} (h : l ≠ []) (n : Int) : ∃ i, turn l n = some i := by
  have hl : 0 < l.length := List.length_pos_iff.2 h
  have h1 := Int.emod_nonneg n (show (l.length : Int) ≠ 0 by omega)
  have h2 := Int.emod_lt_of_pos n (show (0 : Int) < (l.length : Int) by omega)
  unfold turn
  exact ⟨_, List.getElem?_eq_getElem (show (n % (l.length : Int)).toNat < l.length by omega)⟩
section
variable {w W : World} {E : Env} {tb mb : Nat} {R : RE} {st : Int} {ls : List PT} {pos : Nat → Nat} {s : St} {T : List TV} {ts : List RT}
theorem Two.pick_none (h : Two w W E tb mb R st ls pos s T ts) (hz : readies ls pos s = []) (n : Int) : Calls Try.prog 12 #[.pointer (some ⟨E.sb, 0, none⟩), .int .i64 n] W fun e w' => e = .returned (.tuple #[.int .i64 0, .bool false]) ∧ Fr (fun _ => False) W w' := by
  refine (run_pick2 h.run n).mono ?_
  rintro e w' (⟨_, rfl, hf⟩ | ⟨i, p, x, T', ht, _⟩)
  · exact ⟨rfl, hf⟩
  · rw [hz, turn_nil] at ht
    cases ht
theorem Two.rpick_none (h : Two w W E tb mb R st ls pos s T ts) (hz : readies ls pos s = []) (hfew : ls.length ≤ 16) (n : Int) : Calls Try.prog 13 #[.pointer (some ⟨mb, 0, none⟩), .int .i64 n] W fun e w' => e = .returned (.int .i64 (-1)) ∧ Fr (fun _ => False) W w' := by
  refine (rpick_any h.ref h.run.hp (fun p hp => (h.run.rd p hp).2.2.1) hfew n).mono ?_
  rintro e w' (⟨_, rfl, hf⟩ | ⟨i, T', ht, _⟩)
  · exact ⟨rfl, hf⟩
  · rw [hz, turn_nil] at ht
    cases ht
/-- One is picked, by the tasks and by the reference. -/
theorem Two.pick_some (h : Two w W E tb mb R st ls pos s T ts) {n : Int} {i : Nat} (hi : turn (readies ls pos s) n = some i) (hfew : ls.length ≤ 16) :
    Calls Try.prog 12 #[.pointer (some ⟨E.sb, 0, none⟩), .int .i64 n] W fun e w' => e = .returned (.tuple #[.int .i64 (i : Int), .bool true]) ∧ Fr (Mem E tb) W w' ∧
      ∀ w2, Fr (fun _ => False) w' w2 → Calls Try.prog 13 #[.pointer (some ⟨mb, 0, none⟩), .int .i64 n] w2 fun e w3 => e = .returned (.int .i64 (i : Int)) ∧ ∃ st' pos' s' T' ts', Two w w3 E tb mb R st' ls pos' s' T' ts' := by
  refine (run_pick2 h.run n).mono ?_
  rintro e w' (⟨hz, _⟩ | ⟨j, p, x, T', ht, hp, hx, rfl, hf, hR⟩)
  · rw [hz, turn_nil] at hi
    cases hi
  · rw [hi] at ht
    injection ht with ht
    subst ht
    refine ⟨rfl, hf, fun w2 hf2 => ?_⟩
    refine (rpick_any ((h.refM hf).new hf2) h.run.hp (fun p hp => (h.run.rd p hp).2.2.1) hfew n).mono ?_
    rintro e w3 (⟨hz, _⟩ | ⟨j, ts', ht, rfl, hf3, hA⟩)
    · rw [hz, turn_nil] at hi
      cases hi
    · rw [hi] at ht
      injection ht with ht
      subst ht
      have e1 : ls.getD i ⟨none, 0, []⟩ = p := by rw [List.getD_eq_getElem?_getD, hp]; rfl
      have e2 : p.l.getD (pos i) ⟨0, 0, 0, 0, 0⟩ = x := by rw [List.getD_eq_getElem?_getD, hx]; rfl
      rw [e1, e2] at hA
      refine ⟨rfl, _, _, _, T', ts', run_rS (hR.new hf2) ((h.refM hf).new hf2) h.sep h.low hf3, hA, h.sep, h.low, h.lst⟩
end
end Go.Proofs.Ytlljfopacdnpbaa
