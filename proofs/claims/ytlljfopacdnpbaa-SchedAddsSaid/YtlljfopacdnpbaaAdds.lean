/- SchedAdds, walked: nothing that is added is lost. Conditions: those of the lemma. -/
import Derived.Test.YtlljfopacdnpbaaAddsMk
namespace Go.Proofs.Ytlljfopacdnpbaa
open Go.RowKit
set_option maxHeartbeats 4000000 in
set_option maxRecDepth 100000 in
theorem adds_any {W : World} {A0 : Option Addr} {cp0 : Nat} {xs : List Int} (hX : Rd W A0 (xs.map (Value.int .u8))) (hr : ∀ a ∈ xs, 0 ≤ a ∧ a < 256) (sw : Bool) {A1 : Option Addr} {cp1 : Nat} {ys : List Int} (hY : Rd W A1 (i64s ys)) :
    Calls Try.prog 4 #[.slice A0 xs.length cp0, .bool sw, .slice A1 ys.length cp1] W fun e w' => e = .returned (.bool true) ∧ Fr (fun _ => False) W w' := by
  have f1 : Fr (fun _ => False) W (W.alloc (.cells #[.bool sw] 4)) := (Fr.refl _ W).alloc _
  have b1 : Blk (W.alloc (.cells #[.bool sw] 4)) W.heap.size [.bool sw] 4 := Blk.at_new _ _ _ _ _ rfl rfl
  have HX := Lib.hid (And.intro hX hr)
  have HY := Lib.hid hY
  clear hX hr hY
  go_enter Try.func4, Try.ntmps4
  go_wp2_with fail
  generalize hwb : W.heap.size = wb at b1 ⊢
  generalize W.alloc (.cells #[.bool sw] 4) = w1 at f1 b1 ⊢
  have H1 := Lib.hid (And.intro f1 (And.intro b1 hwb))
  clear f1 b1 hwb
  refine (awake_any _).mono ?_
  rintro e w2 ⟨rfl, hf2⟩
  have H2 := Lib.hid (And.intro (H1.out.1.trans hf2 (fun _ _ h => h)) (And.intro (hf2.blk H1.out.2.1 id) H1.out.2.2))
  clear hf2 H1
  by_cases hz : xs.length = 0
  · rw [hz]
    clear hz
    go_wp2_with fail
    refine (awake_any _).mono ?_
    rintro e w3 ⟨rfl, hf3⟩
    have H3 := Lib.hid (H2.out.1.trans hf3 (fun _ _ h => h))
    clear hf3
    go_wp2
    go_ret
    exact ⟨rfl, H3.out⟩
  · have t0 : ((xs.length : Int) == 0) = false := beq_eq_false_iff_ne.2 (by omega)
    by_cases h8 : 8 < xs.length
    · have t1 : (8 : Int) < (xs.length : Int) := by omega
      clear hz h8
      go_wp2_with fail
      refine (awake_any _).mono ?_
      rintro e w3 ⟨rfl, hf3⟩
      have H3 := Lib.hid (H2.out.1.trans hf3 (fun _ _ h => h))
      clear hf3
      go_wp2
      go_ret
      exact ⟨rfl, H3.out⟩
    · have t1 : ¬ (8 : Int) < (xs.length : Int) := by omega
      have C1 := Lib.hid (snew_ok xs.length (by omega) (by omega) w2)
      go_wp2_with fail
      refine C1.out.mono ?_
      rintro e w3 ⟨sb, tb, rfl, hsch, hf3, hsb, htb, hne⟩
      have H3 := Lib.hid (And.intro hsch (And.intro hf3 (And.intro hsb htb)))
      clear hsch hf3 hsb htb hne C1
      go_wp2_with fail
      refine (newCellI_any 0 _).mono ?_
      rintro e w4 ⟨cc, rfl, hc4, hf4, hb4⟩
      have H4 := Lib.hid (And.intro hc4 (And.intro hf4 hb4))
      clear hc4 hf4 hb4
      go_wp2_with fail
      refine (newMutex_any _).mono ?_
      rintro e w5 ⟨mm, rfl, hc5, hf5, hb5⟩
      have H5 := Lib.hid (And.intro hc5 (And.intro hf5 hb5))
      clear hc5 hf5 hb5
      go_upto_region 7 with fail
      have f6 : Fr (fun _ => False) w5 ((w5.alloc (.cells #[.pointer (some ⟨cc, 0, none⟩)] 47)).alloc (.cells #[.pointer (some ⟨mm, 0, none⟩)] 49)) := ((Fr.refl _ w5).alloc _).alloc _
      have hMk : AMk W ((w5.alloc (.cells #[.pointer (some ⟨cc, 0, none⟩)] 47)).alloc (.cells #[.pointer (some ⟨mm, 0, none⟩)] 49)) ⟨sb, tb, w5.heap.size, cc, w5.heap.size + 1, mm, wb, fun _ => 0, fun _ => 0, fun _ => 0, fun _ => 0⟩ sw xs (List.replicate xs.length (.nilFunc, .pointer none)) 0 := by
        obtain ⟨g1, g2, g3⟩ := H2.out
        obtain ⟨g4, g5, g6, g7⟩ := H3.out
        obtain ⟨g8, g9, k1⟩ := H4.out
        obtain ⟨k2, k3, k4⟩ := H5.out
        have fa := g5.trans g9 (fun _ _ h => h)
        have fb := k3.trans f6 (fun _ _ h => h)
        have fc := g9.trans fb (fun _ _ h => h)
        have z1 := g1.size
        have z2 := g5.size
        have z3 := g9.size
        exact ⟨g4.fr fc id id, by simp, fun i hi => absurd hi (Nat.not_lt_zero _), fun i _ hi => by rw [List.getElem?_replicate, if_pos hi], ((Blk.at_new _ _ _ _ _ rfl rfl).alloc _), Blk.at_new _ _ _ _ _ (by simp) rfl, (g5.trans fc (fun _ _ h => h)).blk g2 id, fb.blk g8 id, f6.blk k2 id, fun i a hi => absurd hi (Nat.not_lt_zero _), fun i j hi => absurd hi (Nat.not_lt_zero _), fun i j hi => absurd hi (Nat.not_lt_zero _), fun i j hi => absurd hi (Nat.not_lt_zero _), fun i hi => absurd hi (Nat.not_lt_zero _), g1.trans (g5.trans fc (fun _ _ h => h)) (fun _ _ h => h), by simp only; omega, by simp only; omega, by simp only; omega, by simp only; omega, fun i hi => absurd hi (Nat.not_lt_zero _)⟩
      clear f6 H2 H3 H4 H5
      generalize (w5.alloc (.cells #[.pointer (some ⟨cc, 0, none⟩)] 47)).alloc (.cells #[.pointer (some ⟨mm, 0, none⟩)] 49) = w6 at hMk ⊢
      generalize w5.heap.size + 1 = mx at hMk ⊢
      generalize w5.heap.size = cb at hMk ⊢
      have HM0 := Lib.hid hMk
      have hn8 : xs.length ≤ 8 := by omega
      clear hMk h8 hz
      go_wp2_with fail
      go_loopw [11, 12] (fun wa i wr => ∃ (k : Nat) (e : AE) (T : List TV), wa = .int .i64 (sumA (xs.take k) : Int) ∧ i = .int .i64 k ∧ k ≤ xs.length ∧ AMk W wr e sw xs T k ∧ e.sb = sb ∧ e.cb = cb ∧ e.mx = mx ∧ e.wb = wb) (fun _ i _ => xs.length - (intOf i).toNat)
      case atStart => exact ⟨0, _, _, by simp [sumA], rfl, Nat.zero_le _, HM0.out, rfl, rfl, rfl, rfl⟩
      case round =>
        clear HM0
        obtain ⟨k, e, T, rfl, rfl, hk, hM, e1, e2, e3, e4⟩ := hrel
        subst e1 e2 e3 e4
        by_cases hkl : k < xs.length
        · have hxk : xs[k]? = some xs[k] := List.getElem?_eq_getElem hkl
          have hra := HX.out.2 xs[k] (List.getElem_mem hkl)
          generalize xs[k] = a at hxk hra
          obtain ⟨la, rfl, cl⟩ := HX.out.1 k (.int .u8 a) (by rw [List.getElem?_map, hxk]; rfl)
          have cl1 := hM.fr.cell cl id
          have i0 : (0 : Int) ≤ (k : Int) := by omega
          have i1 : (k : Int) < (xs.length : Int) := by omega
          have HM := Lib.hid hM
          have Hxk := Lib.hid hxk
          clear hM cl hxk
          go_upto_region 17 with fail
          have ff : Fr (fun _ => False) wr (((((wr.alloc (.cells #[.int .i64 (1 + a % 20)] 3)).alloc (.cells #[.int .i64 0] 3)).alloc (.cells #[.func (.func 18) #[] #[.pointer (some ⟨e.cb, 0, none⟩), .pointer (some ⟨wr.heap.size + 1, 0, none⟩), .pointer (some ⟨wr.heap.size + 1 + 1 + 1, 0, none⟩)]] 51)).alloc (.cells #[.func (.func 20) #[] #[.pointer (some ⟨e.wb, 0, none⟩), .pointer (some ⟨e.cb, 0, none⟩), .pointer (some ⟨wr.heap.size + 1, 0, none⟩), .pointer (some ⟨e.mx, 0, none⟩), .pointer (some ⟨wr.heap.size + 1 + 1 + 1, 0, none⟩), .pointer (some ⟨wr.heap.size, 0, none⟩), .pointer (some ⟨wr.heap.size + 1 + 1, 0, none⟩)]] 51)).alloc (.cells #[.func (.func 18) #[] #[.pointer (some ⟨e.cb, 0, none⟩), .pointer (some ⟨wr.heap.size + 1, 0, none⟩), .pointer (some ⟨wr.heap.size + 1 + 1 + 1, 0, none⟩)], .pointer none] 53)) := (((((Fr.refl _ wr).alloc _).alloc _).alloc _).alloc _).alloc _
          have hn : wr.heap.size ≤ wr.heap.size + 1 ∧ wr.heap.size ≤ wr.heap.size ∧ wr.heap.size + 1 ≠ wr.heap.size := ⟨by omega, by omega, by omega⟩
          have hB : ABox (((((wr.alloc (.cells #[.int .i64 (1 + a % 20)] 3)).alloc (.cells #[.int .i64 0] 3)).alloc (.cells #[.func (.func 18) #[] #[.pointer (some ⟨e.cb, 0, none⟩), .pointer (some ⟨wr.heap.size + 1, 0, none⟩), .pointer (some ⟨wr.heap.size + 1 + 1 + 1, 0, none⟩)]] 51)).alloc (.cells #[.func (.func 20) #[] #[.pointer (some ⟨e.wb, 0, none⟩), .pointer (some ⟨e.cb, 0, none⟩), .pointer (some ⟨wr.heap.size + 1, 0, none⟩), .pointer (some ⟨e.mx, 0, none⟩), .pointer (some ⟨wr.heap.size + 1 + 1 + 1, 0, none⟩), .pointer (some ⟨wr.heap.size, 0, none⟩), .pointer (some ⟨wr.heap.size + 1 + 1, 0, none⟩)]] 51)).alloc (.cells #[.func (.func 18) #[] #[.pointer (some ⟨e.cb, 0, none⟩), .pointer (some ⟨wr.heap.size + 1, 0, none⟩), .pointer (some ⟨wr.heap.size + 1 + 1 + 1, 0, none⟩)], .pointer none] 53)) (e.more k (wr.heap.size + 1) (wr.heap.size + 1 + 1 + 1) wr.heap.size (wr.heap.size + 1 + 1)) k (at0 a) := by
            have hcnt : ((at0 a).left : Int) = 1 + a % 20 := by
              show ((cnt a : Nat) : Int) = _
              unfold cnt
              have := Int.emod_nonneg a (show (20 : Int) ≠ 0 by decide)
              omega
            refine ⟨?_, ?_, ?_, ?_⟩
            · simp only [AE.more, upd_same]
              exact ((((Blk.at_new _ _ _ _ _ (by simp) rfl).alloc _).alloc _).alloc _)
            · simp only [AE.more, upd_same]
              rw [hcnt]
              exact (((((Blk.at_new _ _ _ _ _ rfl rfl).alloc _).alloc _).alloc _).alloc _)
            · simp only [loadF, AE.more, upd_same, ptr]
              exact (((Blk.at_new _ _ _ _ _ (by simp) rfl).alloc _).alloc _)
            · simp only [setF, AE.more, upd_same, ptr]
              exact ((Blk.at_new _ _ _ _ _ (by simp) rfl).alloc _)
          have hF7 : Blk (((((wr.alloc (.cells #[.int .i64 (1 + a % 20)] 3)).alloc (.cells #[.int .i64 0] 3)).alloc (.cells #[.func (.func 18) #[] #[.pointer (some ⟨e.cb, 0, none⟩), .pointer (some ⟨wr.heap.size + 1, 0, none⟩), .pointer (some ⟨wr.heap.size + 1 + 1 + 1, 0, none⟩)]] 51)).alloc (.cells #[.func (.func 20) #[] #[.pointer (some ⟨e.wb, 0, none⟩), .pointer (some ⟨e.cb, 0, none⟩), .pointer (some ⟨wr.heap.size + 1, 0, none⟩), .pointer (some ⟨e.mx, 0, none⟩), .pointer (some ⟨wr.heap.size + 1 + 1 + 1, 0, none⟩), .pointer (some ⟨wr.heap.size, 0, none⟩), .pointer (some ⟨wr.heap.size + 1 + 1, 0, none⟩)]] 51)).alloc (.cells #[.func (.func 18) #[] #[.pointer (some ⟨e.cb, 0, none⟩), .pointer (some ⟨wr.heap.size + 1, 0, none⟩), .pointer (some ⟨wr.heap.size + 1 + 1 + 1, 0, none⟩)], .pointer none] 53)) (wr.heap.size + 1 + 1 + 1 + 1) [.func (.func 18) #[] #[.pointer (some ⟨e.cb, 0, none⟩), .pointer (some ⟨wr.heap.size + 1, 0, none⟩), .pointer (some ⟨wr.heap.size + 1 + 1 + 1, 0, none⟩)], .pointer none] 53 := Blk.at_new _ _ _ _ _ (by simp) rfl
          have hfn : loadF (e.more k (wr.heap.size + 1) (wr.heap.size + 1 + 1 + 1) wr.heap.size (wr.heap.size + 1 + 1)) k = .func (.func 18) #[] #[.pointer (some ⟨e.cb, 0, none⟩), .pointer (some ⟨wr.heap.size + 1, 0, none⟩), .pointer (some ⟨wr.heap.size + 1 + 1 + 1, 0, none⟩)] := by simp [loadF, AE.more, upd_same, ptr]
          have hfb : e.tb ≠ wr.heap.size + 1 + 1 + 1 + 1 := by have := HM.out.sch.tsk.lt; omega
          have hfb2 : ∀ q, q = wr.heap.size + 1 + 1 + 1 + 1 → ¬ q < wr.heap.size := fun q hq => by omega
          have hfb3 : wr.heap.size + 1 + 1 + 1 + 1 ≠ wr.heap.size + 1 ∧ wr.heap.size + 1 + 1 + 1 + 1 ≠ wr.heap.size ∧ wr.heap.size + 1 + 1 + 1 + 1 ≠ wr.heap.size + 1 + 1 ∧ wr.heap.size + 1 + 1 + 1 + 1 ≠ wr.heap.size + 1 + 1 + 1 := ⟨by omega, by omega, by omega, by omega⟩
          generalize (((((wr.alloc (.cells #[.int .i64 (1 + a % 20)] 3)).alloc (.cells #[.int .i64 0] 3)).alloc (.cells #[.func (.func 18) #[] #[.pointer (some ⟨e.cb, 0, none⟩), .pointer (some ⟨wr.heap.size + 1, 0, none⟩), .pointer (some ⟨wr.heap.size + 1 + 1 + 1, 0, none⟩)]] 51)).alloc (.cells #[.func (.func 20) #[] #[.pointer (some ⟨e.wb, 0, none⟩), .pointer (some ⟨e.cb, 0, none⟩), .pointer (some ⟨wr.heap.size + 1, 0, none⟩), .pointer (some ⟨e.mx, 0, none⟩), .pointer (some ⟨wr.heap.size + 1 + 1 + 1, 0, none⟩), .pointer (some ⟨wr.heap.size, 0, none⟩), .pointer (some ⟨wr.heap.size + 1 + 1, 0, none⟩)]] 51)).alloc (.cells #[.func (.func 18) #[] #[.pointer (some ⟨e.cb, 0, none⟩), .pointer (some ⟨wr.heap.size + 1, 0, none⟩), .pointer (some ⟨wr.heap.size + 1 + 1 + 1, 0, none⟩)], .pointer none] 53)) = w7 at ff hB hF7 ⊢
          have Hn := Lib.hid hn
          have Hfn := Lib.hid hfn
          have Hfb2 := Lib.hid hfb2
          clear hn hfn hfb2
          generalize wr.heap.size + 1 + 1 + 1 + 1 = fb at hF7 hfb Hfb2 hfb3 ⊢
          generalize wr.heap.size + 1 + 1 + 1 = se at hB Hfn hF7 hfb3 ⊢
          generalize wr.heap.size + 1 + 1 = ld at hB Hfn hfb3 ⊢
          generalize wr.heap.size + 1 = sn at hB Hn Hfn hF7 hfb3 ⊢
          have Hsum := Lib.hid (show wrap64 ((sumA (xs.take k) : Int) + (1 + a % 20)) = (sumA (xs.take (k + 1)) : Int) from by
            have h1 := sumA_take Hxk.out
            have h2 := sumA_le (xs.take k)
            have h3 : (cnt a : Int) = 1 + a % 20 := by
              unfold cnt
              have := Int.emod_nonneg a (show (20 : Int) ≠ 0 by decide)
              omega
            rw [List.length_take] at h2
            rw [h1, IntWalk.wrap64_in _ (by omega)]
            omega)
          have hw7 := (ff.blk HM.out.wv id).cell 0 rfl
          have hm7 := (ff.blk HM.out.mv id).cell 0 rfl
          have hun := HM.out.un k (Nat.le_refl _) hkl
          have LFb : ∀ (W' : World), Fr (fun q => q = fb) w7 W' → ABox W' (e.more k sn se wr.heap.size ld) k (at0 a) := fun W' h => by
            obtain ⟨b1, b2, b3, b4⟩ := hB
            refine ⟨h.blk b1 ?_, h.blk b2 ?_, h.blk b3 ?_, h.blk b4 ?_⟩ <;> simp only [AE.more, upd_same] <;> omega
          rcases Bool.eq_false_or_eq_true sw with hsw | hsw
          · rw [hsw] at hw7
            have hon : onA e sw = .pointer none := by rw [hsw]; rfl
            have C1 := put_in (HM.out.sch.fr ff id id) hun (.func 18) #[] #[.pointer (some ⟨e.cb, 0, none⟩), .pointer (some ⟨sn, 0, none⟩), .pointer (some ⟨se, 0, none⟩)] (.pointer none) ⟨_, rfl⟩
            simp only [isF, Bool.false_eq_true, if_false] at C1
            have Hon := Lib.hid hon
            have H8 := Lib.hid (And.intro (HM.out.sch.fr ff id id) (And.intro ff (LFb w7 (Fr.refl _ _))))
            have hF8 := hF7
            clear hon hun ff hB hF7 hsw LFb
            have o0 := hF8.cell 0 rfl
            have o1 := hF8.cell 1 rfl
            go_wp2_with fail
            refine C1.mono ?_
            rintro x w9 ⟨rfl, hs9, hf9⟩
            have hF9 := hf9.blk hF8 (Ne.symm hfb)
            have q0 := hF9.cell 0 rfl
            have q1 := hF9.cell 1 rfl
            have C2 := put_in hs9 (List.getElem?_set_self (by rw [HM.out.len]; exact hkl)) (.func 18) #[] #[.pointer (some ⟨e.cb, 0, none⟩), .pointer (some ⟨sn, 0, none⟩), .pointer (some ⟨se, 0, none⟩)] (.pointer none) ⟨_, rfl⟩
            simp only [isF, if_true] at C2
            have H9 := Lib.hid (And.intro hs9 (And.intro hf9 C2))
            clear hs9 hf9 hF9 hF8 o0 o1 C1 C2
            go_wp2_with fail
            refine H9.out.2.2.mono ?_
            rintro x w10 ⟨rfl, hf10⟩
            have HN := Lib.hid ((HM.out.more Hxk.out H8.out.2.1 H8.out.2.2 Hn.out.1 Hn.out.2.1 Hn.out.2.2 H9.out.2.1 (by rw [Hfn.out, Hon.out]; exact H9.out.1)).new hf10)
            clear hf10 H9 H8 q0 q1
            go_wp2
            go_roundw
            case rel => exact ⟨k + 1, _, _, by rw [Hsum.out], by go_num, by omega, HN.out, rfl, rfl, rfl, rfl⟩
            case measure => simp [intOf]; omega
          · rw [hsw] at hw7
            have hon : onA e sw = .pointer (some ⟨e.mm, 0, none⟩) := by rw [hsw]; rfl
            have f78 : Fr (fun q => q = fb) w7 (w7.setCell ⟨fb, 1, none⟩ (.pointer (some ⟨e.mm, 0, none⟩))) := (Fr.refl _ w7).set1 _ _
            have hs8 := (HM.out.sch.fr ff id id).fr f78 ((HM.out.sch.fr ff id id).blk.ne hF7 (by decide)) hfb
            have C1 := put_in hs8 hun (.func 18) #[] #[.pointer (some ⟨e.cb, 0, none⟩), .pointer (some ⟨sn, 0, none⟩), .pointer (some ⟨se, 0, none⟩)] (.pointer (some ⟨e.mm, 0, none⟩)) ⟨_, rfl⟩
            simp only [isF, Bool.false_eq_true, if_false] at C1
            have Hon := Lib.hid hon
            have H8 := Lib.hid (And.intro hs8 (And.intro (ff.trans f78 (fun q hq hh => Hfb2.out q hh hq)) (LFb _ f78)))
            have hF8 := hF7.set 1 (.pointer (some ⟨e.mm, 0, none⟩))
            have k0 := hF7.cell 1 rfl
            have k1 := hF7.free 1
            have k2 := hF7.lt
            clear hon hun ff hB hs8 f78 hsw LFb hF7
            have o0 := hF8.cell 0 rfl
            have o1 := hF8.cell 1 rfl
            go_wp2_with fail
            refine C1.mono ?_
            rintro x w9 ⟨rfl, hs9, hf9⟩
            have hF9 := hf9.blk hF8 (Ne.symm hfb)
            have q0 := hF9.cell 0 rfl
            have q1 := hF9.cell 1 rfl
            have C2 := put_in hs9 (List.getElem?_set_self (by rw [HM.out.len]; exact hkl)) (.func 18) #[] #[.pointer (some ⟨e.cb, 0, none⟩), .pointer (some ⟨sn, 0, none⟩), .pointer (some ⟨se, 0, none⟩)] (.pointer (some ⟨e.mm, 0, none⟩)) ⟨_, rfl⟩
            simp only [isF, if_true] at C2
            have H9 := Lib.hid (And.intro hs9 (And.intro hf9 C2))
            clear hs9 hf9 hF9 hF8 o0 o1 C1 C2
            go_wp2_with fail
            refine H9.out.2.2.mono ?_
            rintro x w10 ⟨rfl, hf10⟩
            have HN := Lib.hid ((HM.out.more Hxk.out H8.out.2.1 H8.out.2.2 Hn.out.1 Hn.out.2.1 Hn.out.2.2 H9.out.2.1 (by rw [Hfn.out, Hon.out]; exact H9.out.1)).new hf10)
            clear hf10 H9 H8 q0 q1
            go_wp2
            go_roundw
            case rel => exact ⟨k + 1, _, _, by rw [Hsum.out], by go_num, by omega, HN.out, rfl, rfl, rfl, rfl⟩
            case measure => simp [intOf]; omega
        · obtain rfl : k = xs.length := by omega
          have i1 : ¬ (xs.length : Int) < (xs.length : Int) := by omega
          have hA := hM.all
          have hI := AInv.start sw xs hn8
          have hFr := hM.fr
          have hlow : ∀ q, AS e xs.length q → W.heap.size ≤ q := by
            obtain ⟨a1, a2, a3, a4, a5⟩ := hM.nw
            rintro q (rfl | rfl | rfl | rfl | ⟨j, hj, rfl | rfl⟩)
            · exact a1
            · exact a2
            · exact a3
            · exact a4
            · exact (a5 j hj).1
            · exact (a5 j hj).2
          have hw160 : sumA xs ≤ 160 := by have := sumA_le xs; omega
          have htot : tot 0 (xs.map at0) ≤ 2600 := by have := tot0_le xs; omega
          have H0 := Lib.hid (And.intro hA (And.intro hI (And.intro hFr htot)))
          have HL := Lib.hid hlow
          rw [List.take_length]
          clear hM hA hI hFr hlow htot HX
          go_wp2_with fail
          go_loopw [18] (fun i w7 => ∃ (j : Nat) (st : Int) (ts : List AT) (v : Nat) (held : Option Nat) (T' : List TV), i = .int .i64 j ∧ j + tot v ts ≤ 2600 ∧ AAt w7 e sw st ts v held T' ∧ AInv sw (sumA xs) ts v held ∧ ts.length = xs.length ∧ Fr (fun _ => False) W w7) (fun i _ => 20000 - (intOf i).toNat)
          case atStart => exact ⟨0, _, _, _, _, _, rfl, by have := H0.out.2.2.2; omega, H0.out.1, H0.out.2.1, by simp, H0.out.2.2.1⟩
          case round =>
            clear H0
            obtain ⟨j, st, ts, v, held, T', rfl, hj, hA, hI, hlen, hFr⟩ := hrel
            have j1 : (j : Int) < 20000 := by omega
            have HA := Lib.hid (And.intro hA (And.intro hI (And.intro hFr hj)))
            clear hA hI hj
            go_upto_region 25 with fail
            go_cut [93] (fun q W' => ∃ b : Bool, q = .bool b ∧ (b = true → j < ys.length) ∧ W' = wr)
            case first =>
              by_cases hjy : j < ys.length
              · have j3 : (j : Int) < (ys.length : Int) := by omega
                go_wp2
                go_meet
                exact ⟨_, rfl, fun _ => hjy, rfl⟩
              · have j3 : ¬ (j : Int) < (ys.length : Int) := by omega
                go_wp2
                go_meet
                exact ⟨false, rfl, fun h => (by cases h), rfl⟩
            case rest =>
            obtain ⟨b, rfl, hb, rfl⟩ := hcut
            go_upto_if 93 with fail
            go_cut [19] (fun n W' => ∃ x : Int, n = .int .i64 x ∧ W' = wc)
            case first =>
              cases b
              · clear hFr hb
                go_wp2
                go_meet
                exact ⟨_, rfl, rfl⟩
              · have hjy := hb rfl
                have hyj : ys[j]? = some ys[j] := List.getElem?_eq_getElem hjy
                generalize ys[j] = y at hyj
                obtain ⟨lb, rfl, cl⟩ := HY.out j (.int .i64 y) (by unfold i64s; rw [List.getElem?_map, hyj]; rfl)
                have cl1 := hFr.cell cl id
                have j2 : (0 : Int) ≤ (j : Int) := by omega
                have j3 : (j : Int) < (ys.length : Int) := by omega
                clear hFr cl hyj hjy hb
                go_wp2
                go_meet
                exact ⟨y, rfl, rfl⟩
            case rest =>
              obtain ⟨x, rfl, rfl⟩ := hcut
              have C1 := Lib.hid (apick HA.out.1 HA.out.2.1 (by omega) x)
              clear hFr
              go_wp2_with fail
              refine C1.out.mono ?_
              rintro e1 w8 (⟨hno, rfl, hf⟩ | ⟨kk, rfl, hf, hW⟩)
              · obtain ⟨rfl, rfl⟩ := HA.out.2.1.over hno
                have h8 := HA.out.1.new hf
                have o1 := h8.cv.cell 0 rfl
                have o2 := h8.mv.cell 0 rfl
                have C2 := Lib.hid (loadI_any h8.cel)
                have C3 := Lib.hid (setsI_any h8.cel)
                have C4 := Lib.hid (holder_any h8.mu)
                have HF := Lib.hid (HA.out.2.2.1.trans hf (fun _ _ h => h))
                clear h8 hf hno C1 HA
                unfold ptr hI at C4
                go_wp2_with fail
                refine C2.out.mono ?_
                rintro e2 w9 ⟨rfl, rfl⟩
                go_wp2_with fail
                refine C3.out.mono ?_
                rintro e2 w9 ⟨rfl, rfl⟩
                go_wp2_with fail
                refine C4.out.mono ?_
                rintro e2 w9 ⟨rfl, rfl⟩
                go_wp2
                go_ret
                exact ⟨rfl, HF.out⟩
              · have HW := Lib.hid (And.intro hf hW)
                clear hf hW C1
                go_wp2
                go_roundw
                case rel =>
                  obtain ⟨hf, st2, ts2, v2, held2, T2, b1, b2, b3, b4⟩ := HW.out
                  have hj := HA.out.2.2.2
                  exact ⟨j + 1, st2, ts2, v2, held2, T2, by go_num, by omega, b1, b2, by omega, HA.out.2.2.1.trans hf (fun q hq hh => by rw [hlen] at hh; have := HL.out q hh; omega)⟩
                case measure => simp [intOf]; omega
end Go.Proofs.Ytlljfopacdnpbaa
