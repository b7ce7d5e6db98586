/- begin, walked. Conditions: those of the lemmas. -/
import Derived.Test.YtlljfopacdnpbaaBegin2
namespace Go.Proofs.Ytlljfopacdnpbaa
open Go.RowKit
/-- The state at the start. -/
def s0 (n : Nat) : St := ⟨fun _ => 0, fun _ => 0, fun _ => none, List.replicate n 0⟩
set_option maxHeartbeats 4000000 in
set_option maxRecDepth 100000 in
theorem begin_ok (w : World) (LA : Option Addr) (lc : Nat) (ls : List PT) (h1 : 1 ≤ ls.length) (h16 : ls.length ≤ 16) (hL : Rd w LA (ls.map fun p => .slice p.A p.l.length p.cp))
    (hP : ∀ p ∈ ls, Rd w p.A (insR p.l) ∧ (∀ ad, p.A = some ad → ad.block < w.heap.size) ∧ (∀ x ∈ p.l, x.ok) ∧ p.l.length ≤ 60) :
    Calls Try.prog 9 #[.slice LA ls.length lc] w fun e w' => ∃ E tb T, e = .returned (.tuple #[.pointer (some ⟨E.wb, 0, none⟩), .bool true]) ∧ Run w w' E tb 0 ls (fun _ => 0) (s0 ls.length) T := by
  have f0 : Fr (fun _ => False) w (w.alloc (.cells #[.slice none 0 0, .slice none 0 0, .slice none 0 0, .pointer none] 38)) := (Fr.refl _ w).alloc _
  have m0 : Mk w (w.alloc (.cells #[.slice none 0 0, .slice none 0 0, .slice none 0 0, .pointer none] 38)) w.heap.size (.slice none 0 0) (.slice none 0 0) (fun _ => 0) (fun _ => 0) 0 0 :=
    ⟨Blk.at_new _ _ _ _ _ rfl rfl, Row.nil _ _, Row.nil _ _, fun j hj => absurd hj (Nat.not_lt_zero _), fun j hj => absurd hj (Nat.not_lt_zero _), fun i j hi => absurd hi (Nat.not_lt_zero _), fun i j hi => absurd hi (Nat.not_lt_zero _), f0, Nat.le_refl _, fun q hq => by simp [Value.ownBlock] at hq, fun q hq => by simp [Value.ownBlock] at hq, fun j hj => absurd hj (Nat.not_lt_zero _), fun j hj => absurd hj (Nat.not_lt_zero _)⟩
  go_enter Try.func9, Try.ntmps9
  go_wp2_with fail
  generalize w.alloc (.cells #[.slice none 0 0, .slice none 0 0, .slice none 0 0, .pointer none] 38) = w1 at m0 ⊢
  clear f0
  generalize hwb : w.heap.size = wb at m0 ⊢
  clear hwb
  go_loopw [5] (fun i W => ∃ (k : Nat) (cv mv : Value) (c m : Nat → Nat), i = .int .i64 k ∧ k ≤ 4 ∧ Mk w W wb cv mv c m k k) (fun i _ => 4 - (intOf i).toNat)
  case atStart => exact ⟨0, _, _, _, _, rfl, Nat.zero_le _, m0⟩
  case round =>
    clear m0
    obtain ⟨k, cv, mv, c, m, rfl, hk, hM⟩ := hrel
    by_cases hk4 : k < 4
    · have o0 := hM.obj.cell 0 rfl
      have of0 := hM.obj.free 0
      have ol := hM.obj.lt
      have ik : (k : Int) < 4 := by omega
      have HM := Lib.hid (hM.new ((Fr.refl (fun _ => False) wr).drew))
      clear hM
      go_upto_block 1 with fail
      go_cut [] (fun W => ∃ (cv' mv' : Value) (c' m' : Nat → Nat), Mk w W wb cv' mv' c' m' (k + 1) (k + 1))
      case first =>
        go_upto_region 5 with fail
        go_cut [] (fun W => ∃ (cv' : Value) (c' : Nat → Nat), Mk w W wb cv' mv c' m (k + 1) k)
        case first =>
          go_region_law
           (first
            | (show (if Region.wanted ⟨some 21, _, _, _, _, _⟩ _ = true then _ else _); rw [if_pos (by simp [Region.wanted])]; go_simp; refine (newCellI_any 0 _).mono ?_; rintro e w5 ⟨b, rfl, hc5, hf5, hb5⟩; dsimp only; have o5 := hf5.cell o0 id; have lo5 := (hf5.blk HM.out.obj id).lt)
            | (show (if Region.wanted ⟨some 23, _, _, _, _, _⟩ _ = true then _ else _); go_must (refine step_app1 (W := w5) rfl _ _ 34 47 (.pointer none) 8 rfl Try.underlying34 info47 rfl (by decide) cv (ptrs c k) (.pointer (some ⟨b, 0, none⟩)) rfl rfl rfl (HM.out.cs.fr hf5 (fun _ _ => id)) ?_ ?_); (rw [ptrs_len]; omega); intro g c2 w6 hR6 hor6 hf6 _; have b6 := hf6.blk (hf5.blk HM.out.obj id) (HM.out.cs.ne HM.out.obj (by decide)); have o6 := b6.cell 0 rfl; have of6 := b6.free 0; have l6 := b6.lt))
          all_goals
            (go_wp2
             go_meet
             exact ⟨_, _, (HM.out.new hf5).cell hc5 (Nat.le_trans HM.out.fr.size hb5) (fun j hj e => by have := Blk.lt (HM.out.cel j hj); omega) hf6 hR6 (fun q hq => by
               have e : g = q := by simpa [Value.ownBlock] using hq
               rw [← e]
               exact hor6.imp id (fun h => by omega))⟩)
        case rest =>
          obtain ⟨cv', c', hM2⟩ := hcut
          clear o0 of0 ol HM
          have o0 := hM2.obj.cell 1 rfl
          have of0 := hM2.obj.free 1
          have ol := hM2.obj.lt
          have HM := Lib.hid (hM2.new ((Fr.refl (fun _ => False) wc).drew))
          clear hM2
          go_upto_region 6 with fail
          go_region_law
           (first
            | (show (if Region.wanted ⟨some 31, _, _, _, _, _⟩ _ = true then _ else _); rw [if_pos (by simp [Region.wanted])]; go_simp; refine (newMutex_any _).mono ?_; rintro e w5 ⟨b, rfl, hc5, hf5, hb5⟩; dsimp only; have o5 := hf5.cell o0 id; have lo5 := (hf5.blk HM.out.obj id).lt)
            | (show (if Region.wanted ⟨some 33, _, _, _, _, _⟩ _ = true then _ else _); go_must (refine step_app1 (W := w5) rfl _ _ 35 49 (.pointer none) 8 rfl Try.underlying35 info49 rfl (by decide) mv (ptrs m k) (.pointer (some ⟨b, 0, none⟩)) rfl rfl rfl (HM.out.ms.fr hf5 (fun _ _ => id)) ?_ ?_); (rw [ptrs_len]; omega); intro g c2 w6 hR6 hor6 hf6 _; have b6 := hf6.blk (hf5.blk HM.out.obj id) (HM.out.ms.ne HM.out.obj (by decide)); have o6 := b6.cell 1 rfl; have of6 := b6.free 1; have l6 := b6.lt))
          all_goals
            (go_wp2
             go_meet
             exact ⟨_, _, _, _, (HM.out.new hf5).mutex hc5 (Nat.le_trans HM.out.fr.size hb5) (fun j hj e => by have := (HM.out.mux j hj).lt; omega) hf6 hR6 (fun q hq => by
               have e : g = q := by simpa [Value.ownBlock] using hq
               rw [← e]
               exact hor6.imp id (fun h => by omega))⟩)
      case rest =>
        obtain ⟨cv', mv', c', m', hM2⟩ := hcut
        clear o0 of0 ol HM
        go_wp2
        go_roundw
        case rel => exact ⟨k + 1, _, _, _, _, by go_num, by omega, hM2⟩
        case measure => simp [intOf]; omega
    · obtain rfl : k = 4 := by omega
      clear hk4 hk
      obtain ⟨cA, cc, hcv⟩ := hM.cs.slice
      obtain ⟨mA, mc, hmv⟩ := hM.ms.slice
      rw [ptrs_len] at hcv hmv
      subst hcv hmv
      obtain ⟨ca, rfl, _⟩ := hM.cs.head (by decide)
      obtain ⟨ma, rfl, _⟩ := hM.ms.head (by decide)
      have hs := snew_ok ls.length h1 h16 wr
      have o3 := hM.obj.cell 3 rfl
      have HM := Lib.hid hM
      have HP := Lib.hid (And.intro hL hP)
      clear hM hL hP
      go_wp2_with fail
      refine hs.mono ?_
      rintro e w5 ⟨sb, tb, rfl, hsch, hf5, hsb, htb, hne⟩
      have hM5 := HM.out.new hf5
      have q3 := hM5.obj.cell 3 rfl
      have qf3 := hM5.obj.free 3
      have ql := hM5.obj.lt
      have hf6 : Fr (fun q => q = wb) w5 (w5.setCell ⟨wb, 3, none⟩ (.pointer (some ⟨sb, 0, none⟩))) := (Fr.refl _ w5).set1 _ _
      have m2 : Mk2 w (w5.setCell ⟨wb, 3, none⟩ (.pointer (some ⟨sb, 0, none⟩))) ⟨wb, ca, cc, ma, mc, 0, 0, c, m, sb⟩ tb (.slice none 0 0) ls (List.replicate ls.length (.nilFunc, .pointer none)) 0 0 := by
        have hsw := HM.out.fr.size
        refine ⟨hM5.obj.set 3 _, hM5.cs.fr hf6 (fun q hq hh => ?_), hM5.ms.fr hf6 (fun q hq hh => ?_), fun j hj => hf6.blk (hM5.cel j hj) (Blk.ne (hM5.cel j hj) hM5.obj (by decide)), fun j hj => hf6.blk (hM5.mux j hj) ((hM5.mux j hj).ne hM5.obj (by decide)), hM5.ci, hM5.mi, Row.nil _ _, hsch.fr hf6 (hsch.blk.ne hM5.obj (by decide)) (hsch.tsk.ne hM5.obj (by decide)), by simp, fun i p hi => absurd hi (Nat.not_lt_zero _), fun i _ hi => by rw [List.getElem?_replicate, if_pos hi], ?_, ?_, HM.out.wn, fun q hq => by simp [Value.ownBlock] at hq⟩
        · subst hh; exact (hM5.cs.ne hM5.obj (by decide)) hq
        · subst hh; exact (hM5.ms.ne hM5.obj (by decide)) hq
        · exact hM5.fr.setCell _ _ (fun hh => by have := HM.out.wn; simp at hh; omega)
        · rintro q (⟨j, hj, rfl | rfl⟩ | rfl | rfl | rfl)
          · exact hM5.cn j hj
          · exact hM5.mn j hj
          · omega
          · omega
          · exact HM.out.wn
      clear hsch hf5 hf6 hM5 o3 hs
      go_upto_region 9 with fail
      generalize w5.setCell ⟨wb, 3, none⟩ (.pointer (some ⟨sb, 0, none⟩)) = w6 at m2 ⊢
      have hl0 : ¬ ls.length = 0 := by omega
      clear q3 qf3 ql HM
      go_wp2_with fail
      rw [show (((ls.length : Nat) : Int) == 0) = false by simpa using hl0]
      go_loopw [8, 9] (fun i _ W => ∃ (k : Nat) (kv : Value) (T : List TV), i = .int .i64 k ∧ k ≤ ls.length ∧ Mk2 w W ⟨wb, ca, cc, ma, mc, 0, 0, c, m, sb⟩ tb kv ls T k k) (fun i _ _ => ls.length - (intOf i).toNat)
      case atStart => exact ⟨0, _, _, rfl, Nat.zero_le _, m2⟩
      case round =>
        clear m2
        obtain ⟨k, kv, T, rfl, hk, hM⟩ := hrel
        by_cases hkl : k < ls.length
        · obtain ⟨p, hp⟩ : ∃ p, ls[k]? = some p := ⟨_, List.getElem?_eq_getElem hkl⟩
          obtain ⟨la, rfl, cl⟩ := HP.out.1 k (.slice p.A p.l.length p.cp) (by rw [List.getElem?_map, hp]; rfl)
          obtain ⟨hrd, hAl, hok, h60⟩ := HP.out.2 p (List.mem_of_getElem? hp)
          have q2 := hM.obj.cell 2 rfl
          have cl1 := hM.fr.cell cl id
          have ik0 : (0 : Int) ≤ (k : Int) := by omega
          have ik1 : (k : Int) < (ls.length : Int) := by omega
          have hTk := hM.un k (Nat.le_refl _) hkl
          have HM := Lib.hid hM
          clear hM
          go_upto_region 15 with (at_builtin; go_must (refine app1 (W := wr) rfl _ _ 23 3 (.int .i64 0) 8 rfl Try.underlying23 infoInt rfl (by decide) kv (i64s (List.replicate k 0)) (.int .i64 0) rfl rfl rfl HM.out.kn (by rw [i64s_len, List.length_replicate]; omega) ?_); intro g2 c2 w2 hR2 hor2 hf2 _; have b2 := hf2.blk HM.out.obj (HM.out.kn.ne HM.out.obj (by decide)); have q2' := b2.cell 2 rfl; have qf2 := b2.free 2; have ql2 := b2.lt; have cl2 := (HM.out.fr.trans hf2 (S' := fun q => kv.ownBlock = some q) (fun q hq hh => by have := HM.out.kw q hh; omega)).cell cl id)
          have hKn : Kn wr w2 kv (.slice (some ⟨g2, 0, none⟩) ((i64s (List.replicate k 0)).length + 1) c2) k := by
            refine ⟨?_, hf2, fun q hq => ?_⟩
            · have e : i64s (List.replicate (k + 1) 0) = i64s (List.replicate k 0) ++ [.int .i64 0] := by rw [List.replicate_succ']; simp [i64s]
              rw [e]
              exact hR2
            · have e : g2 = q := by simpa [Value.ownBlock] using hq
              rw [← e]
              exact hor2.imp id (fun h => by omega)
          have hM3 := HM.out.known hKn
          have cl3 := hM3.fr.cell cl id
          clear hKn hR2 hor2 hf2 b2 q2' qf2 ql2 cl2 q2 cl1 HM
          simp only [i64s_len, List.length_replicate] at hM3 cl3 ⊢
          generalize w2.setCell ⟨wb, 2, none⟩ (.slice (some ⟨g2, 0, none⟩) (k + 1) c2) = w3 at hM3 cl3 ⊢
          generalize Value.slice (some ⟨g2, 0, none⟩) (k + 1) c2 = kv' at hM3 ⊢
          have CN := next_any' (W := w3) ⟨wb, ca, cc, ma, mc, 0, 0, c, m, sb⟩ (hM3.obj.cell 1 rfl) (fun j hj => hM3.ms.cell j (by unfold ptrs; rw [List.getElem?_map, List.getElem?_range hj]; rfl)) p.A p.cp p.l hok (hrd.fr hM3.fr (fun _ _ => id)) 0 (by decide)
          rw [show ((0 : Nat) : Int) = 0 from rfl] at CN
          have HCN := Lib.hid CN
          have HM3 := Lib.hid hM3
          have z3 : ∀ q, Fx ⟨wb, ca, cc, ma, mc, 0, 0, c, m, sb⟩ tb q → q < w3.heap.size := hM3.lt
          have z3k : ∀ q, kv'.ownBlock = some q → q < w3.heap.size := fun q hq => hM3.kn.lt hq
          clear CN hM3
          go_wp2_with fail
          refine HCN.out.mono ?_
          rintro e w4 ⟨f', m', rfl, hv, hf4, ht4⟩
          have hM4 := HM3.out.new hf4
          have cl4 := hf4.cell cl3 id
          clear HCN
          by_cases hlen : 0 < p.l.length
          · obtain ⟨mq, hmq⟩ : ∃ q, m' = .pointer q := by have := nextV_ptr ⟨wb, ca, cc, ma, mc, 0, 0, c, m, sb⟩ p.l 0 w3.heap.size; rwa [← hv] at this
            obtain ⟨g, x, y, hfv⟩ : ∃ g x y, f' = .func g x y := by
              have h0 := isF_next ⟨wb, ca, cc, ma, mc, 0, 0, c, m, sb⟩ p.l 0 w3.heap.size
              have h1 := nextV_fun ⟨wb, ca, cc, ma, mc, 0, 0, c, m, sb⟩ p.l 0 w3.heap.size
              rw [← hv] at h0 h1
              rw [List.getElem?_eq_getElem hlen] at h0
              rcases h1 with h1 | h1
              · simp only at h1
                rw [h1] at h0
                cases h0
              · exact h1
            subst hmq hfv
            have hput := put_in hM4.sch hTk g x y (.pointer mq) ⟨mq, rfl⟩
            simp only [isF, Bool.false_eq_true, if_false] at hput
            have HPut := Lib.hid hput
            have HM4 := Lib.hid hM4
            have Hv := Lib.hid hv
            have Ht := Lib.hid (ht4 hlen)
            have il : (0 : Int) < (p.l.length : Int) := by omega
            clear hput hM4 hv ht4 HM3 hTk hlen cl3 cl4
            go_wp2_with fail
            refine HPut.out.mono ?_
            rintro e w5 ⟨rfl, hsch, hf5⟩
            rw [Hv.out] at hsch
            have hM5 := HM4.out.put hp hf5 hsch (fun _ => ⟨Ht.out, fun q hq hh => by have := z3 q hq; omega, fun q hq hh => by have := z3k q hq; omega⟩)
            have cl5 := hM5.fr.cell cl id
            have HM5 := Lib.hid hM5
            clear hsch hf5 hM5 HPut HM4 Ht
            go_wp2
            go_roundw
            case rel => exact ⟨k + 1, _, _, by go_num, by omega, HM5.out⟩
            case measure => simp [intOf]; omega
          · have hnil : p.l = [] := by
              apply List.eq_nil_of_length_eq_zero
              omega
            have hv2 : (f', m') = (Value.nilFunc, Value.pointer none) := by rw [hv, hnil]; rfl
            injection hv2 with e1 e2
            subst e1 e2
            have hput := put_none hM4.sch (k : Int) (.pointer none)
            have HPut := Lib.hid hput
            have HM4 := Lib.hid hM4
            have il : (p.l.length : Int) = 0 := by omega
            have il2 : p.l.length = 0 := by omega
            have Hv := Lib.hid hv
            have HTk := Lib.hid hTk
            clear hput hM4 hv ht4 HM3 hTk hlen cl3 cl4 hnil
            go_wp2_with fail
            refine HPut.out.mono ?_
            rintro e w5 ⟨rfl, hf5⟩
            have hM5 := HM4.out.put (n := w3.heap.size) hp (hf5.mono (fun _ _ h => h.elim)) (by
              rw [← Hv.out]
              have e : T.set k (.nilFunc, .pointer none) = T := by
                refine List.ext_getElem? (fun j => ?_)
                by_cases e : j = k
                · subst e
                  rw [List.getElem?_set_self (List.getElem?_eq_some_iff.1 HTk.out).1, HTk.out]
                · rw [List.getElem?_set_ne (Ne.symm e)]
              rw [e]
              exact HM4.out.sch.fr hf5 id id) (fun hl => by omega)
            have cl5 := hM5.fr.cell cl id
            have HM5 := Lib.hid hM5
            clear hf5 hM5 HPut HM4
            rw [il2] at cl5
            go_wp2
            go_roundw
            case rel => exact ⟨k + 1, _, _, by go_num, by omega, HM5.out⟩
            case measure => simp [intOf]; omega
        · obtain rfl : k = ls.length := by omega
          have hkr := hM.kn
          obtain ⟨kA, kc, hkv⟩ := hkr.slice
          rw [i64s_len, List.length_replicate] at hkv
          subst hkv
          obtain ⟨kb, rfl, _⟩ := hkr.head (by omega)
          have hR : Run w wr ⟨wb, ca, cc, ma, mc, kb, kc, c, m, sb⟩ tb 0 ls (fun _ => 0) (s0 ls.length) T := by
            have hM0 : ∀ q, Mem ⟨wb, ca, cc, ma, mc, kb, kc, c, m, sb⟩ tb q → q = kb ∨ Fx ⟨wb, ca, cc, ma, mc, 0, 0, c, m, sb⟩ tb q := by
              rintro q ((rfl | ⟨j, hj, h⟩) | rfl | rfl)
              · exact .inl rfl
              · exact .inr (.inl ⟨j, hj, h⟩)
              · exact .inr (.inr (.inl rfl))
              · exact .inr (.inr (.inr (.inl rfl)))
            have hnw : ∀ q, Mem ⟨wb, ca, cc, ma, mc, kb, kc, c, m, sb⟩ tb q → w.heap.size ≤ q := fun q hq => by
              rcases hM0 q hq with rfl | h
              · exact hM.kw _ rfl
              · exact hM.nw q h
            refine ⟨⟨?_, hM.cs, hM.ms, hM.cel, fun j hj => .inr ⟨m j, 0, rfl, hM.mux j hj, fun x hx => by cases hx⟩, ?_, hM.ci, hM.mi⟩, hM.sch, hM.len, fun i p hi => ?_, fun p hp => ?_, by simp [s0], fun k v hv => by simp [s0] at hv, hM.fr, hnw⟩
            · have := hM.obj
              simpa [s0] using this
            · simpa [s0] using hM.kn
            · obtain ⟨n, h1, h2⟩ := hM.tk i p (List.getElem?_eq_some_iff.1 hi).1 hi
              refine ⟨n, h1, fun hl => ?_⟩
              obtain ⟨g1, g2, g3⟩ := h2 hl
              refine ⟨g1, fun q hq => ?_⟩
              rcases hM0 q hq with rfl | h
              · exact g3 _ rfl
              · exact g2 q h
            · obtain ⟨g1, g2, g3, g4⟩ := HP.out.2 p hp
              exact ⟨g1.fr hM.fr (fun _ _ => id), fun ad hA hh => by have := g2 ad hA; have := hnw _ hh; omega, g3, g4⟩
          have HR := Lib.hid hR
          clear hR hM hkr
          go_wp2
          go_ret2
          exact ⟨_, _, _, rfl, HR.out⟩
end Go.Proofs.Ytlljfopacdnpbaa
