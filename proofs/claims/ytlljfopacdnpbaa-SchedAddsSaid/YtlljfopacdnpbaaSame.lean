/- same: the world stands as the reference's. Conditions: those of the lemma. -/
import Derived.Test.YtlljfopacdnpbaaRunPick2
import Derived.Test.YtlljfopacdnpbaaRNew
namespace Go.Proofs.Ytlljfopacdnpbaa
open Go.RowKit
section
variable {w W : World} {E : Env} {tb mb : Nat} {st : Int} {ls : List PT} {ts : List RT} {pos : Nat → Nat} {s : St} {T : List TV} {R : RE}
theorem same_cells (h : Run w W E tb st ls pos s T) (hA : RefAt W mb R ls ts pos s st) {j : Nat} (hj : j < 4) :
    W.cell? ⟨E.wb, 0, none⟩ = some (.slice (some ⟨E.ca, 0, none⟩) 4 E.cc) ∧ W.cell? ⟨E.wb, 1, none⟩ = some (.slice (some ⟨E.ma, 0, none⟩) 4 E.mc) ∧ W.cell? ⟨E.ca, j, none⟩ = some (.pointer (some ⟨E.c j, 0, none⟩)) ∧ W.cell? ⟨E.ma, j, none⟩ = some (.pointer (some ⟨E.m j, 0, none⟩)) ∧
    W.cell? ⟨mb, 1, none⟩ = some (.slice (some ⟨R.cb, 0, none⟩) 4 4) ∧ W.cell? ⟨mb, 2, none⟩ = some (.slice (some ⟨R.zb, 0, none⟩) 4 4) ∧ W.cell? ⟨mb, 3, none⟩ = some (.slice (some ⟨R.hb, 0, none⟩) 4 4) ∧
    W.cell? ⟨R.cb, j, none⟩ = some (.int .i64 (s.cells j)) ∧ W.cell? ⟨R.zb, j, none⟩ = some (.int .i64 (s.sets j)) ∧ W.cell? ⟨R.hb, j, none⟩ = some (.int .i64 ((s.held j).getD (-1))) :=
  ⟨h.wd.obj.cell 0 rfl, h.wd.obj.cell 1 rfl, h.wd.cAt hj, h.wd.mAt hj, hA.obj.cell 1 rfl, hA.obj.cell 2 rfl, hA.obj.cell 3 rfl, hA.cells.cell j (four_at _ hj), hA.sets.cell j (four_at _ hj), hA.held.cell j (four_at (fun k => (s.held k).getD (-1)) hj)⟩
theorem same_task (h : Run w W E tb st ls pos s T) (hA : RefAt W mb R ls ts pos s st) {j : Nat} {p : PT} {t : RT} (hp : ls[j]? = some p) (ht : ts[j]? = some t) :
    W.cell? ⟨E.wb, 2, none⟩ = some (.slice (some ⟨E.kb, 0, none⟩) ls.length E.kc) ∧ W.cell? ⟨E.wb, 3, none⟩ = some (.pointer (some ⟨E.sb, 0, none⟩)) ∧ W.cell? ⟨E.kb, j, none⟩ = some (.int .i64 t.kn) ∧
    W.cell? ⟨mb, 0, none⟩ = some (.slice (some ⟨R.tb, 0, none⟩) ls.length R.tc) ∧ W.cell? ⟨R.tb, j * 4, none⟩ = some (.slice p.A p.l.length p.cp) ∧ W.cell? ⟨R.tb, j * 4 + 1, none⟩ = some (.int .i64 (t.at_ : Int)) ∧ W.cell? ⟨R.tb, j * 4 + 2, none⟩ = some (.int .i64 t.kn) ∧ W.cell? ⟨R.tb, j * 4 + 3, none⟩ = some (.bool t.gone) := by
  have hrow := tksV_at hp ht
  obtain ⟨k1, _, _, _⟩ := hA.ok j p t hp ht
  have o2 := h.wd.obj.cell 2 rfl
  rw [h.kn] at o2
  refine ⟨o2, h.wd.obj.cell 3 rfl, h.wd.kn.cell j (by unfold i64s; rw [List.getElem?_map, k1]; rfl), hA.obj.cell 0 rfl, ?_, hA.tasks.cell j 1 hrow rfl, hA.tasks.cell j 2 hrow rfl, hA.tasks.cell j 3 hrow rfl⟩
  have := hA.tasks.cell j 0 hrow rfl
  rwa [Nat.add_zero] at this
theorem same_alive (h : Run w W E tb st ls pos s T) {j : Nat} {p : PT} (hp : ls[j]? = some p) : Calls Try.prog 34 #[.pointer (some ⟨E.sb, 0, none⟩), .int .i64 (j : Int)] W fun e w' => e = .returned (.bool (p.l[pos j]?).isSome) ∧ W = w' := by
  obtain ⟨n, h1, _⟩ := h.tk j p hp
  have := alive_in h.sch h1
  rwa [isF_next] at this
theorem same_ready (h : Run w W E tb st ls pos s T) {j : Nat} {p : PT} (hp : ls[j]? = some p) : Calls Try.prog 35 #[.pointer (some ⟨E.sb, 0, none⟩), .int .i64 (j : Int)] W fun e w' => e = .returned (.bool (readyA ls pos s j)) ∧ W = w' := by
  obtain ⟨n, h1, _⟩ := h.tk j p hp
  have := ready_in h.sch h1 (hd := upH ls pos s j) (fun hF => h.mu j _ h1 hF)
  rwa [← rdy_at (H := upH ls pos s) h1, h.ready] at this
end
/-! ### A region that draws, operation by operation -/
section
variable {P : Program} {md : Region.Mode} {ops : Array Oper} {Q : Exit → Act → World → Prop} {S : World → Prop} {i : Nat} {oi : Oper} {v : Value} {fuel : Nat} {listed : Array Bool} {a : Act} {w : World}
theorem takeH (hi : ops[i]? = some oi) (hs : Region.noSelect ops = true) (hf : Region.free md ops listed i = true) (hr : (Region.ready md ops listed).contains i = true)
    (hQ : ∀ c a w, Q (.panic c) (a.put oi.dst v) w → Q (.panic c) a w) (hw : Region.wanted oi (yielded ops a.tmps) = true) (hy : ∀ w, S w → (execOp a.eval oi).run P w = .ok (.value v) w) (hS : S w)
    (h : wpAnyH P md ops Q S fuel (listed.setIfInBounds i true) (a.put oi.dst v) w) : wpAnyH P md ops Q S (fuel + 1) listed a w :=
  wpAnyH_take hi hs hf hr hQ (Or.inl ⟨hw, hy⟩) hS h
theorem skipH (hi : ops[i]? = some oi) (hs : Region.noSelect ops = true) (hf : Region.free md ops listed i = true) (hr : (Region.ready md ops listed).contains i = true)
    (hQ : ∀ c a w, Q (.panic c) (a.put oi.dst undef) w → Q (.panic c) a w) (hw : Region.wanted oi (yielded ops a.tmps) = false) (hS : S w)
    (h : wpAnyH P md ops Q S fuel (listed.setIfInBounds i true) (a.put oi.dst undef) w) : wpAnyH P md ops Q S (fuel + 1) listed a w :=
  wpAnyH_take hi hs hf hr hQ (Or.inr ⟨hw, rfl⟩) hS h
end
set_option maxHeartbeats 4000000 in
set_option maxRecDepth 100000 in
theorem same_any {w W : World} {E : Env} {tb mb : Nat} {st : Int} {ls : List PT} {ts : List RT} {pos : Nat → Nat} {s : St} {T : List TV} {R : RE} (h : Run w W E tb st ls pos s T) (hA : RefAt W mb R ls ts pos s st) (hlt : ∀ p ∈ ls, ∀ ad, p.A = some ad → ad.block < W.heap.size) (hfew : ls.length ≤ 16) :
    Calls Try.prog 14 #[.pointer (some ⟨E.wb, 0, none⟩), worldV R ls.length st] W fun e w' => e = .returned (.bool true) ∧ Fr (fun _ => False) W w' := by
  have f1 : Fr (fun _ => False) W (W.alloc (.cells #[.slice (some ⟨R.tb, 0, none⟩) ls.length R.tc, .slice (some ⟨R.cb, 0, none⟩) 4 4, .slice (some ⟨R.zb, 0, none⟩) 4 4, .slice (some ⟨R.hb, 0, none⟩) 4 4, .int .i64 st] 31)) := (Fr.refl _ W).alloc _
  have hR1 := h.new f1
  have hA1 := (hA.new f1).box (mb' := W.heap.size) (Blk.at_new _ _ _ _ _ rfl rfl) (fun p hp ad e => by have := hlt p hp ad e; omega)
  unfold worldV
  clear h hA hlt
  go_enter Try.func14, Try.ntmps14
  go_upto_region 1 with fail
  generalize W.alloc (.cells #[.slice (some ⟨R.tb, 0, none⟩) ls.length R.tc, .slice (some ⟨R.cb, 0, none⟩) 4 4, .slice (some ⟨R.zb, 0, none⟩) 4 4, .slice (some ⟨R.hb, 0, none⟩) 4 4, .int .i64 st] 31) = W1 at f1 hR1 hA1 ⊢
  generalize W.heap.size = xb at hA1 ⊢
  have HF := Lib.hid f1
  have HR := Lib.hid hR1
  have HA := Lib.hid hA1
  clear f1 hR1 hA1
  go_wp2_with fail
  go_loopw [5] (fun i wr => ∃ j : Nat, i = .int .i64 j ∧ j ≤ 4 ∧ Fr (fun _ => False) W1 wr) (fun i _ => 4 - (intOf i).toNat)
  case atStart => exact ⟨0, rfl, Nat.zero_le _, Fr.refl _ _⟩
  case round =>
    obtain ⟨j, rfl, hj, hF⟩ := hrel
    by_cases hj4 : j < 4
    · have hR2 := HR.out.new hF
      have hA2 := HA.out.new hF
      obtain ⟨q0, q1, q2, q3, q4, q5, q6, q7, q8, q9⟩ := same_cells hR2 hA2 hj4
      have C1 := Lib.hid (fun n => loadI_any ((hR2.new ((Fr.refl (fun _ => False) wr).drewN n)).wd.cel j hj4))
      have C2 := Lib.hid (fun n => setsI_any ((hR2.new ((Fr.refl (fun _ => False) wr).drewN n)).wd.cel j hj4))
      have C3 := Lib.hid (fun n => holder_any ((hR2.new ((Fr.refl (fun _ => False) wr).drewN n)).wd.mux j hj4))
      have ka1 : (⟨E.ca, 0, none⟩ : Addr).add j = ⟨E.ca, j, none⟩ := add_plain _ _
      have ka2 : (⟨E.ma, 0, none⟩ : Addr).add j = ⟨E.ma, j, none⟩ := add_plain _ _
      have ka3 : (⟨R.cb, 0, none⟩ : Addr).add j = ⟨R.cb, j, none⟩ := add_plain _ _
      have ka4 : (⟨R.zb, 0, none⟩ : Addr).add j = ⟨R.zb, j, none⟩ := add_plain _ _
      have ka5 : (⟨R.hb, 0, none⟩ : Addr).add j = ⟨R.hb, j, none⟩ := add_plain _ _
      have i0 : (0 : Int) ≤ (j : Int) := by omega
      have i1 : (j : Int) < 4 := by omega
      have HF2 := Lib.hid hF
      clear hR2 hA2 hF
      go_upto_region 4 with fail
      go_quiet (first | (go_at_call 19; exact quiet_left (C1.out _)) | (go_at_call 26; exact quiet_left (C2.out _)) | (go_at_call 23; exact quiet_left (C3.out _)))
      go_wp2
      go_roundw
      case rel => exact ⟨j + 1, by go_num, by omega, HF2.out.drewN _⟩
      case measure => simp [intOf]; omega
    · have i1 : ¬ (j : Int) < 4 := by omega
      have HF2 := Lib.hid hF
      clear hF hj hj4
      go_wp2_with fail
      go_loopw [6] (fun i wr => ∃ j : Nat, i = .int .i64 j ∧ j ≤ ls.length ∧ Fr (fun _ => False) W1 wr) (fun i _ => ls.length - (intOf i).toNat)
      case atStart => exact ⟨0, rfl, Nat.zero_le _, HF2.out⟩
      case round =>
        clear HF2
        obtain ⟨j, rfl, hj, hF⟩ := hrel
        by_cases hjn : j < ls.length
        · have hp : ls[j]? = some ls[j] := List.getElem?_eq_getElem hjn
          have hti : ts[j]? = some (ts[j]'(by rw [HA.out.len]; exact hjn)) := List.getElem?_eq_getElem _
          generalize ts[j]'(by rw [HA.out.len]; exact hjn) = t at hti
          generalize ls[j] = p at hp
          have hA2 := HA.out.new hF.drew
          have hR2 := HR.out.new hF.drew
          obtain ⟨_, g1, g2, g3⟩ := HA.out.ok j p t hp hti
          have hok := (HR.out.rd p (List.mem_of_getElem? hp)).2.2.1
          obtain ⟨q0, q1, q2, q3, q4, q5, q6, q7⟩ := same_task (HR.out.new hF) (HA.out.new hF) hp hti
          have C1 := Lib.hid (fun W' (h : Fr (fun _ => False) wr.drew W') => same_ready (hR2.new h) hp)
          have C2 := Lib.hid (fun W' (h : Fr (fun _ => False) wr.drew W') => rready_any (hA2.new h) HR.out.hp hp hok)
          have C3 := Lib.hid (fun W' (h : Fr (fun _ => False) wr.drew W') => same_alive (hR2.new h) hp)
          have K0 := Lib.hid (fun W' (h : Fr (fun _ => False) wr.drew W') => same_task (hR2.new h) (hA2.new h) hp hti)
          have ka1 : (⟨E.kb, 0, none⟩ : Addr).add j = ⟨E.kb, j, none⟩ := add_plain _ _
          have ka2 : (⟨R.tb, 0, none⟩ : Addr).add (j * 4) = ⟨R.tb, j * 4, none⟩ := add_plain _ _
          have i0 : (0 : Int) ≤ (j : Int) := by omega
          have i1 : (j : Int) < (ls.length : Int) := by omega
          have ir := Fr.refl (fun _ => False) wr.drew
          cases hg : t.gone with
          | true =>
            have hx := g1 hg
            rw [hg] at q7
            rw [hx] at C3
            have HF2 := Lib.hid hF
            clear hR2 hA2 hF g1 g2 hx hok
            go_upto_region 9 with fail
            refine wp_region_held_drew (S := (fun W' => W'.cell? ⟨E.wb, 2, none⟩ = some (.slice (some ⟨E.kb, 0, none⟩) ls.length E.kc) ∧ W'.cell? ⟨E.wb, 3, none⟩ = some (.pointer (some ⟨E.sb, 0, none⟩)) ∧ W'.cell? ⟨E.kb, j, none⟩ = some (.int .i64 t.kn) ∧
                W'.cell? ⟨xb, 0, none⟩ = some (.slice (some ⟨R.tb, 0, none⟩) ls.length R.tc) ∧ W'.cell? ⟨R.tb, j * 4, none⟩ = some (.slice p.A p.l.length p.cp) ∧ W'.cell? ⟨R.tb, j * 4 + 1, none⟩ = some (.int .i64 (t.at_ : Int)) ∧ W'.cell? ⟨R.tb, j * 4 + 2, none⟩ = some (.int .i64 t.kn) ∧ W'.cell? ⟨R.tb, j * 4 + 3, none⟩ = some (.bool true))) (by kernel_rfl) (by (try dsimp only); rw [← hg]; exact K0.out _ ir) (fun hHeld => ?_)
            refine takeH (i := 0) (oi := ?oi0) (v := ?v0) ?hi (by kernel_rfl) (by kernel_rfl) (by kernel_rfl) ?hQ ?hw ?hy (by assumption) ?_
            case hi => (simp only [List.getElem?_toArray, List.getElem?_cons_succ, List.getElem?_cons_zero]; rfl)
            case hQ => exact fun _ _ _ h => h
            case hw => rfl
            case hy => (intro w hSw; (try dsimp only at hSw); go_simp; all_goals (with_reducible rfl))
            try simp only [Act.put, List.setIfInBounds_toArray, List.set_cons_zero, List.set_cons_succ]
            refine takeH (i := 1) (oi := ?oi1) (v := ?v1) ?hi (by kernel_rfl) (by kernel_rfl) (by kernel_rfl) ?hQ ?hw ?hy (by assumption) ?_
            case hi => (simp only [List.getElem?_toArray, List.getElem?_cons_succ, List.getElem?_cons_zero]; rfl)
            case hQ => exact fun _ _ _ h => h
            case hw => rfl
            case hy => (intro w hSw; (try dsimp only at hSw); go_simp; all_goals (with_reducible rfl))
            try simp only [Act.put, List.setIfInBounds_toArray, List.set_cons_zero, List.set_cons_succ]
            refine takeH (i := 2) (oi := ?oi2) (v := ?v2) ?hi (by kernel_rfl) (by kernel_rfl) (by kernel_rfl) ?hQ ?hw ?hy (by assumption) ?_
            case hi => (simp only [List.getElem?_toArray, List.getElem?_cons_succ, List.getElem?_cons_zero]; rfl)
            case hQ => exact fun _ _ _ h => h
            case hw => rfl
            case hy => (intro w hSw; (try dsimp only at hSw); go_simp; all_goals (with_reducible rfl))
            try simp only [Act.put, List.setIfInBounds_toArray, List.set_cons_zero, List.set_cons_succ]
            refine takeH (i := 3) (oi := ?oi3) (v := ?v3) ?hi (by kernel_rfl) (by kernel_rfl) (by kernel_rfl) ?hQ ?hw ?hy (by assumption) ?_
            case hi => (simp only [List.getElem?_toArray, List.getElem?_cons_succ, List.getElem?_cons_zero]; rfl)
            case hQ => exact fun _ _ _ h => h
            case hw => rfl
            case hy => (intro w hSw; (try dsimp only at hSw); go_simp; all_goals (with_reducible rfl))
            try simp only [Act.put, List.setIfInBounds_toArray, List.set_cons_zero, List.set_cons_succ]
            refine takeH (i := 4) (oi := ?oi4) (v := ?v4) ?hi (by kernel_rfl) (by kernel_rfl) (by kernel_rfl) ?hQ ?hw ?hy (by assumption) ?_
            case hi => (simp only [List.getElem?_toArray, List.getElem?_cons_succ, List.getElem?_cons_zero]; rfl)
            case hQ => exact fun _ _ _ h => h
            case hw => rfl
            case hy => (intro w hSw; (try dsimp only at hSw); go_simp; all_goals (with_reducible rfl))
            try simp only [Act.put, List.setIfInBounds_toArray, List.set_cons_zero, List.set_cons_succ]
            refine takeH (i := 5) (oi := ?oi5) (v := ?v5) ?hi (by kernel_rfl) (by kernel_rfl) (by kernel_rfl) ?hQ ?hw ?hy (by assumption) ?_
            case hi => (simp only [List.getElem?_toArray, List.getElem?_cons_succ, List.getElem?_cons_zero]; rfl)
            case hQ => exact fun _ _ _ h => h
            case hw => rfl
            case hy => (intro w hSw; (try dsimp only at hSw); go_simp; all_goals (with_reducible rfl))
            try simp only [Act.put, List.setIfInBounds_toArray, List.set_cons_zero, List.set_cons_succ]
            refine takeH (i := 6) (oi := ?oi6) (v := ?v6) ?hi (by kernel_rfl) (by kernel_rfl) (by kernel_rfl) ?hQ ?hw ?hy (by assumption) ?_
            case hi => (simp only [List.getElem?_toArray, List.getElem?_cons_succ, List.getElem?_cons_zero]; rfl)
            case hQ => exact fun _ _ _ h => h
            case hw => rfl
            case hy => (intro w hSw; (try dsimp only at hSw); go_simp; all_goals (with_reducible rfl))
            try simp only [Act.put, List.setIfInBounds_toArray, List.set_cons_zero, List.set_cons_succ]
            refine takeH (i := 7) (oi := ?oi7) (v := ?v7) ?hi (by kernel_rfl) (by kernel_rfl) (by kernel_rfl) ?hQ ?hw ?hy (by assumption) ?_
            case hi => (simp only [List.getElem?_toArray, List.getElem?_cons_succ, List.getElem?_cons_zero]; rfl)
            case hQ => exact fun _ _ _ h => h
            case hw => rfl
            case hy => (intro w hSw; (try dsimp only at hSw); go_simp; all_goals (with_reducible rfl))
            try simp only [Act.put, List.setIfInBounds_toArray, List.set_cons_zero, List.set_cons_succ]
            refine takeH (i := 8) (oi := ?oi8) (v := ?v8) ?hi (by kernel_rfl) (by kernel_rfl) (by kernel_rfl) ?hQ ?hw ?hy (by assumption) ?_
            case hi => (simp only [List.getElem?_toArray, List.getElem?_cons_succ, List.getElem?_cons_zero]; rfl)
            case hQ => exact fun _ _ _ h => h
            case hw => rfl
            case hy => (intro w hSw; (try dsimp only at hSw); go_simp; all_goals (with_reducible rfl))
            try simp only [Act.put, List.setIfInBounds_toArray, List.set_cons_zero, List.set_cons_succ]
            refine takeH (i := 9) (oi := ?oi9) (v := ?v9) ?hi (by kernel_rfl) (by kernel_rfl) (by kernel_rfl) ?hQ ?hw ?hy (by assumption) ?_
            case hi => (simp only [List.getElem?_toArray, List.getElem?_cons_succ, List.getElem?_cons_zero]; rfl)
            case hQ => exact fun _ _ _ h => h
            case hw => rfl
            case hy => (intro w hSw; (try dsimp only at hSw); go_simp; all_goals (with_reducible rfl))
            try simp only [Act.put, List.setIfInBounds_toArray, List.set_cons_zero, List.set_cons_succ]
            refine takeH (i := 10) (oi := ?oi10) (v := ?v10) ?hi (by kernel_rfl) (by kernel_rfl) (by kernel_rfl) ?hQ ?hw ?hy (by assumption) ?_
            case hi => (simp only [List.getElem?_toArray, List.getElem?_cons_succ, List.getElem?_cons_zero]; rfl)
            case hQ => exact fun _ _ _ h => h
            case hw => rfl
            case hy => (intro w hSw; (try dsimp only at hSw); go_simp; all_goals (with_reducible rfl))
            try simp only [Act.put, List.setIfInBounds_toArray, List.set_cons_zero, List.set_cons_succ]
            refine takeH (i := 11) (oi := ?oi11) (v := ?v11) ?hi (by kernel_rfl) (by kernel_rfl) (by kernel_rfl) ?hQ ?hw ?hy (by assumption) ?_
            case hi => (simp only [List.getElem?_toArray, List.getElem?_cons_succ, List.getElem?_cons_zero]; rfl)
            case hQ => exact fun _ _ _ h => h
            case hw => rfl
            case hy => (intro w hSw; (try dsimp only at hSw); go_simp; all_goals (with_reducible rfl))
            try simp only [Act.put, List.setIfInBounds_toArray, List.set_cons_zero, List.set_cons_succ]
            refine takeH (i := 12) (oi := ?oi12) (v := ?v12) ?hi (by kernel_rfl) (by kernel_rfl) (by kernel_rfl) ?hQ ?hw ?hy (by assumption) ?_
            case hi => (simp only [List.getElem?_toArray, List.getElem?_cons_succ, List.getElem?_cons_zero]; rfl)
            case hQ => exact fun _ _ _ h => h
            case hw => rfl
            case hy => (intro w hSw; (try dsimp only at hSw); go_simp; all_goals (with_reducible rfl))
            try simp only [Act.put, List.setIfInBounds_toArray, List.set_cons_zero, List.set_cons_succ]
            refine takeH (i := 13) (oi := ?oi13) (v := ?v13) ?hi (by kernel_rfl) (by kernel_rfl) (by kernel_rfl) ?hQ ?hw ?hy (by assumption) ?_
            case hi => (simp only [List.getElem?_toArray, List.getElem?_cons_succ, List.getElem?_cons_zero]; rfl)
            case hQ => exact fun _ _ _ h => h
            case hw => rfl
            case hy => (intro w hSw; (try dsimp only at hSw); go_simp; all_goals (with_reducible rfl))
            try simp only [Act.put, List.setIfInBounds_toArray, List.set_cons_zero, List.set_cons_succ]
            refine takeH (i := 14) (oi := ?oi14) (v := ?v14) ?hi (by kernel_rfl) (by kernel_rfl) (by kernel_rfl) ?hQ ?hw ?hy (by assumption) ?_
            case hi => (simp only [List.getElem?_toArray, List.getElem?_cons_succ, List.getElem?_cons_zero]; rfl)
            case hQ => exact fun _ _ _ h => h
            case hw => rfl
            case hy => (intro w hSw; (try dsimp only at hSw); go_simp; all_goals (with_reducible rfl))
            try simp only [Act.put, List.setIfInBounds_toArray, List.set_cons_zero, List.set_cons_succ]
            refine takeH (i := 15) (oi := ?oi15) (v := ?v15) ?hi (by kernel_rfl) (by kernel_rfl) (by kernel_rfl) ?hQ ?hw ?hy (by assumption) ?_
            case hi => (simp only [List.getElem?_toArray, List.getElem?_cons_succ, List.getElem?_cons_zero]; rfl)
            case hQ => exact fun _ _ _ h => h
            case hw => rfl
            case hy => (intro w hSw; (try dsimp only at hSw); go_simp; all_goals (with_reducible rfl))
            try simp only [Act.put, List.setIfInBounds_toArray, List.set_cons_zero, List.set_cons_succ]
            refine takeH (i := 16) (oi := ?oi16) (v := ?v16) ?hi (by kernel_rfl) (by kernel_rfl) (by kernel_rfl) ?hQ ?hw ?hy (by assumption) ?_
            case hi => (simp only [List.getElem?_toArray, List.getElem?_cons_succ, List.getElem?_cons_zero]; rfl)
            case hQ => exact fun _ _ _ h => h
            case hw => rfl
            case hy => (intro w hSw; (try dsimp only at hSw); go_simp; all_goals (with_reducible rfl))
            try simp only [Act.put, List.setIfInBounds_toArray, List.set_cons_zero, List.set_cons_succ]
            refine takeH (i := 17) (oi := ?oi17) (v := ?v17) ?hi (by kernel_rfl) (by kernel_rfl) (by kernel_rfl) ?hQ ?hw ?hy (by assumption) ?_
            case hi => (simp only [List.getElem?_toArray, List.getElem?_cons_succ, List.getElem?_cons_zero]; rfl)
            case hQ => exact fun _ _ _ h => h
            case hw => rfl
            case hy => (intro w hSw; (try dsimp only at hSw); go_simp; all_goals (with_reducible rfl))
            try simp only [Act.put, List.setIfInBounds_toArray, List.set_cons_zero, List.set_cons_succ]
            refine takeH (i := 18) (oi := ?oi18) (v := ?v18) ?hi (by kernel_rfl) (by kernel_rfl) (by kernel_rfl) ?hQ ?hw ?hy (by assumption) ?_
            case hi => (simp only [List.getElem?_toArray, List.getElem?_cons_succ, List.getElem?_cons_zero]; rfl)
            case hQ => exact fun _ _ _ h => h
            case hw => rfl
            case hy => (intro w hSw; (try dsimp only at hSw); go_simp; all_goals (with_reducible rfl))
            try simp only [Act.put, List.setIfInBounds_toArray, List.set_cons_zero, List.set_cons_succ]
            refine takeH (i := 19) (oi := ?oi19) (v := ?v19) ?hi (by kernel_rfl) (by kernel_rfl) (by kernel_rfl) ?hQ ?hw ?hy (by assumption) ?_
            case hi => (simp only [List.getElem?_toArray, List.getElem?_cons_succ, List.getElem?_cons_zero]; rfl)
            case hQ => exact fun _ _ _ h => h
            case hw => rfl
            case hy => (intro w hSw; (try dsimp only at hSw); go_simp; all_goals (with_reducible rfl))
            try simp only [Act.put, List.setIfInBounds_toArray, List.set_cons_zero, List.set_cons_succ]
            refine takeH (i := 21) (oi := ?oi21) (v := ?v21) ?hi (by kernel_rfl) (by kernel_rfl) (by kernel_rfl) ?hQ ?hw ?hy (by assumption) ?_
            case hi => (simp only [List.getElem?_toArray, List.getElem?_cons_succ, List.getElem?_cons_zero]; rfl)
            case hQ => exact fun _ _ _ h => h
            case hw => rfl
            case hy => (intro w hSw; (try dsimp only at hSw); go_simp; all_goals (with_reducible rfl))
            try simp only [Act.put, List.setIfInBounds_toArray, List.set_cons_zero, List.set_cons_succ]
            refine wpAnyH_ready (rs := [20]) (by kernel_rfl) (by simp) (AllReadyH.cons (o := ?oi20) ?ho (fun K hK => ?hk) AllReadyH.nil)
            case ho => (simp only [List.getElem?_toArray, List.getElem?_cons_succ, List.getElem?_cons_zero]; rfl)
            case hk =>
              go_simp
              go_at_call 35
              refine (C1.out _ (by assumption)).mono ?_
              rintro e w5 ⟨rfl, rfl⟩
              try dsimp only
              refine hK.out _ _ ?_ (fun hHeld => ?_)
              · (try dsimp only); first | (rw [← hg]; exact K0.out _ ir) | (rw [← hg]; exact K0.out _ f8)
              clear hK K
              try simp only [Act.put, List.setIfInBounds_toArray, List.set_cons_zero, List.set_cons_succ]
              refine wpAnyH_ready (rs := [22]) (by kernel_rfl) (by simp) (AllReadyH.cons (o := ?oi22) ?ho (fun K hK => ?hk) AllReadyH.nil)
              case ho => (simp only [List.getElem?_toArray, List.getElem?_cons_succ, List.getElem?_cons_zero]; rfl)
              case hk =>
                go_simp
                go_at_call 36
                refine (C2.out _ (by assumption)).mono ?_
                rintro e w8 ⟨rfl, f8⟩
                try dsimp only
                refine hK.out _ _ ?_ (fun hHeld => ?_)
                · (try dsimp only); first | (rw [← hg]; exact K0.out _ ir) | (rw [← hg]; exact K0.out _ f8)
                clear hK K
                try simp only [Act.put, List.setIfInBounds_toArray, List.set_cons_zero, List.set_cons_succ]
                refine takeH (i := 23) (oi := ?oi23) (v := ?v23) ?hi (by kernel_rfl) (by kernel_rfl) (by kernel_rfl) ?hQ ?hw ?hy (by assumption) ?_
                case hi => (simp only [List.getElem?_toArray, List.getElem?_cons_succ, List.getElem?_cons_zero]; rfl)
                case hQ => exact fun _ _ _ h => h
                case hw => rfl
                case hy => (intro w hSw; (try dsimp only at hSw); go_simp; all_goals (with_reducible rfl))
                try simp only [Act.put, List.setIfInBounds_toArray, List.set_cons_zero, List.set_cons_succ]
                refine takeH (i := 24) (oi := ?oi24) (v := ?v24) ?hi (by kernel_rfl) (by kernel_rfl) (by kernel_rfl) ?hQ ?hw ?hy (by assumption) ?_
                case hi => (simp only [List.getElem?_toArray, List.getElem?_cons_succ, List.getElem?_cons_zero]; rfl)
                case hQ => exact fun _ _ _ h => h
                case hw => rfl
                case hy => (intro w hSw; (try dsimp only at hSw); go_simp; all_goals (with_reducible rfl))
                try simp only [Act.put, List.setIfInBounds_toArray, List.set_cons_zero, List.set_cons_succ]
                refine takeH (i := 25) (oi := ?oi25) (v := ?v25) ?hi (by kernel_rfl) (by kernel_rfl) (by kernel_rfl) ?hQ ?hw ?hy (by assumption) ?_
                case hi => (simp only [List.getElem?_toArray, List.getElem?_cons_succ, List.getElem?_cons_zero]; rfl)
                case hQ => exact fun _ _ _ h => h
                case hw => rfl
                case hy => (intro w hSw; (try dsimp only at hSw); go_simp; all_goals (with_reducible rfl))
                try simp only [Act.put, List.setIfInBounds_toArray, List.set_cons_zero, List.set_cons_succ]
                refine takeH (i := 26) (oi := ?oi26) (v := ?v26) ?hi (by kernel_rfl) (by kernel_rfl) (by kernel_rfl) ?hQ ?hw ?hy (by assumption) ?_
                case hi => (simp only [List.getElem?_toArray, List.getElem?_cons_succ, List.getElem?_cons_zero]; rfl)
                case hQ => exact fun _ _ _ h => h
                case hw => rfl
                case hy => (intro w hSw; (try dsimp only at hSw); go_simp; all_goals (with_reducible rfl))
                try simp only [Act.put, List.setIfInBounds_toArray, List.set_cons_zero, List.set_cons_succ]
                refine takeH (i := 27) (oi := ?oi27) (v := ?v27) ?hi (by kernel_rfl) (by kernel_rfl) (by kernel_rfl) ?hQ ?hw ?hy (by assumption) ?_
                case hi => (simp only [List.getElem?_toArray, List.getElem?_cons_succ, List.getElem?_cons_zero]; rfl)
                case hQ => exact fun _ _ _ h => h
                case hw => rfl
                case hy => (intro w hSw; (try dsimp only at hSw); go_simp; all_goals (with_reducible rfl))
                try simp only [Act.put, List.setIfInBounds_toArray, List.set_cons_zero, List.set_cons_succ]
                refine takeH (i := 28) (oi := ?oi28) (v := ?v28) ?hi (by kernel_rfl) (by kernel_rfl) (by kernel_rfl) ?hQ ?hw ?hy (by assumption) ?_
                case hi => (simp only [List.getElem?_toArray, List.getElem?_cons_succ, List.getElem?_cons_zero]; rfl)
                case hQ => exact fun _ _ _ h => h
                case hw => rfl
                case hy => (intro w hSw; (try dsimp only at hSw); go_simp; all_goals (with_reducible rfl))
                try simp only [Act.put, List.setIfInBounds_toArray, List.set_cons_zero, List.set_cons_succ]
                refine takeH (i := 29) (oi := ?oi29) (v := ?v29) ?hi (by kernel_rfl) (by kernel_rfl) (by kernel_rfl) ?hQ ?hw ?hy (by assumption) ?_
                case hi => (simp only [List.getElem?_toArray, List.getElem?_cons_succ, List.getElem?_cons_zero]; rfl)
                case hQ => exact fun _ _ _ h => h
                case hw => rfl
                case hy => (intro w hSw; (try dsimp only at hSw); go_simp; all_goals (with_reducible rfl))
                try simp only [Act.put, List.setIfInBounds_toArray, List.set_cons_zero, List.set_cons_succ]
                refine takeH (i := 30) (oi := ?oi30) (v := ?v30) ?hi (by kernel_rfl) (by kernel_rfl) (by kernel_rfl) ?hQ ?hw ?hy (by assumption) ?_
                case hi => (simp only [List.getElem?_toArray, List.getElem?_cons_succ, List.getElem?_cons_zero]; rfl)
                case hQ => exact fun _ _ _ h => h
                case hw => rfl
                case hy => (intro w hSw; (try dsimp only at hSw); go_simp; all_goals (with_reducible rfl))
                try simp only [Act.put, List.setIfInBounds_toArray, List.set_cons_zero, List.set_cons_succ]
                refine takeH (i := 32) (oi := ?oi32) (v := ?v32) ?hi (by kernel_rfl) (by kernel_rfl) (by kernel_rfl) ?hQ ?hw ?hy (by assumption) ?_
                case hi => (simp only [List.getElem?_toArray, List.getElem?_cons_succ, List.getElem?_cons_zero]; rfl)
                case hQ => exact fun _ _ _ h => h
                case hw => rfl
                case hy => (intro w hSw; (try dsimp only at hSw); go_simp; all_goals (with_reducible rfl))
                try simp only [Act.put, List.setIfInBounds_toArray, List.set_cons_zero, List.set_cons_succ]
                refine takeH (i := 33) (oi := ?oi33) (v := ?v33) ?hi (by kernel_rfl) (by kernel_rfl) (by kernel_rfl) ?hQ ?hw ?hy (by assumption) ?_
                case hi => (simp only [List.getElem?_toArray, List.getElem?_cons_succ, List.getElem?_cons_zero]; rfl)
                case hQ => exact fun _ _ _ h => h
                case hw => rfl
                case hy => (intro w hSw; (try dsimp only at hSw); go_simp; all_goals (with_reducible rfl))
                try simp only [Act.put, List.setIfInBounds_toArray, List.set_cons_zero, List.set_cons_succ]
                refine takeH (i := 34) (oi := ?oi34) (v := ?v34) ?hi (by kernel_rfl) (by kernel_rfl) (by kernel_rfl) ?hQ ?hw ?hy (by assumption) ?_
                case hi => (simp only [List.getElem?_toArray, List.getElem?_cons_succ, List.getElem?_cons_zero]; rfl)
                case hQ => exact fun _ _ _ h => h
                case hw => rfl
                case hy => (intro w hSw; (try dsimp only at hSw); go_simp; all_goals (with_reducible rfl))
                try simp only [Act.put, List.setIfInBounds_toArray, List.set_cons_zero, List.set_cons_succ]
                refine takeH (i := 35) (oi := ?oi35) (v := ?v35) ?hi (by kernel_rfl) (by kernel_rfl) (by kernel_rfl) ?hQ ?hw ?hy (by assumption) ?_
                case hi => (simp only [List.getElem?_toArray, List.getElem?_cons_succ, List.getElem?_cons_zero]; rfl)
                case hQ => exact fun _ _ _ h => h
                case hw => rfl
                case hy => (intro w hSw; (try dsimp only at hSw); go_simp; all_goals (with_reducible rfl))
                try simp only [Act.put, List.setIfInBounds_toArray, List.set_cons_zero, List.set_cons_succ]
                refine takeH (i := 36) (oi := ?oi36) (v := ?v36) ?hi (by kernel_rfl) (by kernel_rfl) (by kernel_rfl) ?hQ ?hw ?hy (by assumption) ?_
                case hi => (simp only [List.getElem?_toArray, List.getElem?_cons_succ, List.getElem?_cons_zero]; rfl)
                case hQ => exact fun _ _ _ h => h
                case hw => rfl
                case hy => (intro w hSw; (try dsimp only at hSw); go_simp; all_goals (with_reducible rfl))
                try simp only [Act.put, List.setIfInBounds_toArray, List.set_cons_zero, List.set_cons_succ]
                refine takeH (i := 37) (oi := ?oi37) (v := ?v37) ?hi (by kernel_rfl) (by kernel_rfl) (by kernel_rfl) ?hQ ?hw ?hy (by assumption) ?_
                case hi => (simp only [List.getElem?_toArray, List.getElem?_cons_succ, List.getElem?_cons_zero]; rfl)
                case hQ => exact fun _ _ _ h => h
                case hw => rfl
                case hy => (intro w hSw; (try dsimp only at hSw); go_simp; all_goals (with_reducible rfl))
                try simp only [Act.put, List.setIfInBounds_toArray, List.set_cons_zero, List.set_cons_succ]
                refine takeH (i := 38) (oi := ?oi38) (v := ?v38) ?hi (by kernel_rfl) (by kernel_rfl) (by kernel_rfl) ?hQ ?hw ?hy (by assumption) ?_
                case hi => (simp only [List.getElem?_toArray, List.getElem?_cons_succ, List.getElem?_cons_zero]; rfl)
                case hQ => exact fun _ _ _ h => h
                case hw => rfl
                case hy => (intro w hSw; (try dsimp only at hSw); go_simp; all_goals (with_reducible rfl))
                try simp only [Act.put, List.setIfInBounds_toArray, List.set_cons_zero, List.set_cons_succ]
                refine wpAnyH_ready (rs := [31]) (by kernel_rfl) (by simp) (AllReadyH.cons (o := ?oi31) ?ho (fun K hK => ?hk) AllReadyH.nil)
                case ho => (simp only [List.getElem?_toArray, List.getElem?_cons_succ, List.getElem?_cons_zero]; rfl)
                case hk =>
                  go_simp
                  go_at_call 34
                  refine (C3.out _ (by assumption)).mono ?_
                  rintro e w5 ⟨rfl, rfl⟩
                  try dsimp only
                  refine hK.out _ _ ?_ (fun hHeld => ?_)
                  · (try dsimp only); first | (rw [← hg]; exact K0.out _ ir) | (rw [← hg]; exact K0.out _ f8)
                  clear hK K
                  try simp only [Act.put, List.setIfInBounds_toArray, List.set_cons_zero, List.set_cons_succ]
                  refine takeH (i := 39) (oi := ?oi39) (v := ?v39) ?hi (by kernel_rfl) (by kernel_rfl) (by kernel_rfl) ?hQ ?hw ?hy (by assumption) ?_
                  case hi => (simp only [List.getElem?_toArray, List.getElem?_cons_succ, List.getElem?_cons_zero]; rfl)
                  case hQ => exact fun _ _ _ h => h
                  case hw => rfl
                  case hy => (intro w hSw; (try dsimp only at hSw); go_simp; all_goals (with_reducible rfl))
                  try simp only [Act.put, List.setIfInBounds_toArray, List.set_cons_zero, List.set_cons_succ]
                  refine skipH (i := 40) (oi := ?oi40) ?hi (by kernel_rfl) (by kernel_rfl) (by kernel_rfl) ?hQ ?hw (by assumption) ?_
                  case hi => (simp only [List.getElem?_toArray, List.getElem?_cons_succ, List.getElem?_cons_zero]; rfl)
                  case hQ => exact fun _ _ _ h => h
                  case hw => rfl
                  try simp only [Act.put, List.setIfInBounds_toArray, List.set_cons_zero, List.set_cons_succ]
                  refine skipH (i := 41) (oi := ?oi41) ?hi (by kernel_rfl) (by kernel_rfl) (by kernel_rfl) ?hQ ?hw (by assumption) ?_
                  case hi => (simp only [List.getElem?_toArray, List.getElem?_cons_succ, List.getElem?_cons_zero]; rfl)
                  case hQ => exact fun _ _ _ h => h
                  case hw => rfl
                  try simp only [Act.put, List.setIfInBounds_toArray, List.set_cons_zero, List.set_cons_succ]
                  refine skipH (i := 42) (oi := ?oi42) ?hi (by kernel_rfl) (by kernel_rfl) (by kernel_rfl) ?hQ ?hw (by assumption) ?_
                  case hi => (simp only [List.getElem?_toArray, List.getElem?_cons_succ, List.getElem?_cons_zero]; rfl)
                  case hQ => exact fun _ _ _ h => h
                  case hw => rfl
                  try simp only [Act.put, List.setIfInBounds_toArray, List.set_cons_zero, List.set_cons_succ]
                  refine skipH (i := 43) (oi := ?oi43) ?hi (by kernel_rfl) (by kernel_rfl) (by kernel_rfl) ?hQ ?hw (by assumption) ?_
                  case hi => (simp only [List.getElem?_toArray, List.getElem?_cons_succ, List.getElem?_cons_zero]; rfl)
                  case hQ => exact fun _ _ _ h => h
                  case hw => rfl
                  try simp only [Act.put, List.setIfInBounds_toArray, List.set_cons_zero, List.set_cons_succ]
                  refine skipH (i := 44) (oi := ?oi44) ?hi (by kernel_rfl) (by kernel_rfl) (by kernel_rfl) ?hQ ?hw (by assumption) ?_
                  case hi => (simp only [List.getElem?_toArray, List.getElem?_cons_succ, List.getElem?_cons_zero]; rfl)
                  case hQ => exact fun _ _ _ h => h
                  case hw => rfl
                  try simp only [Act.put, List.setIfInBounds_toArray, List.set_cons_zero, List.set_cons_succ]
                  refine skipH (i := 45) (oi := ?oi45) ?hi (by kernel_rfl) (by kernel_rfl) (by kernel_rfl) ?hQ ?hw (by assumption) ?_
                  case hi => (simp only [List.getElem?_toArray, List.getElem?_cons_succ, List.getElem?_cons_zero]; rfl)
                  case hQ => exact fun _ _ _ h => h
                  case hw => rfl
                  try simp only [Act.put, List.setIfInBounds_toArray, List.set_cons_zero, List.set_cons_succ]
                  refine skipH (i := 46) (oi := ?oi46) ?hi (by kernel_rfl) (by kernel_rfl) (by kernel_rfl) ?hQ ?hw (by assumption) ?_
                  case hi => (simp only [List.getElem?_toArray, List.getElem?_cons_succ, List.getElem?_cons_zero]; rfl)
                  case hQ => exact fun _ _ _ h => h
                  case hw => rfl
                  try simp only [Act.put, List.setIfInBounds_toArray, List.set_cons_zero, List.set_cons_succ]
                  refine skipH (i := 47) (oi := ?oi47) ?hi (by kernel_rfl) (by kernel_rfl) (by kernel_rfl) ?hQ ?hw (by assumption) ?_
                  case hi => (simp only [List.getElem?_toArray, List.getElem?_cons_succ, List.getElem?_cons_zero]; rfl)
                  case hQ => exact fun _ _ _ h => h
                  case hw => rfl
                  try simp only [Act.put, List.setIfInBounds_toArray, List.set_cons_zero, List.set_cons_succ]
                  refine skipH (i := 48) (oi := ?oi48) ?hi (by kernel_rfl) (by kernel_rfl) (by kernel_rfl) ?hQ ?hw (by assumption) ?_
                  case hi => (simp only [List.getElem?_toArray, List.getElem?_cons_succ, List.getElem?_cons_zero]; rfl)
                  case hQ => exact fun _ _ _ h => h
                  case hw => rfl
                  try simp only [Act.put, List.setIfInBounds_toArray, List.set_cons_zero, List.set_cons_succ]
                  refine skipH (i := 49) (oi := ?oi49) ?hi (by kernel_rfl) (by kernel_rfl) (by kernel_rfl) ?hQ ?hw (by assumption) ?_
                  case hi => (simp only [List.getElem?_toArray, List.getElem?_cons_succ, List.getElem?_cons_zero]; rfl)
                  case hQ => exact fun _ _ _ h => h
                  case hw => rfl
                  try simp only [Act.put, List.setIfInBounds_toArray, List.set_cons_zero, List.set_cons_succ]
                  refine skipH (i := 50) (oi := ?oi50) ?hi (by kernel_rfl) (by kernel_rfl) (by kernel_rfl) ?hQ ?hw (by assumption) ?_
                  case hi => (simp only [List.getElem?_toArray, List.getElem?_cons_succ, List.getElem?_cons_zero]; rfl)
                  case hQ => exact fun _ _ _ h => h
                  case hw => rfl
                  try simp only [Act.put, List.setIfInBounds_toArray, List.set_cons_zero, List.set_cons_succ]
                  refine skipH (i := 51) (oi := ?oi51) ?hi (by kernel_rfl) (by kernel_rfl) (by kernel_rfl) ?hQ ?hw (by assumption) ?_
                  case hi => (simp only [List.getElem?_toArray, List.getElem?_cons_succ, List.getElem?_cons_zero]; rfl)
                  case hQ => exact fun _ _ _ h => h
                  case hw => rfl
                  try simp only [Act.put, List.setIfInBounds_toArray, List.set_cons_zero, List.set_cons_succ]
                  refine skipH (i := 52) (oi := ?oi52) ?hi (by kernel_rfl) (by kernel_rfl) (by kernel_rfl) ?hQ ?hw (by assumption) ?_
                  case hi => (simp only [List.getElem?_toArray, List.getElem?_cons_succ, List.getElem?_cons_zero]; rfl)
                  case hQ => exact fun _ _ _ h => h
                  case hw => rfl
                  try simp only [Act.put, List.setIfInBounds_toArray, List.set_cons_zero, List.set_cons_succ]
                  refine skipH (i := 53) (oi := ?oi53) ?hi (by kernel_rfl) (by kernel_rfl) (by kernel_rfl) ?hQ ?hw (by assumption) ?_
                  case hi => (simp only [List.getElem?_toArray, List.getElem?_cons_succ, List.getElem?_cons_zero]; rfl)
                  case hQ => exact fun _ _ _ h => h
                  case hw => rfl
                  try simp only [Act.put, List.setIfInBounds_toArray, List.set_cons_zero, List.set_cons_succ]
                  refine takeH (i := 54) (oi := ?oi54) (v := ?v54) ?hi (by kernel_rfl) (by kernel_rfl) (by kernel_rfl) ?hQ ?hw ?hy (by assumption) ?_
                  case hi => (simp only [List.getElem?_toArray, List.getElem?_cons_succ, List.getElem?_cons_zero]; rfl)
                  case hQ => exact fun _ _ _ h => h
                  case hw => rfl
                  case hy => (intro w hSw; (try dsimp only at hSw); go_simp; all_goals (with_reducible rfl))
                  try simp only [Act.put, List.setIfInBounds_toArray, List.set_cons_zero, List.set_cons_succ]
                  refine takeH (i := 55) (oi := ?oi55) (v := ?v55) ?hi (by kernel_rfl) (by kernel_rfl) (by kernel_rfl) ?hQ ?hw ?hy (by assumption) ?_
                  case hi => (simp only [List.getElem?_toArray, List.getElem?_cons_succ, List.getElem?_cons_zero]; rfl)
                  case hQ => exact fun _ _ _ h => h
                  case hw => rfl
                  case hy => (intro w hSw; (try dsimp only at hSw); go_simp; all_goals (with_reducible rfl))
                  try simp only [Act.put, List.setIfInBounds_toArray, List.set_cons_zero, List.set_cons_succ]
                  refine takeH (i := 56) (oi := ?oi56) (v := ?v56) ?hi (by kernel_rfl) (by kernel_rfl) (by kernel_rfl) ?hQ ?hw ?hy (by assumption) ?_
                  case hi => (simp only [List.getElem?_toArray, List.getElem?_cons_succ, List.getElem?_cons_zero]; rfl)
                  case hQ => exact fun _ _ _ h => h
                  case hw => rfl
                  case hy => (intro w hSw; (try dsimp only at hSw); go_simp; all_goals (with_reducible rfl))
                  try simp only [Act.put, List.setIfInBounds_toArray, List.set_cons_zero, List.set_cons_succ]
                  refine wpAnyH_done (by kernel_rfl) ?_ _
                  go_wp2
                  go_roundw
                  case rel => exact ⟨j + 1, by go_num, by omega, HF2.out.drew.trans f8 (fun _ _ h => h)⟩
                  case measure => simp [intOf]; omega
          | false =>
            have hat := g2 hg
            rw [hg] at q7
            have HF2 := Lib.hid hF
            have Hg := Lib.hid hg
            clear hR2 hA2 hF g1 g2 hok
            by_cases hlt : t.at_ < p.l.length
            · have hx : (p.l[pos j]?).isSome = true := by rw [← hat, List.getElem?_eq_getElem hlt]; rfl
              rw [hx] at C3
              have l1 : (t.at_ : Int) < (p.l.length : Int) := by omega
              clear hx hat hlt
              go_upto_region 9 with fail
              go_region_held3 (fun W' => W'.cell? ⟨E.wb, 2, none⟩ = some (.slice (some ⟨E.kb, 0, none⟩) ls.length E.kc) ∧ W'.cell? ⟨E.wb, 3, none⟩ = some (.pointer (some ⟨E.sb, 0, none⟩)) ∧ W'.cell? ⟨E.kb, j, none⟩ = some (.int .i64 t.kn) ∧
                W'.cell? ⟨xb, 0, none⟩ = some (.slice (some ⟨R.tb, 0, none⟩) ls.length R.tc) ∧ W'.cell? ⟨R.tb, j * 4, none⟩ = some (.slice p.A p.l.length p.cp) ∧ W'.cell? ⟨R.tb, j * 4 + 1, none⟩ = some (.int .i64 (t.at_ : Int)) ∧ W'.cell? ⟨R.tb, j * 4 + 2, none⟩ = some (.int .i64 t.kn) ∧ W'.cell? ⟨R.tb, j * 4 + 3, none⟩ = some (.bool false))
                (first | (rw [← hg]; exact K0.out _ ir) | (rw [← hg]; exact K0.out _ f8))
                (first
                  | (go_at_call 35; refine (C1.out _ (by assumption)).mono ?_; rintro e w5 ⟨rfl, rfl⟩)
                  | (go_at_call 36; refine (C2.out _ (by assumption)).mono ?_; rintro e w8 ⟨rfl, f8⟩)
                  | (go_at_call 34; refine (C3.out _ (by assumption)).mono ?_; rintro e w5 ⟨rfl, rfl⟩))
              go_wp2
              go_roundw
              case rel => exact ⟨j + 1, by go_num, by omega, HF2.out.drew.trans f8 (fun _ _ h => h)⟩
              case measure => simp [intOf]; omega
            · have hx : (p.l[pos j]?).isSome = false := by rw [← hat, List.getElem?_eq_none (by omega)]; rfl
              rw [hx] at C3
              have l1 : (p.l.length : Int) ≤ (t.at_ : Int) := by omega
              clear hx hat hlt
              go_upto_region 9 with fail
              go_region_held3 (fun W' => W'.cell? ⟨E.wb, 2, none⟩ = some (.slice (some ⟨E.kb, 0, none⟩) ls.length E.kc) ∧ W'.cell? ⟨E.wb, 3, none⟩ = some (.pointer (some ⟨E.sb, 0, none⟩)) ∧ W'.cell? ⟨E.kb, j, none⟩ = some (.int .i64 t.kn) ∧
                W'.cell? ⟨xb, 0, none⟩ = some (.slice (some ⟨R.tb, 0, none⟩) ls.length R.tc) ∧ W'.cell? ⟨R.tb, j * 4, none⟩ = some (.slice p.A p.l.length p.cp) ∧ W'.cell? ⟨R.tb, j * 4 + 1, none⟩ = some (.int .i64 (t.at_ : Int)) ∧ W'.cell? ⟨R.tb, j * 4 + 2, none⟩ = some (.int .i64 t.kn) ∧ W'.cell? ⟨R.tb, j * 4 + 3, none⟩ = some (.bool false))
                (first | (rw [← hg]; exact K0.out _ ir) | (rw [← hg]; exact K0.out _ f8))
                (first
                  | (go_at_call 35; refine (C1.out _ (by assumption)).mono ?_; rintro e w5 ⟨rfl, rfl⟩)
                  | (go_at_call 36; refine (C2.out _ (by assumption)).mono ?_; rintro e w8 ⟨rfl, f8⟩)
                  | (go_at_call 34; refine (C3.out _ (by assumption)).mono ?_; rintro e w5 ⟨rfl, rfl⟩))
              go_wp2
              go_roundw
              case rel => exact ⟨j + 1, by go_num, by omega, HF2.out.drew.trans f8 (fun _ _ h => h)⟩
              case measure => simp [intOf]; omega
        · obtain rfl : j = ls.length := by omega
          have hR2 := HR.out.new hF
          have hA2 := HA.out.new hF
          have o3 := hR2.wd.obj.cell 3 rfl
          have o4 := hA2.obj.cell 4 rfl
          have q0 := hA2.obj.cell 0 rfl
          have C1 := Lib.hid (fun n => ssteps_any ((hR2.new ((Fr.refl (fun _ => False) wr).drewN n)).sch))
          have i1 : ¬ (ls.length : Int) < (ls.length : Int) := by omega
          have HF2 := Lib.hid (HF.out.trans hF (fun _ _ h => h))
          clear hR2 hA2 hF
          go_upto_region 11 with fail
          go_quiet (first | (go_at_call 39; exact quiet_left (C1.out _)))
          go_wp2
          go_ret
          exact ⟨rfl, HF2.out.drewN _⟩
end Go.Proofs.Ytlljfopacdnpbaa
