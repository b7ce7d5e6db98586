/- balance. Conditions: those of the lemmas. -/
import Derived.Test.YtkodepdbnkghfaaNodeI
import Derived.Deep.QuietTactic
import Derived.BigQuiet
namespace Go.Proofs.Ytkodepdbnkghfaa
open Go.RowKit
attribute [local go_sem ↓] Go.wp_at_zero Go.wp_at_succ
theorem cells4I {W : World} {b : Nat} {c0 c1 c2 c3 c4 c5 : Value} (h : Blk W b [c0, c1, c2, c3, c4, c5] 68) :
    W.cell? ⟨b, 0, none⟩ = some c0 ∧ W.cell? ⟨b, 1, none⟩ = some c1 ∧ W.cell? ⟨b, 2, none⟩ = some c2 ∧ W.cell? ⟨b, 3, none⟩ = some c3 :=
  ⟨h.cell 0 rfl, h.cell 1 rfl, h.cell 2 rfl, h.cell 3 rfl⟩
set_option maxHeartbeats 2000000 in
set_option maxRecDepth 100000 in
/-- The left side is the higher one, its own left side no lower than its right one. -/
theorem balL1I {W : World} {b : Nat} {qll qlr qr : Option Addr} {ll lr r : Tr Int} {lk : ByteArray} {lv : Int} {h1 c1 : Value}
    (hb : Blk W b [.pointer qll, .pointer qlr, .string lk, Value.int .i64 lv, h1, c1] 68) (hll : IsI W qll ll) (hlr : IsI W qlr lr) (hr : IsI W qr r) (n0 : Nat) (hl : Calls Try.prog 31 #[.pointer (some ⟨b, 0, none⟩)] W fun e w' => e = .returned (.int .i64 (n0 : Int)) ∧ W = w')
    (k : ByteArray) (v : Int) (hc : ll.cnt + lr.cnt + 1 + r.cnt ≤ 1000000) (g1 : r.ht + 1 < n0) (g0 : n0 ≤ 1000000) (g2 : lr.ht ≤ ll.ht) :
    Calls Try.prog 37 #[.pointer (some ⟨b, 0, none⟩), .string k, Value.int .i64 v, .pointer qr] W fun e w' => ∃ q, e = .returned (.pointer (some q)) ∧ IsI w' (some q) (.node ll lk lv (.node lr k v r)) ∧ Fr (fun _ => False) W w' := by
  have e2 : Hid ((Tr.node lr k v r).cnt = 1 + lr.cnt + r.cnt) := rfl
  have C1 := Lib.hid hl
  have C2 := Lib.hid (heightI_any hr)
  have b0 := r.ht_cnt
  have b1 := lr.ht_cnt
  have b2 := ll.ht_cnt
  have Hb := Lib.hid hb
  obtain ⟨k0, k1, k2, k3⟩ := cells4I hb
  clear hl hb
  go_enter Try.func37, Try.ntmps37
  go_wp2_with fail
  refine C1.out.mono ?_
  rintro e w' ⟨rfl, rfl⟩
  go_wp2_with fail
  refine C2.out.mono ?_
  rintro e w' ⟨rfl, rfl⟩
  go_wp2_with fail
  go_quiet (first | (go_at_call_of 31 (Value.pointer qll); exact quiet_left (heightI_any (hll.new ((Fr.refl _ W).drewN _)))) | (go_at_call_of 31 (Value.pointer qlr); exact quiet_left (heightI_any (hlr.new ((Fr.refl _ W).drewN _)))))
  have f1 : Fr (fun _ => False) W (W.drewN nq) := (Fr.refl _ W).drewN nq
  have hb1 := f1.blk Hb.out id
  have l1 := hll.new f1
  have l2 := hlr.new f1
  have l3 := hr.new f1
  have F1 := Lib.hid f1
  clear k0 k1 k2 k3 C1 C2 hll hlr hr f1
  generalize W.drewN nq = W1 at *
  go_wp2_with fail
  have hb2 := hb1.drew
  go_region_held3 (fun w' => w'.cell? ⟨b, 0, none⟩ = some (.pointer qll) ∧ w'.cell? ⟨b, 1, none⟩ = some (.pointer qlr) ∧ w'.cell? ⟨b, 2, none⟩ = some (.string lk) ∧ w'.cell? ⟨b, 3, none⟩ = some (Value.int .i64 lv))
    (first | exact cells4I hb2 | exact cells4I (hf3.blk hb2 id) | exact cells4I (hf4.blk (hf3.blk hb2 id) id))
    (first
      | (go_at_call_of 36 (Value.pointer qlr); refine (joinI_any (l2.new (Fr.refl _ W1).drew) (l3.new (Fr.refl _ W1).drew) k v ?_).mono ?_; omega; rintro e w3 ⟨b3, rfl, hI3, hf3⟩)
      | (go_at_call_of 36 (Value.pointer qll); refine (joinI_any (l1.new ((Fr.refl _ W1).drew.trans hf3 (fun _ _ h => h))) hI3 lk lv ?_).mono ?_; (rw [e2.out]; omega); rintro e w4 ⟨b4, rfl, hI4, hf4⟩))
  go_wp2
  go_ret
  exact ⟨_, rfl, hI4, (F1.out.drew.trans hf3 (fun _ _ h => h)).trans hf4 (fun _ _ h => h)⟩
set_option maxHeartbeats 2000000 in
set_option maxRecDepth 100000 in
/-- The left side is the higher one, its own left side lower than its right one. -/
theorem balL2I {W : World} {b m : Nat} {qll qr qml qmr : Option Addr} {ll ml mr r : Tr Int} {lk mk : ByteArray} {lv mv : Int} {h1 c1 h2 c2 : Value}
    (hb : Blk W b [.pointer qll, .pointer (some ⟨m, 0, none⟩), .string lk, Value.int .i64 lv, h1, c1] 68) (hm : Blk W m [.pointer qml, .pointer qmr, .string mk, Value.int .i64 mv, h2, c2] 68)
    (hll : IsI W qll ll) (hml : IsI W qml ml) (hmr : IsI W qmr mr) (hr : IsI W qr r) (n0 : Nat) (hl : Calls Try.prog 31 #[.pointer (some ⟨b, 0, none⟩)] W fun e w' => e = .returned (.int .i64 (n0 : Int)) ∧ W = w')
    (n1 : Nat) (hlr : ∀ n, Calls Try.prog 31 #[.pointer (some ⟨m, 0, none⟩)] (W.drewN n) fun e w' => e = .returned (.int .i64 (n1 : Int)) ∧ W.drewN n = w')
    (k : ByteArray) (v : Int) (hc : ll.cnt + ml.cnt + 1 + mr.cnt + 1 + r.cnt ≤ 1000000) (g1 : r.ht + 1 < n0) (g0 : n0 ≤ 1000000) (g2 : ll.ht < n1) (g3 : n1 ≤ 1000000) :
    Calls Try.prog 37 #[.pointer (some ⟨b, 0, none⟩), .string k, Value.int .i64 v, .pointer qr] W fun e w' => ∃ q, e = .returned (.pointer (some q)) ∧ IsI w' (some q) (.node (.node ll lk lv ml) mk mv (.node mr k v r)) ∧ Fr (fun _ => False) W w' := by
  have e2 : Hid ((Tr.node ll lk lv ml).cnt = 1 + ll.cnt + ml.cnt) := rfl
  have e3 : Hid ((Tr.node mr k v r).cnt = 1 + mr.cnt + r.cnt) := rfl
  have C1 := Lib.hid hl
  have C2 := Lib.hid (heightI_any hr)
  have C3 := Lib.hid hlr
  have b0 := r.ht_cnt
  have b2 := ll.ht_cnt
  have Hb := Lib.hid hb
  have Hm := Lib.hid hm
  obtain ⟨k0, k1, k2, k3⟩ := cells4I hb
  clear hl hb hm hlr
  go_enter Try.func37, Try.ntmps37
  go_wp2_with fail
  refine C1.out.mono ?_
  rintro e w' ⟨rfl, rfl⟩
  go_wp2_with fail
  refine C2.out.mono ?_
  rintro e w' ⟨rfl, rfl⟩
  go_wp2_with fail
  go_quiet (first | (go_at_call_of 31 (Value.pointer qll); exact quiet_left (heightI_any (hll.new ((Fr.refl _ W).drewN _)))) | (go_at_call_of 31 (Value.pointer (some ⟨m, 0, none⟩)); exact quiet_left (C3.out _)))
  have f1 : Fr (fun _ => False) W (W.drewN nq) := (Fr.refl _ W).drewN nq
  have hb1 := f1.blk Hb.out id
  have hm1 := f1.blk Hm.out id
  have l1 := hll.new f1
  have l2 := hml.new f1
  have l3 := hmr.new f1
  have l4 := hr.new f1
  have F1 := Lib.hid f1
  clear k0 k1 k2 k3 C1 C2 C3 hll hml hmr hr f1
  generalize W.drewN nq = W1 at *
  obtain ⟨k0, k1, k2, k3⟩ := cells4I hb1
  go_wp2_with fail
  clear k0 k1 k2 k3
  have hb2 := hb1.drew
  have hm2 := hm1.drew
  go_region_held3 (fun w' => (w'.cell? ⟨b, 0, none⟩ = some (.pointer qll) ∧ w'.cell? ⟨b, 1, none⟩ = some (.pointer (some ⟨m, 0, none⟩)) ∧ w'.cell? ⟨b, 2, none⟩ = some (.string lk) ∧ w'.cell? ⟨b, 3, none⟩ = some (Value.int .i64 lv)) ∧ (w'.cell? ⟨m, 0, none⟩ = some (.pointer qml) ∧ w'.cell? ⟨m, 1, none⟩ = some (.pointer qmr) ∧ w'.cell? ⟨m, 2, none⟩ = some (.string mk) ∧ w'.cell? ⟨m, 3, none⟩ = some (Value.int .i64 mv)))
    (first | exact ⟨cells4I hb2, cells4I hm2⟩ | exact ⟨cells4I (hf3.blk hb2 id), cells4I (hf3.blk hm2 id)⟩ | exact ⟨cells4I (hf4.blk (hf3.blk hb2 id) id), cells4I (hf4.blk (hf3.blk hm2 id) id)⟩ | exact ⟨cells4I (hf5.blk (hf4.blk (hf3.blk hb2 id) id) id), cells4I (hf5.blk (hf4.blk (hf3.blk hm2 id) id) id)⟩)
    (first
      | (go_at_call_of 36 (Value.string lk); refine (joinI_any (l1.new (Fr.refl _ W1).drew) (l2.new (Fr.refl _ W1).drew) lk lv ?_).mono ?_; omega; rintro e w3 ⟨b3, rfl, hI3, hf3⟩)
      | (go_at_call_of 36 (Value.string k); refine (joinI_any (l3.new ((Fr.refl _ W1).drew.trans hf3 (fun _ _ h => h))) (l4.new ((Fr.refl _ W1).drew.trans hf3 (fun _ _ h => h))) k v ?_).mono ?_; omega; rintro e w4 ⟨b4, rfl, hI4, hf4⟩)
      | (go_at_call_of 36 (Value.string mk); refine (joinI_any (hI3.new hf4) hI4 mk mv ?_).mono ?_; (rw [e2.out, e3.out]; omega); rintro e w5 ⟨b5, rfl, hI5, hf5⟩))
  go_wp2
  go_ret
  exact ⟨_, rfl, hI5, ((F1.out.drew.trans hf3 (fun _ _ h => h)).trans hf4 (fun _ _ h => h)).trans hf5 (fun _ _ h => h)⟩
set_option maxHeartbeats 2000000 in
set_option maxRecDepth 100000 in
/-- The right side is the higher one, its own right side no lower than its left one. -/
theorem balR1I {W : World} {b : Nat} {ql qrl qrr : Option Addr} {l rl rr : Tr Int} {rk : ByteArray} {rv : Int} {h1 c1 : Value}
    (hb : Blk W b [.pointer qrl, .pointer qrr, .string rk, Value.int .i64 rv, h1, c1] 68) (hl : IsI W ql l) (hrl : IsI W qrl rl) (hrr : IsI W qrr rr) (n0 : Nat) (hr : Calls Try.prog 31 #[.pointer (some ⟨b, 0, none⟩)] W fun e w' => e = .returned (.int .i64 (n0 : Int)) ∧ W = w')
    (k : ByteArray) (v : Int) (hc : l.cnt + rl.cnt + 1 + rr.cnt ≤ 1000000) (g1 : l.ht + 1 < n0) (g0 : n0 ≤ 1000000) (g2 : rl.ht ≤ rr.ht) :
    Calls Try.prog 37 #[.pointer ql, .string k, Value.int .i64 v, .pointer (some ⟨b, 0, none⟩)] W fun e w' => ∃ q, e = .returned (.pointer (some q)) ∧ IsI w' (some q) (.node (.node l k v rl) rk rv rr) ∧ Fr (fun _ => False) W w' := by
  have e2 : Hid ((Tr.node l k v rl).cnt = 1 + l.cnt + rl.cnt) := rfl
  have C1 := Lib.hid (heightI_any hl)
  have C2 := Lib.hid hr
  have b0 := l.ht_cnt
  have b1 := rl.ht_cnt
  have b2 := rr.ht_cnt
  have Hb := Lib.hid hb
  obtain ⟨k0, k1, k2, k3⟩ := cells4I hb
  have g3 : ¬ n0 + 1 < l.ht := by omega
  clear hr hb
  go_enter Try.func37, Try.ntmps37
  go_wp2_with fail
  refine C1.out.mono ?_
  rintro e w' ⟨rfl, rfl⟩
  go_wp2_with fail
  refine C2.out.mono ?_
  rintro e w' ⟨rfl, rfl⟩
  go_wp2_with fail
  refine C2.out.mono ?_
  rintro e w' ⟨rfl, rfl⟩
  go_wp2_with fail
  refine C1.out.mono ?_
  rintro e w' ⟨rfl, rfl⟩
  go_wp2_with fail
  go_quiet (first | (go_at_call_of 31 (Value.pointer qrr); exact quiet_left (heightI_any (hrr.new ((Fr.refl _ W).drewN _)))) | (go_at_call_of 31 (Value.pointer qrl); exact quiet_left (heightI_any (hrl.new ((Fr.refl _ W).drewN _)))))
  have f1 : Fr (fun _ => False) W (W.drewN nq) := (Fr.refl _ W).drewN nq
  have hb1 := f1.blk Hb.out id
  have l1 := hl.new f1
  have l2 := hrl.new f1
  have l3 := hrr.new f1
  have F1 := Lib.hid f1
  clear k0 k1 k2 k3 C1 C2 hl hrl hrr f1
  generalize W.drewN nq = W1 at *
  go_wp2_with fail
  have hb2 := hb1.drew
  go_region_held3 (fun w' => w'.cell? ⟨b, 0, none⟩ = some (.pointer qrl) ∧ w'.cell? ⟨b, 1, none⟩ = some (.pointer qrr) ∧ w'.cell? ⟨b, 2, none⟩ = some (.string rk) ∧ w'.cell? ⟨b, 3, none⟩ = some (Value.int .i64 rv))
    (first | exact cells4I hb2 | exact cells4I (hf3.blk hb2 id) | exact cells4I (hf4.blk (hf3.blk hb2 id) id))
    (first
      | (go_at_call_of 36 (Value.pointer qrl); refine (joinI_any (l1.new (Fr.refl _ W1).drew) (l2.new (Fr.refl _ W1).drew) k v ?_).mono ?_; omega; rintro e w3 ⟨b3, rfl, hI3, hf3⟩)
      | (go_at_call_of 36 (Value.string rk); refine (joinI_any hI3 (l3.new ((Fr.refl _ W1).drew.trans hf3 (fun _ _ h => h))) rk rv ?_).mono ?_; (rw [e2.out]; omega); rintro e w4 ⟨b4, rfl, hI4, hf4⟩))
  go_wp2
  go_ret
  exact ⟨_, rfl, hI4, (F1.out.drew.trans hf3 (fun _ _ h => h)).trans hf4 (fun _ _ h => h)⟩
set_option maxHeartbeats 2000000 in
set_option maxRecDepth 100000 in
/-- The right side is the higher one, its own right side lower than its left one. -/
theorem balR2I {W : World} {b m : Nat} {ql qrr qml qmr : Option Addr} {l ml mr rr : Tr Int} {rk mk : ByteArray} {rv mv : Int} {h1 c1 h2 c2 : Value}
    (hb : Blk W b [.pointer (some ⟨m, 0, none⟩), .pointer qrr, .string rk, Value.int .i64 rv, h1, c1] 68) (hm : Blk W m [.pointer qml, .pointer qmr, .string mk, Value.int .i64 mv, h2, c2] 68)
    (hl : IsI W ql l) (hml : IsI W qml ml) (hmr : IsI W qmr mr) (hrr : IsI W qrr rr) (n0 : Nat) (hr : Calls Try.prog 31 #[.pointer (some ⟨b, 0, none⟩)] W fun e w' => e = .returned (.int .i64 (n0 : Int)) ∧ W = w')
    (n1 : Nat) (hrl : ∀ n, Calls Try.prog 31 #[.pointer (some ⟨m, 0, none⟩)] (W.drewN n) fun e w' => e = .returned (.int .i64 (n1 : Int)) ∧ W.drewN n = w')
    (k : ByteArray) (v : Int) (hc : l.cnt + ml.cnt + 1 + mr.cnt + 1 + rr.cnt ≤ 1000000) (g1 : l.ht + 1 < n0) (g0 : n0 ≤ 1000000) (g2 : rr.ht < n1) (g3 : n1 ≤ 1000000) :
    Calls Try.prog 37 #[.pointer ql, .string k, Value.int .i64 v, .pointer (some ⟨b, 0, none⟩)] W fun e w' => ∃ q, e = .returned (.pointer (some q)) ∧ IsI w' (some q) (.node (.node l k v ml) mk mv (.node mr rk rv rr)) ∧ Fr (fun _ => False) W w' := by
  have e2 : Hid ((Tr.node l k v ml).cnt = 1 + l.cnt + ml.cnt) := rfl
  have e3 : Hid ((Tr.node mr rk rv rr).cnt = 1 + mr.cnt + rr.cnt) := rfl
  have C1 := Lib.hid (heightI_any hl)
  have C2 := Lib.hid hr
  have C3 := Lib.hid hrl
  have b0 := l.ht_cnt
  have b2 := rr.ht_cnt
  have g4 : ¬ n0 + 1 < l.ht := by omega
  have Hb := Lib.hid hb
  have Hm := Lib.hid hm
  obtain ⟨k0, k1, k2, k3⟩ := cells4I hb
  clear hr hb hm hrl
  go_enter Try.func37, Try.ntmps37
  go_wp2_with fail
  refine C1.out.mono ?_
  rintro e w' ⟨rfl, rfl⟩
  go_wp2_with fail
  refine C2.out.mono ?_
  rintro e w' ⟨rfl, rfl⟩
  go_wp2_with fail
  refine C2.out.mono ?_
  rintro e w' ⟨rfl, rfl⟩
  go_wp2_with fail
  refine C1.out.mono ?_
  rintro e w' ⟨rfl, rfl⟩
  go_wp2_with fail
  go_quiet (first | (go_at_call_of 31 (Value.pointer qrr); exact quiet_left (heightI_any (hrr.new ((Fr.refl _ W).drewN _)))) | (go_at_call_of 31 (Value.pointer (some ⟨m, 0, none⟩)); exact quiet_left (C3.out _)))
  have f1 : Fr (fun _ => False) W (W.drewN nq) := (Fr.refl _ W).drewN nq
  have hb1 := f1.blk Hb.out id
  have hm1 := f1.blk Hm.out id
  have l1 := hl.new f1
  have l2 := hml.new f1
  have l3 := hmr.new f1
  have l4 := hrr.new f1
  have F1 := Lib.hid f1
  clear k0 k1 k2 k3 C1 C2 C3 hl hml hmr hrr f1
  generalize W.drewN nq = W1 at *
  obtain ⟨k0, k1, k2, k3⟩ := cells4I hb1
  go_wp2_with fail
  clear k0 k1 k2 k3
  have hb2 := hb1.drew
  have hm2 := hm1.drew
  go_region_held3 (fun w' => (w'.cell? ⟨b, 0, none⟩ = some (.pointer (some ⟨m, 0, none⟩)) ∧ w'.cell? ⟨b, 1, none⟩ = some (.pointer qrr) ∧ w'.cell? ⟨b, 2, none⟩ = some (.string rk) ∧ w'.cell? ⟨b, 3, none⟩ = some (Value.int .i64 rv)) ∧ (w'.cell? ⟨m, 0, none⟩ = some (.pointer qml) ∧ w'.cell? ⟨m, 1, none⟩ = some (.pointer qmr) ∧ w'.cell? ⟨m, 2, none⟩ = some (.string mk) ∧ w'.cell? ⟨m, 3, none⟩ = some (Value.int .i64 mv)))
    (first | exact ⟨cells4I hb2, cells4I hm2⟩ | exact ⟨cells4I (hf3.blk hb2 id), cells4I (hf3.blk hm2 id)⟩ | exact ⟨cells4I (hf4.blk (hf3.blk hb2 id) id), cells4I (hf4.blk (hf3.blk hm2 id) id)⟩ | exact ⟨cells4I (hf5.blk (hf4.blk (hf3.blk hb2 id) id) id), cells4I (hf5.blk (hf4.blk (hf3.blk hm2 id) id) id)⟩)
    (first
      | (go_at_call_of 36 (Value.string k); refine (joinI_any (l1.new (Fr.refl _ W1).drew) (l2.new (Fr.refl _ W1).drew) k v ?_).mono ?_; omega; rintro e w3 ⟨b3, rfl, hI3, hf3⟩)
      | (go_at_call_of 36 (Value.string rk); refine (joinI_any (l3.new ((Fr.refl _ W1).drew.trans hf3 (fun _ _ h => h))) (l4.new ((Fr.refl _ W1).drew.trans hf3 (fun _ _ h => h))) rk rv ?_).mono ?_; omega; rintro e w4 ⟨b4, rfl, hI4, hf4⟩)
      | (go_at_call_of 36 (Value.string mk); refine (joinI_any (hI3.new hf4) hI4 mk mv ?_).mono ?_; (rw [e2.out, e3.out]; omega); rintro e w5 ⟨b5, rfl, hI5, hf5⟩))
  go_wp2
  go_ret
  exact ⟨_, rfl, hI5, ((F1.out.drew.trans hf3 (fun _ _ h => h)).trans hf4 (fun _ _ h => h)).trans hf5 (fun _ _ h => h)⟩
set_option maxHeartbeats 1000000 in
set_option maxRecDepth 100000 in
/-- Neither side is higher by more than one. -/
theorem balMI {W : World} {ql qr : Option Addr} {l r : Tr Int} (hl : IsI W ql l) (hr : IsI W qr r) (k : ByteArray) (v : Int) (hc : l.cnt + r.cnt ≤ 1000000) (g1 : ¬ r.ht + 1 < l.ht) (g2 : ¬ l.ht + 1 < r.ht) :
    Calls Try.prog 37 #[.pointer ql, .string k, Value.int .i64 v, .pointer qr] W fun e w' => ∃ q, e = .returned (.pointer (some q)) ∧ IsI w' (some q) (.node l k v r) ∧ Fr (fun _ => False) W w' := by
  have b0 := l.ht_cnt
  have b1 := r.ht_cnt
  have C1 := Lib.hid (heightI_any hl)
  have C2 := Lib.hid (heightI_any hr)
  have C3 := Lib.hid (joinI_any hl hr k v hc)
  clear hl hr
  go_enter Try.func37, Try.ntmps37
  go_wp2_with fail
  refine C1.out.mono ?_
  rintro e w' ⟨rfl, rfl⟩
  go_wp2_with fail
  refine C2.out.mono ?_
  rintro e w' ⟨rfl, rfl⟩
  go_wp2_with fail
  refine C2.out.mono ?_
  rintro e w' ⟨rfl, rfl⟩
  go_wp2_with fail
  refine C1.out.mono ?_
  rintro e w' ⟨rfl, rfl⟩
  go_wp2_with fail
  refine C3.out.mono ?_
  rintro e w' ⟨b, rfl, hI, hf⟩
  go_wp2
  go_ret
  exact ⟨_, rfl, hI, hf⟩
theorem balanceI_any {W : World} {ql qr : Option Addr} {l r : Tr Int} (hl : IsI W ql l) (hr : IsI W qr r) (k : ByteArray) (v : Int) (hc : l.cnt + r.cnt ≤ 999990) :
    Calls Try.prog 37 #[.pointer ql, .string k, Value.int .i64 v, .pointer qr] W fun e w' => ∃ q, e = .returned (.pointer (some q)) ∧ IsI w' (some q) (l.bal k v r) ∧ Fr (fun _ => False) W w' := by
  have b0 := l.ht_cnt
  have b1 := r.ht_cnt
  have ch := heightI_any hl
  have ch2 := heightI_any hr
  unfold Tr.bal
  by_cases g1 : r.ht + 1 < l.ht
  · rw [if_pos g1]
    cases l with
    | nil => simp only [Tr.ht] at g1; omega
    | node ll lk lv lr =>
      obtain ⟨b, qll, qlr, rfl, hb, hll, hlr⟩ := hl
      have ec : (Tr.node ll lk lv lr).cnt = 1 + ll.cnt + lr.cnt := rfl
      simp only [Tr.balL]
      by_cases g2 : lr.ht ≤ ll.ht
      · rw [if_pos g2]
        exact balL1I hb hll hlr hr _ ch k v (by omega) g1 (by omega) g2
      · rw [if_neg g2]
        cases lr with
        | nil => simp only [Tr.ht] at g2; omega
        | node ml mk mv mr =>
          have ec2 : (Tr.node ml mk mv mr).cnt = 1 + ml.cnt + mr.cnt := rfl
          have b3 := (Tr.node ml mk mv mr).ht_cnt
          have cm := fun n => heightI_any (hlr.new ((Fr.refl (fun _ => False) W).drewN n))
          obtain ⟨m, qml, qmr, rfl, hm, hml, hmr⟩ := hlr
          exact balL2I hb hm hll hml hmr hr _ ch _ cm k v (by omega) g1 (by omega) (by omega) (by omega)
  · rw [if_neg g1]
    by_cases g3 : l.ht + 1 < r.ht
    · rw [if_pos g3]
      cases r with
      | nil => simp only [Tr.ht] at g3; omega
      | node rl rk rv rr =>
        obtain ⟨b, qrl, qrr, rfl, hb, hrl, hrr⟩ := hr
        have ec : (Tr.node rl rk rv rr).cnt = 1 + rl.cnt + rr.cnt := rfl
        simp only [Tr.balR]
        by_cases g2 : rl.ht ≤ rr.ht
        · rw [if_pos g2]
          exact balR1I hb hl hrl hrr _ ch2 k v (by omega) g3 (by omega) g2
        · rw [if_neg g2]
          cases rl with
          | nil => simp only [Tr.ht] at g2; omega
          | node ml mk mv mr =>
            have ec2 : (Tr.node ml mk mv mr).cnt = 1 + ml.cnt + mr.cnt := rfl
            have b3 := (Tr.node ml mk mv mr).ht_cnt
            have cm := fun n => heightI_any (hrl.new ((Fr.refl (fun _ => False) W).drewN n))
            obtain ⟨m, qml, qmr, rfl, hm, hml, hmr⟩ := hrl
            exact balR2I hb hm hl hml hmr hrr _ ch2 _ cm k v (by omega) g3 (by omega) (by omega) (by omega)
    · rw [if_neg g3]
      exact balMI hl hr k v (by omega) g1 g3
end Go.Proofs.Ytkodepdbnkghfaa
