/- put. Conditions: those of the lemmas. -/
import Derived.Test.YtkodepdbnkghfaaBalanceI
import Derived.WalkLawsBesides
namespace Go.Proofs.Ytkodepdbnkghfaa
open Go.RowKit
attribute [local go_sem ↓] Go.wp_at_zero Go.wp_at_succ
theorem toList_ne {a b : ByteArray} (h : a ≠ b) : (a.toList == b.toList) = false := by
  rw [beq_eq_false_iff_ne, Lib.toList_data, Lib.toList_data]
  exact fun e => h (ByteArray.ext (Array.toList_inj.1 e))
set_option maxHeartbeats 2000000 in
set_option maxRecDepth 100000 in
theorem putI_any (k : ByteArray) (v : Int) : ∀ (t : Tr Int) (W : World) (q : Option Addr), IsI W q t → t.cnt ≤ 900000 →
    Calls Try.prog 30 #[.pointer q, .string k, Value.int .i64 v] W fun e w' => ∃ q', e = .returned (.pointer (some q')) ∧ IsI w' (some q') (t.put k v) ∧ Fr (fun _ => False) W w' := by
  intro t
  induction t with
  | nil =>
    intro W q h _
    obtain rfl : q = none := h
    go_enter Try.func30, Try.ntmps30
    go_wp2_with fail
    refine (joinI_any (l := .nil) (r := .nil) rfl rfl k v (by decide)).mono ?_
    rintro e w' ⟨b, rfl, hI, hf⟩
    go_wp2_with fail
    go_ret
    exact ⟨_, rfl, hI, hf⟩
  | node l nk nv r ihl ihr =>
    intro W q h hc
    obtain ⟨b, ql, qr, rfl, hb, hl, hr⟩ := h
    have ec : Hid ((Tr.node l nk nv r).cnt = 1 + l.cnt + r.cnt) := rfl
    have hcl : l.cnt + r.cnt < 900000 := by have := ec.out; omega
    have pl := Tr.put_cnt l k v
    have pr := Tr.put_cnt r k v
    have IL := Lib.hid ihl
    have IR := Lib.hid ihr
    clear ihl ihr hc
    obtain ⟨k0, k1, k2, k3⟩ := cells4I hb
    by_cases c1 : sLt k nk = true
    · have t1 : Op.bytesLess k.toList nk.toList = true := c1
      have e1 : Hid ((Tr.node l nk nv r).put k v = (l.put k v).bal nk nv r) := by unfold Hid; rw [Tr.put, if_pos c1]
      go_enter Try.func30, Try.ntmps30
      go_wp2_with fail
      clear k0 k1 k2 k3
      have hb2 := hb.drew
      go_region_held3 (fun w' => w'.cell? ⟨b, 0, none⟩ = some (.pointer ql) ∧ w'.cell? ⟨b, 1, none⟩ = some (.pointer qr) ∧ w'.cell? ⟨b, 2, none⟩ = some (.string nk) ∧ w'.cell? ⟨b, 3, none⟩ = some (Value.int .i64 nv))
        (first | exact cells4I hb2 | exact cells4I (hf3.blk hb2 id) | exact cells4I (hf4.blk (hf3.blk hb2 id) id))
        (first
          | (go_at_call 30; refine (IL.out _ _ (hl.new (Fr.refl _ W).drew) ?_).mono ?_; omega; rintro e w3 ⟨q3, rfl, hI3, hf3⟩)
          | (go_at_call 37; refine (balanceI_any hI3 (hr.new ((Fr.refl _ W).drew.trans hf3 (fun _ _ h => h))) nk nv ?_).mono ?_; omega; rintro e w4 ⟨q4, rfl, hI4, hf4⟩))
      go_wp2_with fail
      go_ret
      exact ⟨_, rfl, by rw [e1.out]; exact hI4, ((Fr.refl _ W).drew.trans hf3 (fun _ _ h => h)).trans hf4 (fun _ _ h => h)⟩
    · have c1' : sLt k nk = false := by simpa using c1
      have t1 : Op.bytesLess k.toList nk.toList = false := c1'
      by_cases c2 : k = nk
      · subst c2
        have e1 : Hid ((Tr.node l k nv r).put k v = .node l k v r) := by unfold Hid; simp [Tr.put, c1']
        go_enter Try.func30, Try.ntmps30
        go_wp2_with fail
        clear k0 k1 k2 k3
        have hb2 := hb.drew
        go_region_held3 (fun w' => w'.cell? ⟨b, 0, none⟩ = some (.pointer ql) ∧ w'.cell? ⟨b, 1, none⟩ = some (.pointer qr))
          (first | exact ⟨(cells4I hb2).1, (cells4I hb2).2.1⟩ | exact ⟨(cells4I (hf3.blk hb2 id)).1, (cells4I (hf3.blk hb2 id)).2.1⟩)
          (first
            | (go_at_call 36; refine (joinI_any (hl.new (Fr.refl _ W).drew) (hr.new (Fr.refl _ W).drew) k v ?_).mono ?_; omega; rintro e w3 ⟨q3, rfl, hI3, hf3⟩))
        go_wp2_with fail
        go_ret
        exact ⟨_, rfl, by rw [e1.out]; exact hI3, (Fr.refl _ W).drew.trans hf3 (fun _ _ h => h)⟩
      · have c3 := sLt_total c2 c1'
        have e1 : Hid ((Tr.node l nk nv r).put k v = l.bal nk nv (r.put k v)) := by unfold Hid; rw [Tr.put, c1', if_neg (by simp), if_pos c3]
        have t2 := toList_ne c2
        clear c2
        go_enter Try.func30, Try.ntmps30
        go_wp2_with fail
        clear k0 k1 k2 k3
        have hb2 := hb.drew
        go_region_held3 (fun w' => w'.cell? ⟨b, 0, none⟩ = some (.pointer ql) ∧ w'.cell? ⟨b, 1, none⟩ = some (.pointer qr) ∧ w'.cell? ⟨b, 2, none⟩ = some (.string nk) ∧ w'.cell? ⟨b, 3, none⟩ = some (Value.int .i64 nv))
          (first | exact cells4I hb2 | exact cells4I (hf3.blk hb2 id) | exact cells4I (hf4.blk (hf3.blk hb2 id) id))
          (first
            | (go_at_call 30; refine (IR.out _ _ (hr.new (Fr.refl _ W).drew) ?_).mono ?_; omega; rintro e w3 ⟨q3, rfl, hI3, hf3⟩)
            | (go_at_call 37; refine (balanceI_any (hl.new ((Fr.refl _ W).drew.trans hf3 (fun _ _ h => h))) hI3 nk nv ?_).mono ?_; omega; rintro e w4 ⟨q4, rfl, hI4, hf4⟩))
        go_wp2_with fail
        go_ret
        exact ⟨_, rfl, by rw [e1.out]; exact hI4, ((Fr.refl _ W).drew.trans hf3 (fun _ _ h => h)).trans hf4 (fun _ _ h => h)⟩
end Go.Proofs.Ytkodepdbnkghfaa
