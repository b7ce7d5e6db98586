/- first, without. Conditions: those of the lemmas. -/
import Derived.Test.YtkodepdbnkghfaaPutI
namespace Go.Proofs.Ytkodepdbnkghfaa
open Go.RowKit
attribute [local go_sem ↓] Go.wp_at_zero Go.wp_at_succ
set_option maxHeartbeats 1000000 in
theorem firstI_any {W : World} {q : Option Addr} {t : Tr Int} {k : ByteArray} {v : Int} (h : IsI W q t) (hf : t.first = some (k, v)) :
    Calls Try.prog 38 #[.pointer q] W fun e w' => ∃ b c0 c1 c4 c5, e = .returned (.pointer (some ⟨b, 0, none⟩)) ∧ Blk W b [c0, c1, .string k, Value.int .i64 v, c4, c5] 68 ∧ W = w' := by
  have Hf := Lib.hid hf
  have H := Lib.hid h
  clear hf h
  obtain ⟨n, hn⟩ : ∃ n, n = t.ht := ⟨_, rfl⟩
  have Hn := Lib.hid hn
  clear hn
  go_enter Try.func38, Try.ntmps38
  go_wp2_with fail
  go_loopg [0] n (fun g p wr => wr = W ∧ ∃ q t, p = .pointer q ∧ IsI W q t ∧ t.first = some (k, v) ∧ t.ht ≤ g)
  case atStart => exact ⟨rfl, q, t, rfl, H.out, Hf.out, Nat.le_of_eq Hn.out.symm⟩
  case round =>
    obtain ⟨rfl, q, t, rfl, h, hf, hg⟩ := hrel
    clear H Hf Hn
    cases t with
    | nil => cases hf
    | node l k' v' r =>
      obtain ⟨b, ql, qr, rfl, hb, hl, hr⟩ := h
      have Hb := Lib.hid hb
      have k0 := hb.cell 0 rfl
      have Hf := Lib.hid hf
      clear hb hf
      cases l with
      | nil =>
        obtain rfl : ql = none := hl
        have Hr := Lib.hid hr
        clear hr
        go_wp2
        go_ret
        have hf := Hf.out
        simp only [Tr.first, Option.some.injEq, Prod.mk.injEq] at hf
        obtain ⟨rfl, rfl⟩ := hf
        exact ⟨b, _, _, _, _, rfl, Hb.out, rfl⟩
      | node l2 k2 v2 r2 =>
        have hfl : (Tr.node l2 k2 v2 r2).first = some (k, v) := by
          have hf := Hf.out
          rwa [Tr.first] at hf
          simp
        have hgl : (Tr.node l2 k2 v2 r2).ht < gk := by
          have e : (Tr.node (Tr.node l2 k2 v2 r2) k' v' r).ht = 1 + max (Tr.node l2 k2 v2 r2).ht r.ht := rfl
          omega
        have Hl := Lib.hid hl
        obtain ⟨b2, _, _, rfl, _, _, _⟩ := hl
        have A := Lib.hid (And.intro hfl hgl)
        clear hr hg hfl hgl
        go_wp2
        go_roundg (Tr.node l2 k2 v2 r2).ht
        case measure => exact A.out.2
        case rel => exact ⟨rfl, _, _, rfl, Hl.out, A.out.1, Nat.le_refl _⟩
set_option maxHeartbeats 4000000 in
set_option maxRecDepth 100000 in
theorem withoutI_any : ∀ (t : Tr Int) (k : ByteArray) (W : World) (q : Option Addr), IsI W q t → t.cnt ≤ 900000 →
    Calls Try.prog 32 #[.pointer q, .string k] W fun e w' => ∃ q', e = .returned (.pointer q') ∧ IsI w' q' (t.without k) ∧ Fr (fun _ => False) W w' := by
  intro t
  induction t with
  | nil =>
    intro k W q h _
    obtain rfl : q = none := h
    go_enter Try.func32, Try.ntmps32
    go_wp2_with fail
    go_ret
    exact ⟨_, rfl, rfl, Fr.refl _ _⟩
  | node l nk nv r ihl ihr =>
    intro k W q h hc
    obtain ⟨b, ql, qr, rfl, hb, hl, hr⟩ := h
    have ec : Hid ((Tr.node l nk nv r).cnt = 1 + l.cnt + r.cnt) := rfl
    have hcl : l.cnt + r.cnt < 900000 := by have := ec.out; omega
    have pl := Tr.wo_cnt l k
    have pr := Tr.wo_cnt r k
    have IL := Lib.hid ihl
    have IR := Lib.hid ihr
    clear ihl ihr hc
    obtain ⟨k0, k1, k2, k3⟩ := cells4I hb
    by_cases c1 : sLt k nk = true
    · have t1 : Op.bytesLess k.toList nk.toList = true := c1
      have e1 : Hid ((Tr.node l nk nv r).without k = (l.without k).bal nk nv r) := by unfold Hid; rw [Tr.without, if_pos c1]
      go_enter Try.func32, Try.ntmps32
      go_wp2_with fail
      clear k0 k1 k2 k3
      have hb2 := hb.drew
      go_region_held3 (fun w' => w'.cell? ⟨b, 0, none⟩ = some (.pointer ql) ∧ w'.cell? ⟨b, 1, none⟩ = some (.pointer qr) ∧ w'.cell? ⟨b, 2, none⟩ = some (.string nk) ∧ w'.cell? ⟨b, 3, none⟩ = some (Value.int .i64 nv))
        (first | exact cells4I hb2 | exact cells4I (hf3.blk hb2 id) | exact cells4I (hf4.blk (hf3.blk hb2 id) id))
        (first
          | (go_at_call 32; refine (IL.out k _ _ (hl.new (Fr.refl _ W).drew) ?_).mono ?_; omega; rintro e w3 ⟨q3, rfl, hI3, hf3⟩)
          | (go_at_call 37; refine (balanceI_any hI3 (hr.new ((Fr.refl _ W).drew.trans hf3 (fun _ _ h => h))) nk nv ?_).mono ?_; omega; rintro e w4 ⟨q4, rfl, hI4, hf4⟩))
      go_wp2_with fail
      go_ret
      exact ⟨_, rfl, by rw [e1.out]; exact hI4, ((Fr.refl _ W).drew.trans hf3 (fun _ _ h => h)).trans hf4 (fun _ _ h => h)⟩
    · have c1' : sLt k nk = false := by simpa using c1
      have t1 : Op.bytesLess k.toList nk.toList = false := c1'
      by_cases c2 : k = nk
      · subst c2
        cases r with
        | nil =>
          obtain rfl : qr = none := hr
          have e1 : Hid ((Tr.node l k nv .nil).without k = l) := by unfold Hid; simp [Tr.without, c1', Tr.first]
          go_enter Try.func32, Try.ntmps32
          go_wp2_with fail
          go_ret
          exact ⟨_, rfl, by rw [e1.out]; exact hl, Fr.refl _ _⟩
        | node rl rk rv rr =>
          obtain ⟨p, hp⟩ : ∃ p, (Tr.node rl rk rv rr).first = some p := by
            have hf := Tr.first_toL (Tr.node rl rk rv rr)
            cases hq : (Tr.node rl rk rv rr).first with
            | some p => exact ⟨p, rfl⟩
            | none =>
              rw [hq] at hf
              have h2 := List.head?_eq_none_iff.1 hf.symm
              simp [Tr.toL] at h2
          obtain ⟨fk, fv⟩ := p
          have e1 : Hid ((Tr.node l k nv (.node rl rk rv rr)).without k = l.bal fk fv ((Tr.node rl rk rv rr).without fk)) := by
            unfold Hid
            rw [Tr.without, c1', hp]
            simp
          have pf := Tr.wo_cnt (Tr.node rl rk rv rr) fk
          have hqr : ∃ c, qr = some ⟨c, 0, none⟩ := by obtain ⟨c, _, _, e, _⟩ := hr; exact ⟨c, e⟩
          have C1 := Lib.hid (firstI_any hr hp)
          clear pl pr hp
          generalize Tr.node rl rk rv rr = r at *
          obtain ⟨rb, rfl⟩ := hqr
          go_enter Try.func32, Try.ntmps32
          go_wp2_with fail
          refine C1.out.mono ?_
          rintro e w' ⟨fb, x0, x1, x4, x5, rfl, hfb, rfl⟩
          go_wp2_with fail
          clear k0 k1 k2 k3 C1
          have hb2 := hb.drew
          have hfb2 := hfb.drew
          go_region_held3 (fun w' => (w'.cell? ⟨b, 0, none⟩ = some (.pointer ql) ∧ w'.cell? ⟨b, 1, none⟩ = some (.pointer (some ⟨rb, 0, none⟩))) ∧ (w'.cell? ⟨fb, 2, none⟩ = some (.string fk) ∧ w'.cell? ⟨fb, 3, none⟩ = some (Value.int .i64 fv)))
            (first | exact ⟨⟨hb2.cell 0 rfl, hb2.cell 1 rfl⟩, ⟨hfb2.cell 2 rfl, hfb2.cell 3 rfl⟩⟩ | exact ⟨⟨(hf3.blk hb2 id).cell 0 rfl, (hf3.blk hb2 id).cell 1 rfl⟩, ⟨(hf3.blk hfb2 id).cell 2 rfl, (hf3.blk hfb2 id).cell 3 rfl⟩⟩ | exact ⟨⟨(hf4.blk (hf3.blk hb2 id) id).cell 0 rfl, (hf4.blk (hf3.blk hb2 id) id).cell 1 rfl⟩, ⟨(hf4.blk (hf3.blk hfb2 id) id).cell 2 rfl, (hf4.blk (hf3.blk hfb2 id) id).cell 3 rfl⟩⟩)
            (first
              | (go_at_call 32; refine (IR.out fk _ _ (hr.new (Fr.refl _ W).drew) ?_).mono ?_; omega; rintro e w3 ⟨q3, rfl, hI3, hf3⟩)
              | (go_at_call 37; refine (balanceI_any (hl.new ((Fr.refl _ W).drew.trans hf3 (fun _ _ h => h))) hI3 fk fv ?_).mono ?_; omega; rintro e w4 ⟨q4, rfl, hI4, hf4⟩))
          go_wp2_with fail
          go_ret
          exact ⟨_, rfl, by rw [e1.out]; exact hI4, ((Fr.refl _ W).drew.trans hf3 (fun _ _ h => h)).trans hf4 (fun _ _ h => h)⟩
      · have c3 := sLt_total c2 c1'
        have e1 : Hid ((Tr.node l nk nv r).without k = l.bal nk nv (r.without k)) := by unfold Hid; rw [Tr.without, c1', if_neg (by simp), if_pos c3]
        have t2 := toList_ne c2
        clear c2
        go_enter Try.func32, Try.ntmps32
        go_wp2_with fail
        clear k0 k1 k2 k3
        have hb2 := hb.drew
        go_region_held3 (fun w' => w'.cell? ⟨b, 0, none⟩ = some (.pointer ql) ∧ w'.cell? ⟨b, 1, none⟩ = some (.pointer qr) ∧ w'.cell? ⟨b, 2, none⟩ = some (.string nk) ∧ w'.cell? ⟨b, 3, none⟩ = some (Value.int .i64 nv))
          (first | exact cells4I hb2 | exact cells4I (hf3.blk hb2 id) | exact cells4I (hf4.blk (hf3.blk hb2 id) id))
          (first
            | (go_at_call 32; refine (IR.out k _ _ (hr.new (Fr.refl _ W).drew) ?_).mono ?_; omega; rintro e w3 ⟨q3, rfl, hI3, hf3⟩)
            | (go_at_call 37; refine (balanceI_any (hl.new ((Fr.refl _ W).drew.trans hf3 (fun _ _ h => h))) hI3 nk nv ?_).mono ?_; omega; rintro e w4 ⟨q4, rfl, hI4, hf4⟩))
        go_wp2_with fail
        go_ret
        exact ⟨_, rfl, by rw [e1.out]; exact hI4, ((Fr.refl _ W).drew.trans hf3 (fun _ _ h => h)).trans hf4 (fun _ _ h => h)⟩
end Go.Proofs.Ytkodepdbnkghfaa
