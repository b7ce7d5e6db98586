/- A cursor looks ahead. Conditions: those of the lemmas. -/
import Derived.Test.YtcpnjlnphjnhnaaMPre
namespace Go.Proofs.Ytcpnjlnphjnhnaa
open Go.RowKit
theorem fill_nil (W : World) : Calls Try.prog 29 #[.pointer none] W fun e w' => e = .returned (.bool false) ∧ W = w' := by
  go_enter Try.func29, Try.ntmps29
  go_wp2
  go_ret
  exact ⟨rfl, rfl⟩
theorem fill_peeked {d : CD} {W : World} {l : List En} {e : Int} (h : Cst d W l e true) : Calls Try.prog 29 #[.pointer (some ⟨d.cb, 0, none⟩)] W fun en w' => en = .returned (.bool (!l.isEmpty)) ∧ W = w' := by
  obtain ⟨hl, h0, hv, f, last, bg, dn, hb, hc⟩ := h
  have k4 := hb.cell 4 rfl
  have k8 := hb.cell 8 rfl
  rcases hc with ⟨_, _, _, a4, _⟩ | ⟨rfl, rfl, rfl, _, rfl, rfl, l0, e0, l', _, _, rfl⟩ | ⟨rfl, rfl, rfl, _, rfl⟩
  · cases a4
  · clear hb
    go_enter Try.func29, Try.ntmps29
    go_wp2
    go_ret
    exact ⟨rfl, rfl⟩
  · clear hb
    go_enter Try.func29, Try.ntmps29
    go_wp2
    go_ret
    exact ⟨rfl, rfl⟩
/-- What a cursor's fill does where it calls its source. -/
structure FillQ (d : CD) (W : World) (l : List En) (e : Int) (en : Ending) (W' : World) : Prop where
  res : en = .returned (.bool (!l.isEmpty))
  st : Cst d W' l e true
  fr : Fr d.foot W W'
theorem fillQ_rise {d : CD} (hd : SrcOk d) {W w3 : World} {h0 x : En} {last : ByteArray} {bg : Bool} {l0 l : List En} {e0 e : Int} (hl : ∀ k, d.F k → k < W.heap.size) (hb : Blk w3 d.cb (cur d.nx h0 false 0 last bg false) 57) (hf : Fr d.F W w3) (hI : d.I w3 l0 e0)
    (ht : (x :: (told (some x.key) l0 e0).1, (told (some x.key) l0 e0).2) = (l, e)) :
    FillQ d W l e (.returned (.bool true)) ((((((w3.setCell ⟨d.cb, 1, none⟩ (.string x.key)).setCell ⟨d.cb, 2, none⟩ (.string x.val)).setCell ⟨d.cb, 3, none⟩ (.bool x.gone)).setCell ⟨d.cb, 4, none⟩ (.bool true)).setCell ⟨d.cb, 6, none⟩ (.string x.key)).setCell ⟨d.cb, 7, none⟩ (.bool true)).drew := by
  simp only [Prod.mk.injEq] at ht
  obtain ⟨rfl, rfl⟩ := ht
  have g : Fr (fun k => k = d.cb) w3 ((((((w3.setCell ⟨d.cb, 1, none⟩ (.string x.key)).setCell ⟨d.cb, 2, none⟩ (.string x.val)).setCell ⟨d.cb, 3, none⟩ (.bool x.gone)).setCell ⟨d.cb, 4, none⟩ (.bool true)).setCell ⟨d.cb, 6, none⟩ (.string x.key)).setCell ⟨d.cb, 7, none⟩ (.bool true)).drew :=
    (((((((Fr.refl _ w3).set1 _ _).set1 _ _).set1 _ _).set1 _ _).set1 _ _).set1 _ _).drew
  refine ⟨rfl, ⟨fun k hk => Nat.lt_of_lt_of_le (hl k hk) (Nat.le_trans hf.size g.size), x, true, 0, x.key, true, false, (((((((hb.set 1 (.string x.key)).set 2 (.string x.val)).set 3 (.bool x.gone)).set 4 (.bool true)).set 6 (.string x.key)).set 7 (.bool true)).drew),
    .inr (.inl ⟨rfl, rfl, rfl, rfl, rfl, rfl, l0, e0, _, hd.fr hI g (fun k hk hh => hd.ne (by rw [← hh]; exact hk)), rfl, rfl⟩)⟩, (hf.mono (fun _ _ h => .inr h)).trans g (fun i _ h => .inl h)⟩
theorem fillQ_fall {d : CD} (h0 : En) (last : ByteArray) (bg : Bool) {W w3 : World} {e : Int} (hl : ∀ k, d.F k → k < W.heap.size) (hb : Blk w3 d.cb (cur d.nx h0 false 0 last bg false) 57) (hf : Fr d.F W w3) :
    FillQ d W [] e (.returned (.bool false)) ((w3.setCell ⟨d.cb, 8, none⟩ (.bool true)).setCell ⟨d.cb, 5, none⟩ (.int .i64 e)) :=
  ⟨rfl, ⟨fun k hk => by have := hl k hk; have := hf.size; simp [World.setCell]; omega, h0, _, _, last, bg, true, (hb.set 8 (.bool true)).set 5 (.int .i64 e), .inr (.inr ⟨rfl, rfl, rfl, rfl, rfl⟩)⟩, ((hf.mono (fun _ _ h => .inr h)).setCell _ _ (fun _ => .inl rfl)).setCell _ _ (fun _ => .inl rfl)⟩
set_option maxHeartbeats 2000000 in
set_option maxRecDepth 100000 in
theorem fill_any {d : CD} (hd : SrcOk d) {W : World} {l : List En} {e : Int} {pk : Bool} (h : Cst d W l e pk) : Calls Try.prog 29 #[.pointer (some ⟨d.cb, 0, none⟩)] W (FillQ d W l e) := by
  rcases pk with _ | _
  · obtain ⟨hl, h0, hv, f, last, bg, dn, hb, hc⟩ := h
    rcases hc with ⟨rfl, rfl, rfl, _, l0, e0, hI, ht⟩ | ⟨_, _, _, a4, _⟩ | ⟨_, _, _, a4, _⟩
    · obtain ⟨cb, nx, F, I⟩ := d
      simp only at hl hb hI
      have k0 := hb.cell 0 rfl
      have k4 := hb.cell 4 rfl
      have k5 := hb.cell 5 rfl
      have k6 := hb.cell 6 rfl
      have k7 := hb.cell 7 rfl
      have k8 := hb.cell 8 rfl
      rcases hd.src with ⟨hn, hE⟩ | ⟨g, lb, hn, he, hst, hla⟩
      · simp only at hn
        subst hn
        obtain ⟨rfl, rfl⟩ := hE _ _ _ hI
        have ht' : l = [] ∧ e = 0 := by simp [told] at ht; exact ⟨ht.1, ht.2.symm⟩
        obtain ⟨rfl, rfl⟩ := ht'
        have hq := fun (w : World) => run_eql_nil_nil (P := Try.prog) 47 Try.underlying47 w
        have f8 := hb.free 8
        have hlt := hb.lt
        have hF : FillQ ⟨cb, .nilFunc, F, I⟩ W [] 0 (.returned (.bool false)) (W.setCell ⟨cb, 8, none⟩ (.bool true)) :=
          ⟨rfl, ⟨fun k hk => by simpa [World.setCell] using hl k hk, h0, _, _, last, bg, true, hb.set 8 (.bool true), .inr (.inr ⟨rfl, rfl, rfl, rfl, rfl⟩)⟩, (Fr.refl _ W).setCell _ _ (fun _ => .inl rfl)⟩
        have HF := Lib.hid hF
        clear hF hb hI hE hd ht hl
        go_enter Try.func29, Try.ntmps29
        go_wp2
        go_ret
        exact HF.out
      · simp only at hn
        subst hn
        have hq := fun (w : World) => run_eql_func_nil (P := Try.prog) 47 Try.underlying47 w (.func g) #[] lb
        rcases l0 with _ | ⟨x, l0⟩
        · have ht' : l = [] ∧ e = e0 := by simp [told] at ht; exact ⟨ht.1, ht.2.symm⟩
          obtain ⟨rfl, rfl⟩ := ht'
          have HL := Lib.hid (hla W e hI)
          go_enter Try.func29, Try.ntmps29
          go_wp2_with fail
          refine HL.out.mono ?_
          rintro en W1 ⟨rfl, hf1⟩
          have hb1 := (hf1.blk hb hd.ne).alloc (.cells #[.string ⟨#[]⟩, .string ⟨#[]⟩, .bool false] 32)
          have hf2 := hf1.alloc (.cells #[.string ⟨#[]⟩, .string ⟨#[]⟩, .bool false] 32)
          go_upto_region 7 with fail
          generalize W1.alloc (.cells #[.string ⟨#[]⟩, .string ⟨#[]⟩, .bool false] 32) = w2 at hb1 hf2 ⊢
          clear k0 k4 k5 k6 k7 k8 HL hf1
          go_quiet (fail)
          have hb3 := hb1.drewN nq
          have hf3 := hf2.drewN nq
          clear hb1 hf2
          generalize w2.drewN nq = w3 at hb3 hf3 ⊢
          have k5 := hb3.cell 5 rfl
          have k8 := hb3.cell 8 rfl
          have f5 := hb3.free 5
          have f8 := hb3.free 8
          have hlt := hb3.lt
          have hF : FillQ ⟨cb, .func (.func g) #[] lb, F, I⟩ W [] e (.returned (.bool false)) ((w3.setCell ⟨cb, 8, none⟩ (.bool true)).setCell ⟨cb, 5, none⟩ (.int .i64 e)) :=
            ⟨rfl, ⟨fun k hk => by have := hl k hk; have := hf3.size; simp [World.setCell]; omega, h0, _, _, last, bg, true, (hb3.set 8 (.bool true)).set 5 (.int .i64 e), .inr (.inr ⟨rfl, rfl, rfl, rfl, rfl⟩)⟩, ((hf3.mono (fun _ _ h => .inr h)).setCell _ _ (fun _ => .inl rfl)).setCell _ _ (fun _ => .inl rfl)⟩
          have HF := Lib.hid hF
          clear hF hb hI hst hla hd ht hl hb3 hf3
          go_wp2
          go_ret
          exact HF.out
        · have HS := Lib.hid (hst W x l0 e0 hI)
          rw [told] at ht
          go_enter Try.func29, Try.ntmps29
          go_wp2_with fail
          refine HS.out.mono ?_
          rintro en W1 ⟨rfl, hI1, hf1⟩
          have hb1 := (hf1.blk hb hd.ne).alloc (.cells #[.string x.key, .string x.val, .bool x.gone] 32)
          have hx1 : Blk (W1.alloc (.cells #[.string x.key, .string x.val, .bool x.gone] 32)) W1.heap.size (enV x) 32 := Blk.at_new _ _ _ _ _ rfl rfl
          have hf2 := hf1.alloc (.cells #[.string x.key, .string x.val, .bool x.gone] 32)
          have hI2 := hd.fr hI1 ((Fr.refl (fun _ => False) W1).alloc (.cells #[.string x.key, .string x.val, .bool x.gone] 32)) (fun _ _ => id)
          go_upto_region 7 with fail
          generalize W1.alloc (.cells #[.string x.key, .string x.val, .bool x.gone] 32) = w2 at hb1 hf2 hx1 hI2 ⊢
          generalize W1.heap.size = xb at hx1 ⊢
          clear k0 k4 k5 k6 k7 k8 HS hf1 hI1
          have k6 := hb1.cell 6 rfl
          have k7 := hb1.cell 7 rfl
          have x0 := hx1.cell 0 rfl
          rcases bg with _ | _
          · rw [if_neg (by simp [flat])] at ht
            go_quiet (fail)
            have hb3 := hb1.drewN nq
            have hf3 := hf2.drewN nq
            have hx3 := hx1.drewN nq
            have hI3 := hd.fr hI2 ((Fr.refl (fun _ => False) w2).drewN nq) (fun _ _ => id)
            clear hb1 hf2 hx1 hI2 k6 k7 x0
            generalize w2.drewN nq = w3 at hb3 hf3 hx3 hI3 ⊢
            have hne := hx3.ne hb3 (by decide)
            have HF := Lib.hid (fillQ_rise hd hl hb3 hf3 hI3 ht)
            have x0 := hx3.cell 0 rfl
            have x1 := hx3.cell 1 rfl
            have x2 := hx3.cell 2 rfl
            have c1 := hb3.cell 1 rfl
            have c2 := hb3.cell 2 rfl
            have c3 := hb3.cell 3 rfl
            have c4 := hb3.cell 4 rfl
            have c6 := hb3.cell 6 rfl
            have c7 := hb3.cell 7 rfl
            have f1 := hb3.free 1
            have f2 := hb3.free 2
            have f3 := hb3.free 3
            have f4 := hb3.free 4
            have f6 := hb3.free 6
            have f7 := hb3.free 7
            have hlt := hb3.lt
            clear hb hI hst hla hd ht hl hb3 hf3 hx3 hI3
            go_upto_region 12 with fail
            go_region
            go_wp2
            go_ret
            exact HF.out
          · simp only [if_true] at ht
            cases hr : sLt last x.key with
            | false =>
              have h7 : (Op.bytesLess x.key.toList last.toList || x.key.toList == last.toList) = true := by rw [leq_not, hr]; rfl
              rw [if_pos (by simp [flat, hr])] at ht
              go_quiet (fail)
              have hb3 := hb1.drewN nq
              have hf3 := hf2.drewN nq
              clear hb1 hf2 hx1 hI2 k6 k7 x0
              generalize w2.drewN nq = w3 at hb3 hf3 ⊢
              have k5 := hb3.cell 5 rfl
              have k8 := hb3.cell 8 rfl
              have f5 := hb3.free 5
              have f8 := hb3.free 8
              have hlt := hb3.lt
              have ht2 : l = [] ∧ e = 3 := by simp at ht; exact ⟨ht.1, ht.2.symm⟩
              obtain ⟨rfl, rfl⟩ := ht2
              have HF := Lib.hid (fillQ_fall h0 last true (d := ⟨cb, .func (.func g) #[] lb, F, I⟩) (e := 3) hl hb3 hf3)
              clear hb hI hst hla hd ht hl hb3 hf3
              go_wp2
              go_ret
              exact HF.out
            | true =>
              have h7 : (Op.bytesLess x.key.toList last.toList || x.key.toList == last.toList) = false := by rw [leq_not, hr]; rfl
              rw [if_neg (by simp [flat, hr])] at ht
              go_quiet (fail)
              have hb3 := hb1.drewN nq
              have hf3 := hf2.drewN nq
              have hx3 := hx1.drewN nq
              have hI3 := hd.fr hI2 ((Fr.refl (fun _ => False) w2).drewN nq) (fun _ _ => id)
              clear hb1 hf2 hx1 hI2 k6 k7 x0
              generalize w2.drewN nq = w3 at hb3 hf3 hx3 hI3 ⊢
              have hne := hx3.ne hb3 (by decide)
              have HF := Lib.hid (fillQ_rise hd hl hb3 hf3 hI3 ht)
              have x0 := hx3.cell 0 rfl
              have x1 := hx3.cell 1 rfl
              have x2 := hx3.cell 2 rfl
              have c1 := hb3.cell 1 rfl
              have c2 := hb3.cell 2 rfl
              have c3 := hb3.cell 3 rfl
              have c4 := hb3.cell 4 rfl
              have c6 := hb3.cell 6 rfl
              have c7 := hb3.cell 7 rfl
              have f1 := hb3.free 1
              have f2 := hb3.free 2
              have f3 := hb3.free 3
              have f4 := hb3.free 4
              have f6 := hb3.free 6
              have f7 := hb3.free 7
              have hlt := hb3.lt
              clear hb hI hst hla hd ht hl hb3 hf3 hx3 hI3
              go_upto_region 12 with fail
              go_region
              go_wp2
              go_ret
              exact HF.out
    · cases a4
    · cases a4
  · refine (fill_peeked h).mono ?_
    rintro en W' ⟨rfl, rfl⟩
    exact ⟨rfl, h, Fr.refl _ _⟩
end Go.Proofs.Ytcpnjlnphjnhnaa
