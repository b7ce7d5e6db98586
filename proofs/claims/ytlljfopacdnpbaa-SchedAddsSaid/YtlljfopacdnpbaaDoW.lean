/- A task's step, walked. Conditions: those of the lemmas. -/
import Derived.Test.YtlljfopacdnpbaaDo
import Derived.Deep.CutBlock
namespace Go.Proofs.Ytlljfopacdnpbaa
open Go.RowKit
set_option maxHeartbeats 4000000 in
set_option maxRecDepth 100000 in
theorem do_any {W : World} {E : Env} {s : St} (h : WdAt W E s) (x : Ins) (hx : x.ok) (slot : Nat) (hs : slot < s.known.length) :
    Calls Try.prog 42 #[.pointer (some ⟨E.wb, 0, none⟩), .agg (insV x).toArray, .int .i64 (slot : Int)] W fun e w' => e = .returned (.tuple #[]) ∧ WdAt w' E (freeK x slot (doK x slot s)) ∧ Fr E.mem W w' := by
  obtain ⟨kind, cell, n, mutex, free⟩ := x
  obtain ⟨⟨hc0, hc1⟩, _, hf0, hf1⟩ := hx
  simp only at hc0 hc1 hf0 hf1
  obtain ⟨ck, rfl⟩ : ∃ ck : Nat, cell = ck := ⟨cell.toNat, by omega⟩
  have hck : ck < 4 := by omega
  have fa : Fr (fun _ => False) W (W.alloc (.cells #[.int .i64 kind, .int .i64 (ck : Int), .int .i64 n, .int .i64 mutex, .int .i64 free] 73)) := (Fr.refl _ W).alloc _
  have hb : Blk (W.alloc (.cells #[.int .i64 kind, .int .i64 (ck : Int), .int .i64 n, .int .i64 mutex, .int .i64 free] 73)) W.heap.size [.int .i64 kind, .int .i64 (ck : Int), .int .i64 n, .int .i64 mutex, .int .i64 free] 73 := Blk.at_new _ _ _ _ _ rfl rfl
  have h1 := h.new fa
  have o0 := h1.obj.cell 0 rfl
  have b1 := hb.cell 1 rfl
  have cat := h1.cAt hck
  have ka : (⟨E.ca, 0, none⟩ : Addr).add ck = ⟨E.ca, ck, none⟩ := add_plain _ _
  have ik0 : (0 : Int) ≤ (ck : Int) := by omega
  show Calls Try.prog 42 #[.pointer (some ⟨E.wb, 0, none⟩), .agg #[.int .i64 kind, .int .i64 (ck : Int), .int .i64 n, .int .i64 mutex, .int .i64 free], .int .i64 (slot : Int)] W _
  go_enter Try.func42, Try.ntmps42
  go_upto_region 1 with fail
  generalize W.alloc (.cells #[.int .i64 kind, .int .i64 (ck : Int), .int .i64 n, .int .i64 mutex, .int .i64 free] 73) = w1 at fa hb h1 o0 b1 cat ⊢
  generalize hxb : W.heap.size = xb at hb b1 ⊢
  have Hxb := Lib.hid hxb
  clear hxb h
  go_quiet (fail)
  have h2 := h1.new ((Fr.refl (fun _ => False) w1).drewN nq)
  have hb2 := hb.drewN nq
  have fa2 := fa.drewN nq
  clear h1 hb o0 b1 cat fa
  generalize w1.drewN nq = w2 at h2 hb2 fa2 ⊢
  have b0 := hb2.cell 0 rfl
  have is0 : (0 : Int) ≤ (slot : Int) := by omega
  have is1 : (slot : Int) < (s.known.length : Int) := by omega
  have ks : (⟨E.kb, 0, none⟩ : Addr).add slot = ⟨E.kb, slot, none⟩ := add_plain _ _
  have HE := Lib.hid (show ∀ q, q = E.kb → E.mem q from fun q h => .inl h)
  have HC := Lib.hid (show ∀ q, q = E.c ck → E.mem q from fun q h => .inr ⟨ck, hck, .inl h⟩)
  go_upto_block 0 with fail
  go_cut [] (fun w => WdAt w E (doK ⟨kind, ck, n, mutex, free⟩ slot s) ∧ Blk w xb [.int .i64 kind, .int .i64 (ck : Int), .int .i64 n, .int .i64 mutex, .int .i64 free] 73 ∧ Fr E.mem W w)
  case first =>
    have o2 := h2.obj.cell 2 rfl
    have c0 := h2.kn.cell slot (i64s_at hs)
    obtain ⟨kv, hkv⟩ : ∃ kv, s.known.getD slot 0 = kv := ⟨_, rfl⟩
    rw [hkv] at c0
    have Hkv := Lib.hid (show s.known[slot]?.getD 0 = kv by rw [← List.getD_eq_getElem?_getD]; exact hkv)
    clear hkv
    have cf := h2.kn.free slot
    have b2 := hb2.cell 2 rfl
    obtain ⟨kcs, hkc⟩ := h2.knB
    have kl := hkc.lt
    have kx : E.kb ≠ xb := hkc.ne hb2 (by decide)
    have kw : E.wb ≠ E.kb := h2.obj.ne hkc (by decide)
    have H2 := Lib.hid h2
    have Hb2 := Lib.hid hb2
    have Fa2 := Lib.hid (fa2.mono (S' := E.mem) (fun _ _ h => h.elim))
    clear h2 hb2 fa2 hkc b0
    by_cases k1 : kind = 1
    · subst k1
      have CL := Lib.hid (loadI_any (W := w2.drew) (H2.out.cel ck hck))
      go_upto_region 5 with fail
      go_region_held3 (fun w' => w'.cell? ⟨E.wb, 2, none⟩ = some (.slice (some ⟨E.kb, 0, none⟩) s.known.length E.kc))
        (first | exact o2 | exact ((Fr.refl (fun q => q = E.kb) _).set1 slot (.int .i64 (s.cells ck))).cell o2 (by simpa using kw))
        (first
          | (go_at_call 19; refine CL.out.mono ?_; rintro e w7 ⟨rfl, rfl⟩))
      go_wp2
      go_meet
      case rel =>
        refine ⟨?_, (Hb2.out.other (a := ⟨E.kb, slot, none⟩) kx.symm _).drew, (Fa2.out.setCell _ _ (fun _ => HE.out _ rfl)).drew⟩
        have := (H2.out.setK slot (s.cells ck)).new ((Fr.refl (fun _ => False) _).drew)
        simpa [doK, Hkv.out, wrapE] using this
    · obtain ⟨wc1, wc2, wc3⟩ : E.wb ≠ E.c ck ∧ E.kb ≠ E.c ck ∧ xb ≠ E.c ck := by
        obtain ⟨kcs, hkc⟩ := H2.out.knB
        exact ⟨H2.out.obj.ne (H2.out.cel ck hck) (by decide), hkc.ne (H2.out.cel ck hck) (by decide), Hb2.out.ne (H2.out.cel ck hck) (by decide)⟩
      by_cases k2 : kind = 2
      · subst k2
        have CL := Lib.hid (storeI_any (W := w2.drew) (H2.out.cel ck hck) (IntKind.i64.wrap (kv + n)))
        go_upto_region 7 with fail
        go_region_held3 (fun w' => w'.cell? ⟨E.wb, 2, none⟩ = some (.slice (some ⟨E.kb, 0, none⟩) s.known.length E.kc) ∧ w'.cell? ⟨E.kb, slot, none⟩ = some (.int .i64 (kv)) ∧ w'.cell? ⟨xb, 2, none⟩ = some (.int .i64 n))
          (first | exact ⟨o2, c0, b2⟩ | exact ⟨hf7.cell o2 wc1, hf7.cell c0 wc2, hf7.cell b2 wc3⟩)
          (first
            | (go_at_call 22; refine CL.out.mono ?_; rintro e w7 ⟨rfl, hc7, hf7⟩))
        go_wp2
        go_meet
        case rel =>
          refine ⟨?_, hf7.blk Hb2.out.drew wc3, Fa2.out.drew.trans hf7 (fun _ _ h => HC.out _ h)⟩
          have := (H2.out.new ((Fr.refl (fun _ => False) w2).drew)).setC hck hc7 hf7
          simpa [doK, Hkv.out, wrapE] using this
      · by_cases k3 : kind = 3
        · subst k3
          by_cases hv : s.cells ck = kv
          · have CL := Lib.hid (swapI_yes (W := w2.drew) (H2.out.cel ck hck) (IntKind.i64.wrap (kv + n)))
            rw [hv] at CL
            go_upto_region 9 with fail
            go_region_held3 (fun w' => w'.cell? ⟨E.wb, 2, none⟩ = some (.slice (some ⟨E.kb, 0, none⟩) s.known.length E.kc) ∧ w'.cell? ⟨E.kb, slot, none⟩ = some (.int .i64 (kv)) ∧ w'.cell? ⟨xb, 2, none⟩ = some (.int .i64 n))
              (first | exact ⟨o2, c0, b2⟩ | exact ⟨hf7.cell o2 wc1, hf7.cell c0 wc2, hf7.cell b2 wc3⟩)
              (first
                | (go_at_call 21; refine CL.out.mono ?_; rintro e w7 ⟨rfl, hc7, hf7⟩))
            have h7 := (H2.out.new ((Fr.refl (fun _ => False) w2).drew)).setC hck hc7 hf7
            have o7 := hf7.cell o2 wc1
            have c7 := hf7.cell c0 wc2
            obtain ⟨kcs7, hk7⟩ := h7.knB
            have kf7 := hk7.free slot
            have kl7 := hk7.lt
            have h8 := h7.setK slot 1
            have hb7 := (hf7.blk Hb2.out.drew wc3).other (a := ⟨E.kb, slot, none⟩) kx.symm (.int .i64 1)
            have f7 := Fa2.out.drew.trans hf7 (fun _ _ h => HC.out _ h)
            have f8 := f7.setCell ⟨E.kb, slot, none⟩ (.int .i64 1) (fun _ => HE.out _ rfl)
            have H8 := Lib.hid (And.intro h8 (And.intro hb7 f8))
            clear h7 hk7 h8 hb7 f7 f8 hc7 hf7 CL o2 c0 b2 cf kl
            go_wp2
            go_meet
            case rel =>
              refine ⟨?_, H8.out.2.1, H8.out.2.2⟩
              have := H8.out.1
              simpa [doK, hv, Hkv.out, wrapE] using this
          · have CL := Lib.hid (swapI_no (W := w2.drew) (H2.out.cel ck hck) (kv) (IntKind.i64.wrap (kv + n)) hv)
            go_upto_region 9 with fail
            go_region_held3 (fun w' => w'.cell? ⟨E.wb, 2, none⟩ = some (.slice (some ⟨E.kb, 0, none⟩) s.known.length E.kc) ∧ w'.cell? ⟨E.kb, slot, none⟩ = some (.int .i64 (kv)) ∧ w'.cell? ⟨xb, 2, none⟩ = some (.int .i64 n))
              (first | exact ⟨o2, c0, b2⟩)
              (first
                | (go_at_call 21; refine CL.out.mono ?_; rintro e w7 ⟨rfl, rfl⟩))
            have h8 := (H2.out.setK slot 0).new ((Fr.refl (fun _ => False) _).drew)
            have hb7 := ((Hb2.out).other (a := ⟨E.kb, slot, none⟩) kx.symm (.int .i64 0)).drew
            have f8 := (Fa2.out.setCell ⟨E.kb, slot, none⟩ (.int .i64 0) (fun _ => HE.out _ rfl)).drew
            have hv2 : ¬ s.cells ck = kv := hv
            have H8 := Lib.hid (And.intro h8 (And.intro hb7 f8))
            clear h8 hb7 f8 CL
            go_wp2
            go_meet
            case rel =>
              refine ⟨?_, H8.out.2.1, H8.out.2.2⟩
              have := H8.out.1
              simpa [doK, hv, Hkv.out, wrapE] using this
        · go_upto_region 3 with fail
          go_region
          have h8 := (H2.out.setK slot n).new ((Fr.refl (fun _ => False) _).drew)
          have hb7 := ((Hb2.out).other (a := ⟨E.kb, slot, none⟩) kx.symm (.int .i64 n)).drew
          have f8 := (Fa2.out.setCell ⟨E.kb, slot, none⟩ (.int .i64 n) (fun _ => HE.out _ rfl)).drew
          have H8 := Lib.hid (And.intro h8 (And.intro hb7 f8))
          clear h8 hb7 f8
          go_wp2
          go_meet
          case rel =>
            refine ⟨?_, H8.out.2.1, H8.out.2.2⟩
            have := H8.out.1
            simpa [doK, k1, k2, k3] using this
  case rest =>
    obtain ⟨h3, hb3, hf3⟩ := hcut
    obtain ⟨s', hs'⟩ : ∃ s', doK ⟨kind, ck, n, mutex, free⟩ slot s = s' := ⟨_, rfl⟩
    rw [hs'] at h3
    have Hs' := Lib.hid hs'
    clear h2 hb2 fa2 b0 hs'
    have b4 := hb3.cell 4 rfl
    by_cases hfr : 0 < free
    · obtain ⟨f, rfl⟩ : ∃ f : Nat, free = (f : Int) + 1 := ⟨(free - 1).toNat, by omega⟩
      have hf4 : f < 4 := by omega
      have o1 := h3.obj.cell 1 rfl
      have mat := h3.mAt hf4
      have km : (⟨E.ma, 0, none⟩ : Addr).add f = ⟨E.ma, f, none⟩ := add_plain _ _
      have if0 : (0 : Int) ≤ (f : Int) := by omega
      have if1 : (f : Int) < 4 := by omega
      have if2 : IntKind.i64.wrap ((f : Int) + 1 - 1) = (f : Int) := by rw [IntWalk.i64_in _ (by omega)]; omega
      have if3 : IntKind.i64.wrap (f : Int) = (f : Int) := IntWalk.i64_in _ (by omega)
      have if4 : wrap64 (f : Int) = (f : Int) := IntWalk.wrap64_in _ (by omega)
      have if5 : wrap64 ((f : Int) + 1 - 1) = (f : Int) := by rw [IntWalk.wrap64_in _ (by omega)]; omega
      have H3 := Lib.hid (And.intro h3 (And.intro hb3 hf3))
      by_cases hh : s'.held f = some (slot : Int)
      · obtain ⟨y, hy, hyy⟩ := h3.muB hf4
        rw [hh] at hy
        obtain rfl := hyy _ hh
        have CL := Lib.hid (mfree_ok (W := wc.drew) hy)
        obtain ⟨mcs, hmc⟩ := h3.msB
        have m1 := h3.obj.ne hy (by decide)
        have m2 := hmc.ne hy (by decide)
        have m3 := hb3.ne hy (by decide)
        clear h3 hb3 hf3 hy hyy hmc
        go_upto_region 13 with fail
        go_region_held3 (fun w' => w'.cell? ⟨E.wb, 1, none⟩ = some (.slice (some ⟨E.ma, 0, none⟩) 4 E.mc) ∧ w'.cell? ⟨xb, 4, none⟩ = some (.int .i64 ((f : Int) + 1)) ∧ w'.cell? ⟨E.ma, f, none⟩ = some (.pointer (some ⟨E.m f, 0, none⟩)))
          (first | exact ⟨o1, b4, mat⟩ | exact ⟨hf7.cell o1 m1, hf7.cell b4 m3, hf7.cell mat m2⟩)
          (first
            | (go_at_call 24; refine CL.out.mono ?_; rintro e w7 ⟨rfl, hm7, hf7⟩))
        go_wp2
        go_end0
        refine ⟨rfl, ?_, H3.out.2.2.drew.trans hf7 (fun _ _ h => .inr ⟨f, hf4, .inr h⟩)⟩
        have := (H3.out.1.new ((Fr.refl (fun _ => False) wc).drew)).setM hf4 (o := none) (.inr ⟨E.m f, 0, rfl, hm7, fun x hx => by cases hx⟩) hf7
        rw [Hs'.out]
        simp only [freeK]
        rw [if_pos ⟨hfr, by rw [show ((f : Int) + 1).toNat - 1 = f by omega]; exact hh⟩, show ((f : Int) + 1).toNat - 1 = f by omega]
        exact this
      · have CL := Lib.hid (mfree_no (W := wc.drew) (h3.mux f hf4) (slot : Int) hh)
        clear h3 hb3 hf3
        go_upto_region 13 with fail
        go_region_held3 (fun w' => w'.cell? ⟨E.wb, 1, none⟩ = some (.slice (some ⟨E.ma, 0, none⟩) 4 E.mc) ∧ w'.cell? ⟨xb, 4, none⟩ = some (.int .i64 ((f : Int) + 1)) ∧ w'.cell? ⟨E.ma, f, none⟩ = some (.pointer (some ⟨E.m f, 0, none⟩)))
          (first | exact ⟨o1, b4, mat⟩)
          (first
            | (go_at_call 24; refine CL.out.mono ?_; rintro e w7 ⟨rfl, rfl⟩))
        go_wp2
        go_end0
        refine ⟨rfl, ?_, H3.out.2.2.drew⟩
        rw [Hs'.out]
        simp only [freeK]
        rw [if_neg (fun h => hh (by have := h.2; rwa [show ((f : Int) + 1).toNat - 1 = f by omega] at this))]
        exact H3.out.1.new ((Fr.refl (fun _ => False) wc).drew)
    · have H3 := Lib.hid (And.intro h3 (And.intro hb3 hf3))
      clear h3 hb3 hf3
      go_wp2
      go_end0
      refine ⟨rfl, ?_, H3.out.2.2⟩
      rw [Hs'.out]
      simp only [freeK]
      rw [if_neg (fun h => by have := h.1; omega)]
      exact H3.out.1
end Go.Proofs.Ytlljfopacdnpbaa
