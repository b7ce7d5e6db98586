/- The reference's Step. Conditions: those of the lemma. -/
import Derived.StillTailTactics
import Derived.Test.YtlljfopacdnpbaaRSet
import Derived.Deep.CutBlock
namespace Go.Proofs.Ytlljfopacdnpbaa
open Go.RowKit
def DoneK (w : World) (mb : Nat) (R : RE) (ls : List PT) (pos : Nat → Nat) (s : St) (st : Int) : Prop := ∃ ts, RefAt w mb R ls ts pos s st
theorem takeK_hp (x : Ins) (k : Nat) (s : St) (h : ∀ j v, s.held j = some v → 0 ≤ v) : ∀ j v, (takeK x k s).held j = some v → 0 ≤ v := by
  intro j v
  unfold takeK
  split
  · simp only [upd]
    split
    · intro e; injection e with e; omega
    · exact h j v
  · exact h j v
def rS (mb : Nat) (R : RE) (k : Nat) : Prop := k = mb ∨ R.foot k
set_option maxHeartbeats 4000000 in
set_option maxRecDepth 100000 in
theorem rstep_any {W : World} {mb : Nat} {R : RE} {ls : List PT} {ts : List RT} {pos : Nat → Nat} {s : St} {st : Int} (h : RefAt W mb R ls ts pos s st) (hh : ∀ k v, s.held k = some v → 0 ≤ v) {i : Nat} {p : PT} {x : Ins} (hi : ls[i]? = some p) (hx : p.l[pos i]? = some x) (hxo : x.ok) :
    Calls Try.prog 37 #[.pointer (some ⟨mb, 0, none⟩), .int .i64 (i : Int)] W fun e w' => e = .returned (.tuple #[]) ∧ Fr (rS mb R) W w' ∧ ∃ ts', RefAt w' mb R ls ts' (upd pos i (pos i + 1)) (stepK x i s) (wrap64 (st + 1)) := by
  have hil := (List.getElem?_eq_some_iff.1 hi).1
  have hti : ts[i]? = some (ts[i]'(by rw [h.len]; exact hil)) := List.getElem?_eq_getElem _
  generalize ts[i]'(by rw [h.len]; exact hil) = t at hti
  obtain ⟨k1, k2, k3, k4⟩ := h.ok i p t hi hti
  have hg : t.gone = false := by
    cases hg : t.gone with
    | false => rfl
    | true => rw [k2 hg] at hx; cases hx
  have hat := k3 hg
  have hrow := tksV_at hi hti
  have c0 := h.tasks.cell i 0 hrow rfl
  have c1 := h.tasks.cell i 1 hrow rfl
  rw [Nat.add_zero] at c0
  have c1f := h.tasks.free (i * 4 + 1)
  obtain ⟨_, htb⟩ := h.tbB
  have ctl := htb.lt
  have ka : (⟨R.tb, 0, none⟩ : Addr).add (i * 4) = ⟨R.tb, i * 4, none⟩ := add_plain _ _
  have o0 := h.obj.cell 0 rfl
  have o4 := h.obj.cell 4 rfl
  have o4f := h.obj.free 4
  have ol := h.obj.lt
  have i0 : (0 : Int) ≤ (i : Int) := by omega
  have i1 : (i : Int) < (ls.length : Int) := by omega
  have hR : Rd W p.A (insR p.l) := h.lists p (List.mem_of_getElem? hi)
  have hxat := hx
  rw [← hat] at hxat
  have hxl := (List.getElem?_eq_some_iff.1 hxat).1
  have h60 := h.few p (List.mem_of_getElem? hi)
  obtain ⟨ad, hAe, q0, q1, q2, q3, q4⟩ := ins_cells hR hxat
  rw [hAe] at c0
  have l1 : (t.at_ : Int) < (p.l.length : Int) := by omega
  have l0 : (0 : Int) ≤ (t.at_ : Int) := by omega
  have hne := (h.ne).1
  have t1 : IntKind.i64.wrap ((t.at_ : Int) + 1) = ((t.at_ + 1 : Nat) : Int) := by rw [IntWalk.i64_in _ (by omega)]; omega
  have ga := (Fr.refl (fun _ => False) W).alloc (.cells #[.int .i64 0, .int .i64 0, .int .i64 0, .int .i64 0, .int .i64 0] 73)
  have q0' := ga.cell q0 id
  have q1' := ga.cell q1 id
  have q2' := ga.cell q2 id
  have q3' := ga.cell q3 id
  have q4' := ga.cell q4 id
  have c0' := ga.cell c0 id
  have c1' := ga.cell c1 id
  have H := Lib.hid (And.intro h (And.intro hti (And.intro hg (And.intro (show pos i < 1000 by omega) (And.intro hi hxl)))))
  clear h hR hti k1 k2 k3 hrow hx hxat hat hg ga
  go_enter Try.func37, Try.ntmps37
  go_upto_region 1 with fail
  go_region
  clear q0 q1 q2 q3 q4 q0' q1' q2' q3' q4' c0 c1 c0' c1' o0 o4 o4f ol ctl c1f
  obtain ⟨h, hti, hg, h9, hi, hxl⟩ := H.out
  have gx : Fr (fun _ => False) W (W.alloc (.cells #[.int .i64 x.kind, .int .i64 x.cell, .int .i64 x.n, .int .i64 x.mutex, .int .i64 x.free] 73)).drew := ((Fr.refl _ W).alloc _).drew
  have hX := (Blk.at_new W (insV x) 73 _ _ rfl rfl).drew
  have h1 := h.new gx
  have hXn : ¬ rS mb R W.heap.size := by
    rintro (hh | hh)
    · have := h.lt.1; omega
    · have := h.lt.2 _ hh; omega
  have gx' : Fr (rS mb R) W (W.alloc (.cells #[.int .i64 x.kind, .int .i64 x.cell, .int .i64 x.n, .int .i64 x.mutex, .int .i64 x.free] 73)).drew := gx.mono (fun _ _ h => h.elim)
  simp only [insV, List.toArray] at hX
  generalize (W.alloc (.cells #[.int .i64 x.kind, .int .i64 x.cell, .int .i64 x.n, .int .i64 x.mutex, .int .i64 x.free] 73)).drew = w1 at gx gx' hX h1 ⊢
  generalize W.heap.size = xb at hX hXn ⊢
  have o4 := h1.obj.cell 4 rfl
  have o4f := h1.obj.free 4
  have ol := h1.obj.lt
  have c1 := h1.tasks.cell i 1 (tksV_at hi hti) rfl
  have c1f := h1.tasks.free (i * 4 + 1)
  obtain ⟨_, htb1⟩ := h1.tbB
  have ctl := htb1.lt
  have hne2 : R.tb ≠ mb := Ne.symm hne
  have x3 := hX.cell 3 rfl
  have nx1 : xb ≠ mb := fun e => hXn (.inl e)
  have nx2 : xb ≠ R.tb := fun e => hXn (.inr (.inl e))
  have h2 := h1.setSteps (wrap64 (st + 1))
  have h3 := h2.setAt hi hti hg h9
  have f3 : Fr (rS mb R) W ((w1.setCell ⟨mb, 4, none⟩ (.int .i64 (wrap64 (st + 1)))).setCell ⟨R.tb, i * 4 + 1, none⟩ (.int .i64 ((t.at_ + 1 : Nat) : Int))) := (gx'.setCell _ _ (fun _ => .inl rfl)).setCell _ _ (fun _ => .inr (.inl rfl))
  have X3 := (hX.other (a := ⟨mb, 4, none⟩) nx1 (.int .i64 (wrap64 (st + 1)))).other (a := ⟨R.tb, i * 4 + 1, none⟩) nx2 (.int .i64 ((t.at_ + 1 : Nat) : Int))
  have hti3 : (ts.set i { t with at_ := t.at_ + 1 })[i]? = some { t with at_ := t.at_ + 1 } := List.getElem?_set_self (List.getElem?_eq_some_iff.1 hti).1
  rw [show ((t.at_ + 1 : Nat) : Int) = (t.at_ : Int) + 1 by omega] at h3 f3 X3
  have H3 := Lib.hid (And.intro h3 (And.intro f3 (And.intro X3 (And.intro hti3 hi))))
  clear h h1 h2 h3 f3 X3 hti3 hti hg h9 hi hxl gx gx' H hX htb1
  go_upto_region 4 with fail
  generalize (w1.setCell ⟨mb, 4, none⟩ (.int .i64 (wrap64 (st + 1)))).setCell ⟨R.tb, i * 4 + 1, none⟩ (.int .i64 ((t.at_ : Int) + 1)) = w4 at H3 ⊢
  obtain ⟨h4, f4, X4, hti4, hi4⟩ := H3.out
  generalize (ts.set i { t with at_ := t.at_ + 1 }) = ts4 at h4 hti4
  generalize (⟨t.at_ + 1, t.kn, t.gone⟩ : RT) = t4 at hti4
  clear H3 o4 o4f ol c1 c1f ctl x3
  obtain ⟨⟨hc0, hc1⟩, ⟨hm0, hm1⟩, hf0, hf1⟩ := hxo
  have x0 := X4.cell 0 rfl
  have x3 := X4.cell 3 rfl
  go_upto_if 40 with fail
  go_cut [] (fun w => RefAt w mb R ls ts4 (upd pos i (pos i + 1)) (takeK x i s) (wrap64 (st + 1)) ∧ Blk w xb [.int .i64 x.kind, .int .i64 x.cell, .int .i64 x.n, .int .i64 x.mutex, .int .i64 x.free] 73 ∧ Fr (rS mb R) W w)
  case first =>
    by_cases hm : 0 < x.mutex
    · obtain ⟨mk, hmk⟩ : ∃ mk : Nat, x.mutex = (mk : Int) + 1 := ⟨x.mutex.toNat - 1, by omega⟩
      have hmk4 : mk < 4 := by omega
      have o3 := h4.obj.cell 3 rfl
      have g3 := h4.held.cell mk (four_at _ hmk4)
      have g3f := h4.held.free mk
      have g3l := h4.held.lt
      have ka2 : (⟨R.hb, 0, none⟩ : Addr).add mk = ⟨R.hb, mk, none⟩ := add_plain _ _
      have t2 : IntKind.i64.wrap (x.mutex - 1) = (mk : Int) := by rw [show x.mutex - 1 = (mk : Int) by omega]; exact IntWalk.i64_in _ (by omega)
      have t3 : (0 : Int) ≤ (mk : Int) := by omega
      have t4' : (mk : Int) < 4 := by omega
      have h5 := h4.setHeld hmk4 (some (i : Int))
      have e5 : takeK x i s = { s with held := upd s.held mk (some (i : Int)) } := by unfold takeK; rw [if_pos hm, show x.mutex.toNat - 1 = mk by omega]
      have nx3 : xb ≠ R.hb := fun e => hXn (.inr (.inr (.inr (.inr e))))
      have X5 := X4.other (a := ⟨R.hb, mk, none⟩) nx3 (.int .i64 (i : Int))
      have f5 : Fr (rS mb R) W (w4.setCell ⟨R.hb, mk, none⟩ (.int .i64 (i : Int))) := f4.setCell _ _ (fun _ => .inr (.inr (.inr (.inr rfl))))
      simp only [Option.getD_some] at h5
      have HH := Lib.hid (And.intro h5 (And.intro X5 f5))
      have He := Lib.hid e5
      clear h4 f4 X4 hti4 hi4 h5 X5 f5 e5 hmk
      go_upto_region 5 with fail
      go_region
      go_wp2
      go_meet
      case rel => rw [He.out]; exact ⟨HH.out.1.new ((Fr.refl (fun _ => False) _).drew), HH.out.2.1.drew, HH.out.2.2.drew⟩
    · have HH := Lib.hid (And.intro (show RefAt w4 mb R ls ts4 (upd pos i (pos i + 1)) (takeK x i s) (wrap64 (st + 1)) by unfold takeK; rw [if_neg hm]; exact h4) (And.intro X4 f4))
      clear h4 f4 X4 hti4 hi4
      go_wp2
      go_meet
      case rel => exact HH.out
  case rest =>
    obtain ⟨h5, X5, f5⟩ := hcut
    clear h4 f4 X4 x0 x3
    have x0 := X5.cell 0 rfl
    go_upto_block 0 with fail
    obtain ⟨ck, hck⟩ : ∃ ck : Nat, x.cell = (ck : Int) := ⟨x.cell.toNat, by omega⟩
    have hck4 : ck < 4 := by omega
    have hckn : x.cell.toNat = ck := by omega
    rw [hck] at X5
    obtain ⟨ok1, _⟩ := h5.ok i p t4 hi4 hti4
    have hih := takeK_hp x i s hh
    obtain ⟨s1, hs1⟩ : ∃ s1, takeK x i s = s1 := ⟨_, rfl⟩
    rw [hs1] at h5 ok1 hih
    have hE : stepK x i s = freeK x i (doK x i s1) := by unfold stepK; rw [hs1]
    have HE := Lib.hid hE
    clear hE hs1
    have hkn : s1.known.getD i 0 = t4.kn := by rw [List.getD_eq_getElem?_getD, ok1]; rfl
    obtain ⟨pos1, hpos1⟩ : ∃ pos1, upd pos i (pos i + 1) = pos1 := ⟨_, rfl⟩
    rw [hpos1] at h5
    have HP := Lib.hid hpos1
    clear hpos1
    have x1 := X5.cell 1 rfl
    have x2 := X5.cell 2 rfl
    have o1 := h5.obj.cell 1 rfl
    have o2 := h5.obj.cell 2 rfl
    have cc := h5.cells.cell ck (four_at _ hck4)
    have ccf := h5.cells.free ck
    have ccl := h5.cells.lt
    have cz := h5.sets.cell ck (four_at _ hck4)
    have czf := h5.sets.free ck
    have czl := h5.sets.lt
    have c2 := h5.tasks.cell i 2 (tksV_at hi4 hti4) rfl
    have c2f := h5.tasks.free (i * 4 + 2)
    obtain ⟨_, htb5⟩ := h5.tbB
    have ctl := htb5.lt
    have kac : (⟨R.cb, 0, none⟩ : Addr).add ck = ⟨R.cb, ck, none⟩ := add_plain _ _
    have kaz : (⟨R.zb, 0, none⟩ : Addr).add ck = ⟨R.zb, ck, none⟩ := add_plain _ _
    have ik0 : (0 : Int) ≤ (ck : Int) := by omega
    have ik4 : (ck : Int) < 4 := by omega
    obtain ⟨n1, n2, n3, n4, n5, n6, n7⟩ := h5.ne
    have ncz := h5.cz
    have n2' := Ne.symm n2
    have n3' := Ne.symm n3
    have n1' := Ne.symm n1
    have n5' := Ne.symm n5
    have n6' := Ne.symm n6
    have ncz' := Ne.symm ncz
    have nx2 : xb ≠ R.tb := fun e => hXn (.inr (.inl e))
    have nx3 : xb ≠ R.cb := fun e => hXn (.inr (.inr (.inl e)))
    have nx4 : xb ≠ R.zb := fun e => hXn (.inr (.inr (.inr (.inl e))))
    have hck4' := hck4
    have HC := Lib.hid (And.intro h5 (And.intro X5 (And.intro f5 (And.intro hti4 (And.intro hi4 hkn)))))
    clear h5 X5 f5 hti4 hi4 ok1 hkn htb5
    clear ka i0 i1 l0 l1 t1 hne hne2 nx1 hAe hc0 hc1 hm0 hm1 n3 n4 n6 n7 n1
    go_cut [] (fun w => DoneK w mb R ls pos1 (doK x i s1) (wrap64 (st + 1)) ∧ Blk w xb [.int .i64 x.kind, .int .i64 (ck : Int), .int .i64 x.n, .int .i64 x.mutex, .int .i64 x.free] 73 ∧ Fr (rS mb R) W w)
    case first =>
      obtain ⟨h5, X5, f5, hti4, hi4, hkn⟩ := HC.out
      by_cases k1 : x.kind = 1
      · have h6 := h5.setKnown hi4 hti4 (s1.cells ck)
        have X6 := X5.other (a := ⟨R.tb, i * 4 + 2, none⟩) nx2 (.int .i64 (s1.cells ck))
        have f6 := f5.setCell ⟨R.tb, i * 4 + 2, none⟩ (.int .i64 (s1.cells ck)) (fun _ => .inr (.inl rfl))
        have e6 : doK x i s1 = { s1 with known := s1.known.set i (s1.cells ck) } := by unfold doK; rw [if_pos k1, hckn]
        have HH := Lib.hid (And.intro h6 (And.intro X6 f6))
        have He := Lib.hid e6
        have kt : (x.kind == 1) = true := by simpa using k1
        clear h5 X5 f5 hti4 hi4 hkn h6 X6 f6 e6 k1
        go_upto_region 9 with fail
        go_region
        go_wp2
        go_meet
        case rel => rw [He.out]; exact ⟨⟨_, HH.out.1.new ((Fr.refl (fun _ => False) _).drew)⟩, HH.out.2.1.drew, HH.out.2.2.drew⟩
      · by_cases k2 : x.kind = 2
        · have t9 : IntKind.i64.wrap (t4.kn + x.n) = wrap64 (t4.kn + x.n) := wrapE _
          have t10 : IntKind.i64.wrap (s1.sets ck + 1) = wrap64 (s1.sets ck + 1) := wrapE _
          have h6 := (h5.setCell hck4 (wrap64 (t4.kn + x.n))).new ((Fr.refl (fun _ => False) _).drew)
          have X6 := (X5.other (a := ⟨R.cb, ck, none⟩) nx3 (.int .i64 (wrap64 (t4.kn + x.n)))).drew
          have f6 := (f5.setCell ⟨R.cb, ck, none⟩ (.int .i64 (wrap64 (t4.kn + x.n))) (fun _ => .inr (.inr (.inl rfl)))).drew
          have e6 : doK x i s1 = { s1 with cells := upd s1.cells ck (wrap64 (t4.kn + x.n)), sets := upd s1.sets ck (wrap64 (s1.sets ck + 1)) } := by unfold doK; rw [if_neg k1, if_pos k2, hckn, hkn]
          have He := Lib.hid e6
          have kt1 : (x.kind == 1) = false := by simpa using k1
          have kt2 : (x.kind == 2) = true := by simpa using k2
          have H6 := Lib.hid (And.intro h6 (And.intro X6 f6))
          clear h5 X5 f5 hti4 hi4 hkn h6 X6 f6 e6 k1 k2
          go_upto_region 11 with fail
          go_still_tail 14, (by kernel_rfl)
          go_upto_region 12 with fail
          clear x0 x1 x2 o1 o2 cc ccf ccl cz czf czl c2 c2f ctl
          generalize (wc.setCell ⟨R.cb, ck, none⟩ (.int .i64 (wrap64 (t4.kn + x.n)))).drew = w6 at H6 ⊢
          obtain ⟨h6, X6, f6⟩ := H6.out
          have x1 := X6.cell 1 rfl
          have o2 := h6.obj.cell 2 rfl
          have cz := h6.sets.cell ck (four_at _ hck4)
          have czf := h6.sets.free ck
          have czl := h6.sets.lt
          have h7 := h6.setSets hck4 (wrap64 (s1.sets ck + 1))
          have X7 := X6.other (a := ⟨R.zb, ck, none⟩) nx4 (.int .i64 (wrap64 (s1.sets ck + 1)))
          have f7 := f6.setCell ⟨R.zb, ck, none⟩ (.int .i64 (wrap64 (s1.sets ck + 1))) (fun _ => .inr (.inr (.inr (.inl rfl))))
          have HH := Lib.hid (And.intro h7 (And.intro X7 f7))
          clear h6 X6 f6 h7 X7 f7 H6
          go_still_tail 16, (by kernel_rfl)
          go_wp2
          go_meet
          case rel =>
            rw [He.out]
            exact ⟨⟨_, HH.out.1.new ((Fr.refl (fun _ => False) _).drew)⟩, HH.out.2.1.drew, HH.out.2.2.drew⟩
        · by_cases k3 : x.kind = 3
          · by_cases hv : s1.cells ck = t4.kn
            · have t9 : IntKind.i64.wrap (t4.kn + x.n) = wrap64 (t4.kn + x.n) := wrapE _
              have t10 : IntKind.i64.wrap (s1.sets ck + 1) = wrap64 (s1.sets ck + 1) := wrapE _
              have hil4 := (List.getElem?_eq_some_iff.1 hti4).1
              have e6 : doK x i s1 = { s1 with cells := upd s1.cells ck (wrap64 (t4.kn + x.n)), sets := upd s1.sets ck (wrap64 (s1.sets ck + 1)), known := s1.known.set i 1 } := by unfold doK; rw [if_neg k1, if_neg k2, if_pos k3, hckn, hkn, if_pos hv]
              have He := Lib.hid e6
              have kt1 : (x.kind == 1) = false := by simpa using k1
              have kt2 : (x.kind == 2) = false := by simpa using k2
              have kt3 : (x.kind == 3) = true := by simpa using k3
              have kt4 : (s1.cells ck == t4.kn) = true := by simpa using hv
              have H5 := Lib.hid (And.intro h5 (And.intro X5 (And.intro f5 (And.intro hti4 hi4))))
              clear h5 X5 f5 hti4 hi4 hkn e6 k1 k2 k3 hv
              go_upto_region 14 with fail
              go_quiet (fail)
              go_upto_region 15 with fail
              obtain ⟨h5, X5, f5, hti4, hi4⟩ := H5.out
              have h5 := h5.new ((Fr.refl (fun _ => False) _).drewN nq)
              have X5 := X5.drewN nq
              have f5 := f5.drewN nq
              clear x0 x1 x2 o1 o2 cc ccf ccl cz czf czl c2 c2f ctl
              generalize wc.drewN nq = w5 at h5 X5 f5 ⊢
              have x1 := X5.cell 1 rfl
              have x2 := X5.cell 2 rfl
              have o1 := h5.obj.cell 1 rfl
              have cc := h5.cells.cell ck (four_at _ hck4)
              have ccf := h5.cells.free ck
              have ccl := h5.cells.lt
              have c2 := h5.tasks.cell i 2 (tksV_at hi4 hti4) rfl
              have h6 := (h5.setCell hck4 (wrap64 (t4.kn + x.n))).new ((Fr.refl (fun _ => False) _).drew)
              have X6 := (X5.other (a := ⟨R.cb, ck, none⟩) nx3 (.int .i64 (wrap64 (t4.kn + x.n)))).drew
              have f6 := (f5.setCell ⟨R.cb, ck, none⟩ (.int .i64 (wrap64 (t4.kn + x.n))) (fun _ => .inr (.inr (.inl rfl)))).drew
              have H6 := Lib.hid (And.intro h6 (And.intro X6 (And.intro f6 (And.intro hti4 hi4))))
              clear h5 X5 f5 h6 X6 f6 hti4 hi4 H5
              go_still_tail 14, (by kernel_rfl)
              go_upto_region 16 with fail
              clear x1 x2 o1 cc ccf ccl c2
              generalize (w5.setCell ⟨R.cb, ck, none⟩ (.int .i64 (wrap64 (t4.kn + x.n)))).drew = w6 at H6 ⊢
              obtain ⟨h6, X6, f6, hti4, hi4⟩ := H6.out
              have x1 := X6.cell 1 rfl
              have o2 := h6.obj.cell 2 rfl
              have cz := h6.sets.cell ck (four_at _ hck4)
              have czf := h6.sets.free ck
              have czl := h6.sets.lt
              have h7 := (h6.setSets hck4 (wrap64 (s1.sets ck + 1))).new ((Fr.refl (fun _ => False) _).drew)
              have X7 := (X6.other (a := ⟨R.zb, ck, none⟩) nx4 (.int .i64 (wrap64 (s1.sets ck + 1)))).drew
              have f7 := (f6.setCell ⟨R.zb, ck, none⟩ (.int .i64 (wrap64 (s1.sets ck + 1))) (fun _ => .inr (.inr (.inr (.inl rfl))))).drew
              have H7 := Lib.hid (And.intro h7 (And.intro X7 (And.intro f7 (And.intro hti4 hi4))))
              clear h6 X6 f6 h7 X7 f7 H6 hti4 hi4
              go_still_tail 16, (by kernel_rfl)
              go_upto_region 17 with fail
              clear x1 o2 cz czf czl
              generalize (w6.setCell ⟨R.zb, ck, none⟩ (.int .i64 (wrap64 (s1.sets ck + 1)))).drew = w7 at H7 ⊢
              obtain ⟨h7, X7, f7, hti4, hi4⟩ := H7.out
              have c2 := h7.tasks.cell i 2 (tksV_at hi4 hti4) rfl
              have c2f := h7.tasks.free (i * 4 + 2)
              obtain ⟨_, htb7⟩ := h7.tbB
              have ctl := htb7.lt
              have h8 := h7.setKnown hi4 hti4 1
              have X8 := X7.other (a := ⟨R.tb, i * 4 + 2, none⟩) nx2 (.int .i64 1)
              have f8 := f7.setCell ⟨R.tb, i * 4 + 2, none⟩ (.int .i64 1) (fun _ => .inr (.inl rfl))
              have HH := Lib.hid (And.intro h8 (And.intro X8 f8))
              clear h7 X7 f7 h8 X8 f8 H7 hti4 hi4 htb7
              go_wp2
              go_meet
              case rel =>
                rw [He.out]
                exact ⟨⟨_, HH.out.1⟩, HH.out.2.1, HH.out.2.2⟩
            · have h6 := h5.setKnown hi4 hti4 0
              have X6 := X5.other (a := ⟨R.tb, i * 4 + 2, none⟩) nx2 (.int .i64 0)
              have f6 := f5.setCell ⟨R.tb, i * 4 + 2, none⟩ (.int .i64 0) (fun _ => .inr (.inl rfl))
              have e6 : doK x i s1 = { s1 with known := s1.known.set i 0 } := by unfold doK; rw [if_neg k1, if_neg k2, if_pos k3, hckn, hkn, if_neg hv]
              have HH := Lib.hid (And.intro h6 (And.intro X6 f6))
              have He := Lib.hid e6
              have kt1 : (x.kind == 1) = false := by simpa using k1
              have kt2 : (x.kind == 2) = false := by simpa using k2
              have kt3 : (x.kind == 3) = true := by simpa using k3
              have kt4 : (s1.cells ck == t4.kn) = false := by simpa using hv
              clear h5 X5 f5 hti4 hi4 hkn h6 X6 f6 e6 k1 k2 k3 hv
              go_upto_region 14 with fail
              go_quiet (fail)
              go_wp2
              go_meet
              case rel =>
                rw [He.out]
                exact ⟨⟨_, HH.out.1.new ((Fr.refl (fun _ => False) _).drewN nq)⟩, HH.out.2.1.drewN nq, HH.out.2.2.drewN nq⟩
          · have h6 := h5.setKnown hi4 hti4 x.n
            have X6 := X5.other (a := ⟨R.tb, i * 4 + 2, none⟩) nx2 (.int .i64 x.n)
            have f6 := f5.setCell ⟨R.tb, i * 4 + 2, none⟩ (.int .i64 x.n) (fun _ => .inr (.inl rfl))
            have e6 : doK x i s1 = { s1 with known := s1.known.set i x.n } := by unfold doK; rw [if_neg k1, if_neg k2, if_neg k3]
            have HH := Lib.hid (And.intro h6 (And.intro X6 f6))
            have He := Lib.hid e6
            have kt1 : (x.kind == 1) = false := by simpa using k1
            have kt2 : (x.kind == 2) = false := by simpa using k2
            have kt3 : (x.kind == 3) = false := by simpa using k3
            clear h5 X5 f5 hti4 hi4 hkn h6 X6 f6 e6 k1 k2 k3
            go_wp2
            go_meet
            case rel => rw [He.out]; exact ⟨⟨_, HH.out.1⟩, HH.out.2.1, HH.out.2.2⟩
    case rest =>
      obtain ⟨⟨ts6, h6⟩, X6, f6⟩ := hcut
      clear x0 x1 x2 o1 o2 cc ccf ccl cz czf czl c2 c2f ctl HC
      have hs2 : (doK x i s1).held = s1.held := by
        unfold doK
        split
        · rfl
        · split
          · rfl
          · split
            · split <;> rfl
            · rfl
      generalize doK x i s1 = s2 at h6 hs2 HE
      have x4 := X6.cell 4 rfl
      by_cases hfr : 0 < x.free
      · obtain ⟨fk, hfk⟩ : ∃ fk : Nat, x.free = (fk : Int) + 1 := ⟨x.free.toNat - 1, by omega⟩
        have hfk4 : fk < 4 := by omega
        have o3 := h6.obj.cell 3 rfl
        have g3 := h6.held.cell fk (four_at _ hfk4)
        have g3f := h6.held.free fk
        have g3l := h6.held.lt
        have ka2 : (⟨R.hb, 0, none⟩ : Addr).add fk = ⟨R.hb, fk, none⟩ := add_plain _ _
        have t2 : IntKind.i64.wrap (x.free - 1) = (fk : Int) := by rw [show x.free - 1 = (fk : Int) by omega]; exact IntWalk.i64_in _ (by omega)
        have t3 : (0 : Int) ≤ (fk : Int) := by omega
        have t4' : (fk : Int) < 4 := by omega
        have hfd : decide (0 < x.free) = true := decide_eq_true hfr
        have hfe : x.free.toNat - 1 = fk := by omega
        by_cases hv : s2.held fk = some (i : Int)
        · have hge : (((s2.held fk).getD (-1)) == (i : Int)) = true := by rw [hv]; simp
          have e7 : freeK x i s2 = { s2 with held := upd s2.held fk none } := by unfold freeK; rw [hfe, if_pos ⟨hfr, hv⟩]
          have H7 := Lib.hid (And.intro h6 (And.intro X6 (And.intro f6 e7)))
          clear h6 X6 f6 e7 hv hs2
          go_upto_region 19 with fail
          go_quiet (fail)
          go_upto_region 20 with fail
          obtain ⟨h6, X6, f6, e7⟩ := H7.out
          have h6 := h6.new ((Fr.refl (fun _ => False) _).drewN nq)
          have X6 := X6.drewN nq
          have f6 := f6.drewN nq
          clear x4 o3 g3 g3f g3l
          generalize wc.drewN nq = w7 at h6 X6 f6 ⊢
          have x4 := X6.cell 4 rfl
          have o3 := h6.obj.cell 3 rfl
          have g3 := h6.held.cell fk (four_at _ hfk4)
          have g3f := h6.held.free fk
          have g3l := h6.held.lt
          have h8 := h6.setHeld hfk4 none
          have f8 := f6.setCell ⟨R.hb, fk, none⟩ (.int .i64 (-1)) (fun _ => .inr (.inr (.inr (.inr rfl))))
          simp only [Option.getD_none] at h8
          have H8 := Lib.hid (And.intro h8 (And.intro f8 e7))
          clear h6 X6 f6 h8 f8 e7 H7
          go_region
          go_wp2
          refine bodyPost_end (results_none rfl _ _ _) rfl ?_
          exact ⟨rfl, H8.out.2.1.drew, _, by rw [HE.out, H8.out.2.2, HP.out]; exact H8.out.1.new ((Fr.refl (fun _ => False) _).drew)⟩
        · have hge : (((s2.held fk).getD (-1)) == (i : Int)) = false := by
            cases hh2 : s2.held fk with
            | none => simp
            | some v => rw [hh2] at hv; simpa using hv
          have e7 : freeK x i s2 = s2 := by unfold freeK; rw [hfe, if_neg (fun h => hv h.2)]
          have H7 := Lib.hid (And.intro h6 (And.intro X6 (And.intro f6 e7)))
          clear h6 X6 f6 e7 hv hs2
          go_upto_region 19 with fail
          go_quiet (fail)
          go_wp2
          refine bodyPost_end (results_none rfl _ _ _) rfl ?_
          exact ⟨rfl, H7.out.2.2.1.drewN nq, _, by rw [HE.out, H7.out.2.2.2, HP.out]; exact H7.out.1.new ((Fr.refl (fun _ => False) _).drewN nq)⟩
      · have hfd : decide (0 < x.free) = false := decide_eq_false hfr
        have e7 : freeK x i s2 = s2 := by unfold freeK; rw [if_neg (fun h => hfr h.1)]
        have H7 := Lib.hid (And.intro h6 (And.intro X6 (And.intro f6 e7)))
        clear h6 X6 f6 e7 hs2
        go_upto_region 19 with fail
        go_quiet (fail)
        go_wp2
        refine bodyPost_end (results_none rfl _ _ _) rfl ?_
        exact ⟨rfl, H7.out.2.2.1.drewN nq, _, by rw [HE.out, H7.out.2.2.2, HP.out]; exact H7.out.1.new ((Fr.refl (fun _ => False) _).drewN nq)⟩
end Go.Proofs.Ytlljfopacdnpbaa
