/- The closures of the tasks that add, walked. Conditions: those of the lemmas. -/
import Derived.Test.YtlljfopacdnpbaaAddsPre
namespace Go.Proofs.Ytlljfopacdnpbaa
open Go.RowKit
section
variable {W : World} {wb cb cc sn se mx mm lf ld : Nat} {v z x left : Int} {g : Fn} {a b : Array Value}
set_option maxHeartbeats 2000000 in
theorem load18 (hc : Blk W cb [.pointer (some ⟨cc, 0, none⟩)] 47) (hv : CelI W cc v z) (hs : Blk W sn [.int .i64 x] 3) (he : Blk W se [.func g a b] 51) (slot : Int) :
    Calls Try.prog 18 #[.int .i64 slot, ptr cb, ptr sn, ptr se] W fun e w' => e = .returned (.agg #[.func g a b, .pointer none]) ∧ Blk w' sn [.int .i64 v] 3 ∧ Fr (fun q => q = sn) W w' := by
  have f1 : Fr (fun _ => False) W (W.alloc (.cells #[.nilFunc, .pointer none] 53)) := (Fr.refl _ W).alloc _
  have q0 : Blk (W.alloc (.cells #[.nilFunc, .pointer none] 53)) W.heap.size [.nilFunc, .pointer none] 53 := Blk.at_new _ _ _ _ _ rfl rfl
  have c1 := (f1.blk hc id).cell 0 rfl
  have hs1 := f1.blk hs id
  have he1 := f1.blk he id
  have CL := Lib.hid (loadI_any (f1.blk hv id))
  have hslt := hs.lt
  have s0 := hs1.cell 0 rfl
  have sf := hs1.free 0
  have sl := hs1.lt
  have hne : sn ≠ W.heap.size := by omega
  have q1 := q0.other (a := ⟨sn, 0, none⟩) (Ne.symm hne) (.int .i64 v)
  have e1 := (he1.other (a := ⟨sn, 0, none⟩) (he1.ne hs1 (by decide)) (.int .i64 v)).cell 0 rfl
  have v0 := q1.cell 0 rfl
  have v1 := q1.cell 1 rfl
  have vf0 := q1.free 0
  have vf1 := q1.free 1
  have vl := q1.lt
  have HH := Lib.hid (And.intro f1 (And.intro hs1 q1))
  clear f1 q0 hs1 he1 hc hv hs he q1
  unfold ptr
  go_enter Try.func18, Try.ntmps18
  go_wp2_with fail
  refine CL.out.mono ?_
  rintro e w2 ⟨rfl, rfl⟩
  clear CL
  generalize W.alloc (.cells #[.nilFunc, .pointer none] 53) = w1 at HH s0 sf sl e1 v0 v1 vf0 vf1 vl ⊢
  go_wp2
  refine bodyPost_ret (results_cell_row rfl _ _ W.heap.size 53 #[.func g a b, .pointer none] (0, 0) _ rfl ((HH.out.2.2.set 0 (.func g a b)).set 1 (.pointer none)) Try.underlying53 rfl (by kernel_rfl)) rfl ?_
  obtain ⟨f1, hs1, q1⟩ := HH.out
  exact ⟨rfl, ((hs1.set 0 _).other (a := ⟨W.heap.size, 0, none⟩) hne _).other (a := ⟨W.heap.size, 1, none⟩) hne _, ((((show Fr (fun q => q = sn) W w1 from f1.mono (fun _ _ h => h.elim)).setCell _ _ (fun _ => rfl)).setCell _ _ (fun h => absurd h (Nat.lt_irrefl _))).setCell _ _ (fun h => absurd h (Nat.lt_irrefl _)))⟩
set_option maxHeartbeats 2000000 in
/-- The new value is swapped in. -/
theorem set20_yes (hw : Blk W wb [.bool true] 4) (hc : Blk W cb [.pointer (some ⟨cc, 0, none⟩)] 47) (hv : CelI W cc v z) (hs : Blk W sn [.int .i64 v] 3) (hl : Blk W lf [.int .i64 left] 3) (hd : Blk W ld [.func g a b] 51) (slot : Int) {L : Int} (hL : wrap64 (left - 1) = L) {b0 : Bool} (hb : (L == 0) = b0) :
    Calls Try.prog 20 #[.int .i64 slot, ptr wb, ptr cb, ptr sn, ptr mx, ptr se, ptr lf, ptr ld] W fun e w' => e = .returned (.agg #[if b0 then .nilFunc else .func g a b, .pointer none]) ∧ CelI w' cc (wrap64 (v + 1)) (wrap64 (z + 1)) ∧ Blk w' lf [.int .i64 L] 3 ∧ Fr (fun q => q = cc ∨ q = lf) W w' := by
  have f1 : Fr (fun _ => False) W (W.alloc (.cells #[.nilFunc, .pointer none] 53)) := (Fr.refl _ W).alloc _
  have q0 : Blk (W.alloc (.cells #[.nilFunc, .pointer none] 53)) W.heap.size [.nilFunc, .pointer none] 53 := Blk.at_new _ _ _ _ _ rfl rfl
  have hc1 := f1.blk hc id
  have hs1 := f1.blk hs id
  have hl1 := f1.blk hl id
  have hd1 := f1.blk hd id
  have hw1 := f1.blk hw id
  have hv1 : CelI (W.alloc (.cells #[.nilFunc, .pointer none] 53)) cc v z := f1.blk hv id
  have hlt := hl.lt
  have hne : lf ≠ W.heap.size := by omega
  have hne2 : cc ≠ W.heap.size := by have := Blk.lt hv; omega
  have n1 : lf ≠ cc := Ne.symm (Blk.ne hv hl (by decide))
  have n2 : ld ≠ cc := Ne.symm (Blk.ne hv hd (by decide))
  have n3 : wb ≠ cc := Ne.symm (Blk.ne hv hw (by decide))
  have n4 : ld ≠ lf := hd.ne hl (by decide)
  have n5 : wb ≠ lf := hw.ne hl (by decide)
  have c1 := hc1.cell 0 rfl
  have s1 := hs1.cell 0 rfl
  have w1 := hw1.cell 0 rfl
  have CS := Lib.hid (swapI_yes hv1 (wrap64 (v + 1)))
  have HH := Lib.hid (And.intro f1 (And.intro q0 (And.intro hl1 (And.intro hd1 hw1))))
  have HL := Lib.hid hL
  clear f1 q0 hc1 hs1 hl1 hd1 hw1 hv1 hw hc hs hl hd hv hL
  unfold ptr
  go_enter Try.func20, Try.ntmps20
  go_wp2_with fail
  refine CS.out.mono ?_
  rintro e w2 ⟨rfl, hcel, hf2⟩
  clear CS
  obtain ⟨f1, q0, hl1, hd1, hw1⟩ := HH.out
  have hl2 := hf2.blk hl1 n1
  have hd2 := hf2.blk hd1 n2
  have hw2 := hf2.blk hw1 n3
  have q2 := hf2.blk q0 (Ne.symm hne2)
  have l0 := hl2.cell 0 rfl
  have l1 := hl2.free 0
  have l2 := hl2.lt
  have d3 := (hd2.other (a := ⟨lf, 0, none⟩) n4 (.int .i64 L)).cell 0 rfl
  have w3 := (hw2.other (a := ⟨lf, 0, none⟩) n5 (.int .i64 L)).cell 0 rfl
  have q3 := q2.other (a := ⟨lf, 0, none⟩) (Ne.symm hne) (.int .i64 L)
  have v0 := q3.cell 0 rfl
  have v1 := q3.cell 1 rfl
  have vf0 := q3.free 0
  have vf1 := q3.free 1
  have vl := q3.lt
  have hfin : Fr (fun q => q = cc ∨ q = lf) W (w2.setCell ⟨lf, 0, none⟩ (.int .i64 L)) := (((f1.mono (fun _ _ h => h.elim)).trans hf2 (fun _ _ h => .inl h)).setCell _ _ (fun _ => .inr rfl))
  have HE := Lib.hid (And.intro q3 (And.intro ((Blk.other (a := ⟨lf, 0, none⟩) hcel (Ne.symm n1) (.int .i64 L))) (And.intro (hl2.set 0 (.int .i64 L)) hfin)))
  clear f1 q0 hl1 hd1 hw1 hf2 hl2 hd2 hw2 q2 q3 hcel hfin HH
  have hL := HL.out
  cases b0
  · simp only [Bool.false_eq_true, if_false]
    go_wp2
    refine bodyPost_ret (results_cell_row rfl _ _ W.heap.size 53 #[.func g a b, .pointer none] (0, 0) _ rfl ((HE.out.1.set 0 (.func g a b)).set 1 (.pointer none)) Try.underlying53 rfl (by kernel_rfl)) rfl ?_
    obtain ⟨_, e1, e2, e3⟩ := HE.out
    exact ⟨rfl, (Blk.other (a := ⟨W.heap.size, 0, none⟩) e1 hne2 _).other (a := ⟨W.heap.size, 1, none⟩) hne2 _, (e2.other (a := ⟨W.heap.size, 0, none⟩) hne _).other (a := ⟨W.heap.size, 1, none⟩) hne _, (e3.setCell _ _ (fun h => absurd h (Nat.lt_irrefl _))).setCell _ _ (fun h => absurd h (Nat.lt_irrefl _))⟩
  · simp only [if_true]
    go_wp2
    refine bodyPost_ret (results_cell_row rfl _ _ W.heap.size 53 #[.nilFunc, .pointer none] (0, 0) _ rfl ((HE.out.1.set 0 (.nilFunc)).set 1 (.pointer none)) Try.underlying53 rfl (by kernel_rfl)) rfl ?_
    obtain ⟨_, e1, e2, e3⟩ := HE.out
    exact ⟨rfl, (Blk.other (a := ⟨W.heap.size, 0, none⟩) e1 hne2 _).other (a := ⟨W.heap.size, 1, none⟩) hne2 _, (e2.other (a := ⟨W.heap.size, 0, none⟩) hne _).other (a := ⟨W.heap.size, 1, none⟩) hne _, (e3.setCell _ _ (fun h => absurd h (Nat.lt_irrefl _))).setCell _ _ (fun h => absurd h (Nat.lt_irrefl _))⟩
set_option maxHeartbeats 2000000 in
/-- Somebody was faster: the task goes back. -/
theorem set20_no (hw : Blk W wb [.bool true] 4) (hc : Blk W cb [.pointer (some ⟨cc, 0, none⟩)] 47) (hv : CelI W cc v z) (hs : Blk W sn [.int .i64 x] 3) (hx : v ≠ x) (hl : Blk W lf [.int .i64 left] 3) (hd : Blk W ld [.func g a b] 51) (slot : Int) (h0 : (left == 0) = false) :
    Calls Try.prog 20 #[.int .i64 slot, ptr wb, ptr cb, ptr sn, ptr mx, ptr se, ptr lf, ptr ld] W fun e w' => e = .returned (.agg #[.func g a b, .pointer none]) ∧ Fr (fun _ => False) W w' := by
  have f1 : Fr (fun _ => False) W (W.alloc (.cells #[.nilFunc, .pointer none] 53)) := (Fr.refl _ W).alloc _
  have q0 : Blk (W.alloc (.cells #[.nilFunc, .pointer none] 53)) W.heap.size [.nilFunc, .pointer none] 53 := Blk.at_new _ _ _ _ _ rfl rfl
  have hv1 : CelI (W.alloc (.cells #[.nilFunc, .pointer none] 53)) cc v z := f1.blk hv id
  have c1 := (f1.blk hc id).cell 0 rfl
  have s1 := (f1.blk hs id).cell 0 rfl
  have w0 := (f1.blk hw id).cell 0 rfl
  have l1 := (f1.blk hl id).cell 0 rfl
  have d1 := (f1.blk hd id).cell 0 rfl
  have v0 := q0.cell 0 rfl
  have v1 := q0.cell 1 rfl
  have vf0 := q0.free 0
  have vf1 := q0.free 1
  have vl := q0.lt
  have CS := Lib.hid (swapI_no hv1 x (wrap64 (x + 1)) hx)
  have HE := Lib.hid (And.intro q0 f1)
  clear f1 q0 hv1 hw hc hv hs hl hd
  unfold ptr
  go_enter Try.func20, Try.ntmps20
  go_wp2_with fail
  refine CS.out.mono ?_
  rintro e w2 ⟨rfl, rfl⟩
  clear CS
  generalize W.alloc (.cells #[.nilFunc, .pointer none] 53) = w1 at HE w0 l1 d1 v0 v1 vf0 vf1 vl ⊢
  go_wp2
  refine bodyPost_ret (results_cell_row rfl _ _ W.heap.size 53 #[.func g a b, .pointer none] (0, 0) _ rfl ((HE.out.1.set 0 (.func g a b)).set 1 (.pointer none)) Try.underlying53 rfl (by kernel_rfl)) rfl ?_
  exact ⟨rfl, (HE.out.2.setCell _ _ (fun h => absurd h (Nat.lt_irrefl _))).setCell _ _ (fun h => absurd h (Nat.lt_irrefl _))⟩
set_option maxHeartbeats 2000000 in
/-- Under the mutex: the new value is stored, the mutex given back. -/
theorem set20_lock (hw : Blk W wb [.bool false] 4) (hc : Blk W cb [.pointer (some ⟨cc, 0, none⟩)] 47) (hv : CelI W cc v z) (hs : Blk W sn [.int .i64 x] 3) (hl : Blk W lf [.int .i64 left] 3) (hd : Blk W ld [.func g a b] 51) (hm : Blk W mx [.pointer (some ⟨mm, 0, none⟩)] 49) {slot : Nat} (h9 : slot < 1000) (hk : Blk W mm [.bool true, .int .i64 (slot : Int)] 83) {L : Int} (hL : wrap64 (left - 1) = L) {b0 : Bool} (hb : (L == 0) = b0) :
    Calls Try.prog 20 #[.int .i64 (slot : Int), ptr wb, ptr cb, ptr sn, ptr mx, ptr se, ptr lf, ptr ld] W fun e w' => e = .returned (.agg #[if b0 then .nilFunc else .func g a b, if b0 then .pointer none else ptr mm]) ∧ CelI w' cc (wrap64 (x + 1)) (wrap64 (z + 1)) ∧ Blk w' lf [.int .i64 L] 3 ∧ Blk w' mm [.bool false, .int .i64 0] 83 ∧ Fr (fun q => q = cc ∨ q = mm ∨ q = lf) W w' := by
  have f1 : Fr (fun _ => False) W (W.alloc (.cells #[.nilFunc, .pointer none] 53)) := (Fr.refl _ W).alloc _
  have q0 : Blk (W.alloc (.cells #[.nilFunc, .pointer none] 53)) W.heap.size [.nilFunc, .pointer none] 53 := Blk.at_new _ _ _ _ _ rfl rfl
  have hl1 := f1.blk hl id
  have hd1 := f1.blk hd id
  have hw1 := f1.blk hw id
  have hm1 := f1.blk hm id
  have hk1 := f1.blk hk id
  have hv1 : CelI (W.alloc (.cells #[.nilFunc, .pointer none] 53)) cc v z := f1.blk hv id
  have hlt := hl.lt
  have hne : lf ≠ W.heap.size := by omega
  have hne2 : cc ≠ W.heap.size := by have := Blk.lt hv; omega
  have hne3 : mm ≠ W.heap.size := by have := hk.lt; omega
  have n1 : lf ≠ cc := Ne.symm (Blk.ne hv hl (by decide))
  have n2 : ld ≠ cc := Ne.symm (Blk.ne hv hd (by decide))
  have n3 : wb ≠ cc := Ne.symm (Blk.ne hv hw (by decide))
  have n4 : ld ≠ lf := hd.ne hl (by decide)
  have n5 : wb ≠ lf := hw.ne hl (by decide)
  have n6 : mx ≠ cc := Ne.symm (Blk.ne hv hm (by decide))
  have n7 : mm ≠ cc := Ne.symm (Blk.ne hv hk (by decide))
  have n8 : mx ≠ mm := hm.ne hk (by decide)
  have n9 : lf ≠ mm := hl.ne hk (by decide)
  have m1 : ld ≠ mm := hd.ne hk (by decide)
  have m2 : wb ≠ mm := hw.ne hk (by decide)
  have m3 : mx ≠ lf := hm.ne hl (by decide)
  have c1 := (f1.blk hc id).cell 0 rfl
  have s1 := (f1.blk hs id).cell 0 rfl
  have w1 := hw1.cell 0 rfl
  have CS := Lib.hid (storeI_any hv1 (wrap64 (x + 1)))
  have HH := Lib.hid (And.intro f1 (And.intro q0 (And.intro hl1 (And.intro hd1 (And.intro hw1 (And.intro hm1 hk1))))))
  have HL := Lib.hid hL
  clear f1 q0 hl1 hd1 hw1 hm1 hk1 hv1 hw hc hv hs hl hd hm hk hL
  unfold ptr
  go_enter Try.func20, Try.ntmps20
  go_wp2_with fail
  refine CS.out.mono ?_
  rintro e w2 ⟨rfl, hcel, hf2⟩
  clear CS
  obtain ⟨f1, q0, hl1, hd1, hw1, hm1, hk1⟩ := HH.out
  have hl2 := hf2.blk hl1 n1
  have hd2 := hf2.blk hd1 n2
  have hw2 := hf2.blk hw1 n3
  have hm2 := hf2.blk hm1 n6
  have hk2 := hf2.blk hk1 n7
  have q2 := hf2.blk q0 (Ne.symm hne2)
  have f12 := (f1.mono (fun _ _ h => h.elim)).trans hf2 (fun _ _ h => h)
  have mu2 : MuV w2 (.pointer (some ⟨mm, 0, none⟩)) (some (slot : Int)) := .inr ⟨mm, _, rfl, hk2, fun x h => by injection h⟩
  have t1 : IntKind.i64.wrap ((slot : Int) + 1) = ((slot + 1 : Nat) : Int) := by rw [IntWalk.i64_in _ (by omega)]; omega
  have t2 : wrap64 ((slot : Int) + 1) = ((slot + 1 : Nat) : Int) := by rw [IntWalk.wrap64_in _ (by omega)]; omega
  have C1 := Lib.hid (holder_any mu2)
  have C2 := Lib.hid (mfree_no mu2 ((slot + 1 : Nat) : Int) (by intro h; injection h with h; omega))
  have C3 := Lib.hid (mfree_ok hk2)
  have y1 := hm2.cell 0 rfl
  have HH2 := Lib.hid (And.intro hl2 (And.intro hd2 (And.intro hw2 (And.intro hm2 (And.intro q2 (And.intro f12 hcel))))))
  clear f1 q0 hl1 hd1 hw1 hm1 hk1 hf2 hl2 hd2 hw2 hm2 hk2 q2 f12 mu2 hcel HH
  go_wp2_with fail
  refine C1.out.mono ?_
  rintro e w3 ⟨rfl, rfl⟩
  go_wp2_with fail
  refine C2.out.mono ?_
  rintro e w3 ⟨rfl, rfl⟩
  go_wp2_with fail
  refine C3.out.mono ?_
  rintro e w3 ⟨rfl, hk3, hf3⟩
  clear C1 C2 C3 y1
  obtain ⟨hl2, hd2, hw2, hm2, q2, f12, hcel⟩ := HH2.out
  have hl3 := hf3.blk hl2 n9
  have hd3 := hf3.blk hd2 m1
  have hw3 := hf3.blk hw2 m2
  have hm3 := hf3.blk hm2 n8
  have q3' := hf3.blk q2 (Ne.symm hne3)
  have hcel3 : CelI w3 cc (wrap64 (x + 1)) (wrap64 (z + 1)) := hf3.blk hcel (Ne.symm n7)
  have l0 := hl3.cell 0 rfl
  have l1 := hl3.free 0
  have l2 := hl3.lt
  have d3 := (hd3.other (a := ⟨lf, 0, none⟩) n4 (.int .i64 L)).cell 0 rfl
  have w3' := (hw3.other (a := ⟨lf, 0, none⟩) n5 (.int .i64 L)).cell 0 rfl
  have y3 := (hm3.other (a := ⟨lf, 0, none⟩) m3 (.int .i64 L)).cell 0 rfl
  have q3 := q3'.other (a := ⟨lf, 0, none⟩) (Ne.symm hne) (.int .i64 L)
  have v0 := q3.cell 0 rfl
  have v1 := q3.cell 1 rfl
  have vf0 := q3.free 0
  have vf1 := q3.free 1
  have vl := q3.lt
  have hfin : Fr (fun q => q = cc ∨ q = mm ∨ q = lf) W (w3.setCell ⟨lf, 0, none⟩ (.int .i64 L)) := (((f12.mono (fun _ _ h => .inl h)).trans hf3 (fun _ _ h => .inr (.inl h))).setCell _ _ (fun _ => .inr (.inr rfl)))
  have HE := Lib.hid (And.intro q3 (And.intro ((Blk.other (a := ⟨lf, 0, none⟩) hcel3 (Ne.symm n1) (.int .i64 L))) (And.intro (hl3.set 0 (.int .i64 L)) (And.intro (hk3.other (a := ⟨lf, 0, none⟩) (Ne.symm n9) (.int .i64 L)) hfin))))
  clear hl2 hd2 hw2 hm2 q2 f12 hcel hl3 hd3 hw3 hm3 q3' hcel3 q3 hfin hk3 hf3 HH2
  have hL := HL.out
  cases b0
  · simp only [Bool.false_eq_true, if_false]
    go_wp2
    refine bodyPost_ret (results_cell_row rfl _ _ W.heap.size 53 #[.func g a b, .pointer (some ⟨mm, 0, none⟩)] (0, 0) _ rfl ((HE.out.1.set 0 (.func g a b)).set 1 (.pointer (some ⟨mm, 0, none⟩))) Try.underlying53 rfl (by kernel_rfl)) rfl ?_
    obtain ⟨_, e1, e2, e4, e3⟩ := HE.out
    exact ⟨rfl, (Blk.other (a := ⟨W.heap.size, 0, none⟩) e1 hne2 _).other (a := ⟨W.heap.size, 1, none⟩) hne2 _, (e2.other (a := ⟨W.heap.size, 0, none⟩) hne _).other (a := ⟨W.heap.size, 1, none⟩) hne _, (e4.other (a := ⟨W.heap.size, 0, none⟩) hne3 _).other (a := ⟨W.heap.size, 1, none⟩) hne3 _, (e3.setCell _ _ (fun h => absurd h (Nat.lt_irrefl _))).setCell _ _ (fun h => absurd h (Nat.lt_irrefl _))⟩
  · simp only [if_true]
    go_wp2
    refine bodyPost_ret (results_cell_row rfl _ _ W.heap.size 53 #[.nilFunc, .pointer none] (0, 0) _ rfl ((HE.out.1.set 0 (.nilFunc)).set 1 (.pointer none)) Try.underlying53 rfl (by kernel_rfl)) rfl ?_
    obtain ⟨_, e1, e2, e4, e3⟩ := HE.out
    exact ⟨rfl, (Blk.other (a := ⟨W.heap.size, 0, none⟩) e1 hne2 _).other (a := ⟨W.heap.size, 1, none⟩) hne2 _, (e2.other (a := ⟨W.heap.size, 0, none⟩) hne _).other (a := ⟨W.heap.size, 1, none⟩) hne _, (e4.other (a := ⟨W.heap.size, 0, none⟩) hne3 _).other (a := ⟨W.heap.size, 1, none⟩) hne3 _, (e3.setCell _ _ (fun h => absurd h (Nat.lt_irrefl _))).setCell _ _ (fun h => absurd h (Nat.lt_irrefl _))⟩
end
end Go.Proofs.Ytlljfopacdnpbaa
