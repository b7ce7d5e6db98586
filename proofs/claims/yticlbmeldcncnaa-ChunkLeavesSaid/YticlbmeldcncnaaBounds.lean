/- The law ChunkBounds, walked. Conditions: those of the lemmas. -/
import Derived.Test.YticlbmeldcncnaaCuts
import Derived.Test.YticlbmeldcncnaaRight
namespace Go.Proofs.Yticlbmeldcncnaa
open Go.RowKit Go.Shelf Ch
attribute [local go_sem] Oper.semAt_some
/-- Has the row that came so far ended with a chunk that is too small? -/
def endedOf (least : Int) (pre : List Ck) : Bool := match pre.getLast? with | some x => decide ((x.cs.length : Int) < least) | none => false
structure BndI (w : World) (least : Int) (cf : List Int) (sl : Value) (cB dB rB nB bB eB : Nat) (pre : List Ck) (W : World) : Prop where
  fr : Fr (fun _ => False) w W
  conf : Blk W cB (i64s cf) 23
  data : Blk W dB [sl] 24
  res : Blk W rB [.bool false] 4
  num : Blk W nB [.int .i64 pre.length] 3
  beg : Blk W bB [.int .i64 (total (pre.map Ck.cs))] 3
  endd : Blk W eB [.bool (endedOf least pre)] 4
theorem BndI.calm (w : World) (least : Int) (cf : List Int) (sl : Value) (cB dB rB nB bB eB B : Nat) (hB : w.heap.size ≤ B) : Calm B (BndI w least cf sl cB dB rB nB bB eB) :=
  fun _ _ _ ⟨h1, h2, h3, h4, h5, h6, h7⟩ hf => ⟨h1.turn hf hB, h2.turn hf, h3.turn hf, h4.turn hf, h5.turn hf, h6.turn hf, h7.turn hf⟩
/-- While another chunk comes, none of those ahead was too small. -/
theorem ended_no (c : Cf) (hc : c.ok) (bs : List Int) (pre : List Ck) (x : Ck) (h : (pre ++ [x]).map Ck.cs <+: (St.run c ⟨[], [], []⟩ bs).parts) : endedOf c.least pre = false := by
  unfold endedOf
  cases hl : pre.getLast? with
  | none => rfl
  | some y =>
    obtain ⟨l, rfl⟩ := List.getLast?_eq_some_iff.1 hl
    obtain ⟨r, hr⟩ := h
    have := (parts_bounds c hc bs).2 (l.map Ck.cs) (x.cs :: r) y.cs (by rw [← hr]; simp) (by simp)
    simp only [decide_eq_false_iff_not]
    omega
theorem ended_snoc (least : Int) (pre : List Ck) (x : Ck) : endedOf least (pre ++ [x]) = decide ((x.cs.length : Int) < least) := by
  unfold endedOf
  rw [List.getLast?_append]
  rfl
theorem part_of (c : Cf) (bs : List Int) (pre : List Ck) (x : Ck) (h : (pre ++ [x]).map Ck.cs <+: (St.run c ⟨[], [], []⟩ bs).parts) :
    (bs.drop (pre.map Ck.cs).flatten.length).take x.cs.length = x.cs ∧ (pre.map Ck.cs).flatten.length + x.cs.length ≤ bs.length := by
  obtain ⟨r, hr⟩ := h
  have hf := parts_flat c bs
  rw [← hr] at hf
  simp only [List.map_append, List.map_cons, List.map_nil, List.flatten_append, List.flatten_cons, List.flatten_nil, List.append_nil, List.append_assoc] at hf
  constructor
  · rw [← hf, List.drop_left, List.take_left]
  · rw [← hf]
    simp only [List.length_append]
    omega
set_option maxHeartbeats 2000000 in
set_option maxRecDepth 100000 in
theorem bounds_ok (c0 c1 c2 c3 c4 c5 c6 c7 c8 c9 c10 c11 : Int) (A : Option Addr) (n cp : Nat) (bs : List Int) (w : World) (hD : RdB w A n bs) (hn : n ≤ 30000) (hcp : n ≤ cp) (hcm : cp ≤ 9223372036854775807) :
    Calls Try.prog 5 #[.agg #[.int .i64 c0, .int .i64 c1, .int .i64 c2, .int .i64 c3, .int .i64 c4, .int .i64 c5, .int .i64 c6, .int .i64 c7, .int .i64 c8, .int .i64 c9, .int .i64 c10, .int .i64 c11], .slice A n cp] w fun e w' => e = .returned (.bool true) ∧ Fr (fun _ => False) w w' := by
  obtain ⟨m, hm⟩ : ∃ m : Nat, m = 9 := ⟨_, rfl⟩
  clear hm
  refine (callsIn_wide (n := m)).1 ?_
  refine callsIn_of_wp_marks Try.func5 rfl trivial ?_ rfl
  simp only [Try.ntmps5, List.size_toArray, List.length_cons, List.length_nil, Nat.reduceAdd, Nat.reduceSub, Array.replicate_succ, Array.replicate_zero, List.push_toArray, List.append_toArray, List.nil_append, List.cons_append]
  have nd : Fence.wide.depth.isSome = true → 1 ≤ m := fun h => by simp [Fence.wide] at h
  have ND := Lib.hid nd
  clear nd
  have hB0 := Blk.new w (i64s [c0, c1, c2, c3, c4, c5, c6, c7, c8, c9, c10, c11]) 23
  have hd0 : Blk ((w.alloc (.cells (i64s [c0, c1, c2, c3, c4, c5, c6, c7, c8, c9, c10, c11]).toArray 23)).alloc (.cells #[.slice A n cp] 24)) (w.heap.size + 1) [.slice A n cp] 24 := Blk.at_new _ _ _ _ _ (by simp) rfl
  gi_wp2_with (fail)
  refine ⟨trivial, ND.out, (callsIn_wide.2 (awake_any _)).mono ?_⟩
  rintro e w1 ⟨rfl, hf1⟩
  have hB1 := hf1.blk ((hB0.alloc (.cells #[.slice A n cp] 24)).alloc (.cells #[.bool false] 4)) id
  have hd1 := (hf1.blk (hd0.alloc (.cells #[.bool false] 4)) id)
  have hd1' := hd1.cell 0 rfl
  obtain ⟨e0, e1, e2, e3, e4, e5, e6, e7, e8, e9, e10, e11⟩ := agg_of c0 c1 c2 c3 c4 c5 c6 c7 c8 c9 c10 c11 w1 _ hB1
  gi_wp2_with (fail)
  refine ⟨trivial, ND.out, (callsIn_wide.2 (right_any c0 c1 c2 c3 c4 c5 c6 c7 c8 c9 c10 c11 _)).mono ?_⟩
  rintro e w2 ⟨d8, d9, d10, rfl, b1, b2, b3, b4, b5, b6, hf2⟩
  clear e0 e1 e2 e3 e4 e5 e6 e7 e8 e9 e10 e11
  have hB2 := hf2.blk hB1 id
  have hd2 := hf2.blk hd1 id
  have hr0 : Blk (((w.alloc (.cells (i64s [c0, c1, c2, c3, c4, c5, c6, c7, c8, c9, c10, c11]).toArray 23)).alloc (.cells #[.slice A n cp] 24)).alloc (.cells #[.bool false] 4)) (w.heap.size + 1 + 1) [.bool false] 4 := Blk.at_new _ _ _ _ _ (by simp) rfl
  have hr2 := (hf1.trans hf2 (fun _ _ h => h)).blk hr0 id
  gi_upto_region 7 with (refine storeAggIn rfl 23 (.tmp 2) (.tmp 19) rfl w.heap.size (i64s [c0, c1, c2, c3, c4, c5, c6, c7, d8, d9, d10, c11]) (i64s [c0, c1, c2, c3, c4, c5, c6, c7, c8, c9, c10, c11]) rfl rfl 23 hB2 (by kernel_rfl) rfl rfl ?_; intro w3 hB3 hf3)
  have hd3 := hf3.blk hd2 (by omega)
  have hr3 := hf3.blk hr2 (by omega)
  have hf03 : Fr (fun _ => False) w w3 := ((((((Fr.refl _ w).alloc _).alloc _).alloc _).trans hf1 (fun _ _ h => h)).trans hf2 (fun _ _ h => h)).trans hf3 (fun i hi h => by omega)
  have hl3 := hr3.lt
  have hN4 := Blk.at_new w3 [.int .i64 0] 3 w3.heap.size _ rfl rfl
  have hb4 := Blk.at_new (w3.alloc (.cells #[.int .i64 0] 3)) [.int .i64 0] 3 (w3.heap.size + 1) _ (by simp) rfl
  have hE4 := Blk.at_new ((w3.alloc (.cells #[.int .i64 0] 3)).alloc (.cells #[.int .i64 0] 3)) [.bool false] 4 (w3.heap.size + 1 + 1) _ (by simp) rfl
  have hN4 := (hN4.alloc (.cells #[.int .i64 0] 3)).alloc (.cells #[.bool false] 4)
  have hb4 := hb4.alloc (.cells #[.bool false] 4)
  have hf04 := ((hf03.alloc (.cells #[.int .i64 0] 3)).alloc (.cells #[.int .i64 0] 3)).alloc (.cells #[.bool false] 4)
  have hB4 := ((hB3.alloc (.cells #[.int .i64 0] 3)).alloc (.cells #[.int .i64 0] 3)).alloc (.cells #[.bool false] 4)
  have hd4 := ((hd3.alloc (.cells #[.int .i64 0] 3)).alloc (.cells #[.int .i64 0] 3)).alloc (.cells #[.bool false] 4)
  have hr4 := ((hr3.alloc (.cells #[.int .i64 0] 3)).alloc (.cells #[.int .i64 0] 3)).alloc (.cells #[.bool false] 4)
  simp only [List.toArray] at hN4 hb4 hE4 hf04 hB4 hd4 hr4
  generalize ((w3.alloc (.cells #[.int .i64 0] 3)).alloc (.cells #[.int .i64 0] 3)).alloc (.cells #[.bool false] 4) = w4 at hN4 hb4 hE4 hf04 hB4 hd4 hr4 ⊢
  have l0 : w.heap.size ≠ w3.heap.size := by omega
  clear hB0 hd0 hB1 hd1 hd1' hr0 hr2 hB2 hd2 hB3 hd3 hr3 hf1 hf2 hf3 hf03
  generalize w3.heap.size = nB at hN4 hb4 hE4 hl3 l0 ⊢
  obtain ⟨e0, e1, e2, e3, e4, e5, e6, e7, e8, e9, e10, e11⟩ := agg_of c0 c1 c2 c3 c4 c5 c6 c7 d8 d9 d10 c11 w4 _ hB4
  have hd4' := hd4.cell 0 rfl
  gi_wp2_with (fail)
  clear e0 e1 e2 e3 e4 e5 e6 e7 e8 e9 e10 e11 hd4'
  refine ⟨trivial, ND.out, (callsIn_wide.2 (parts_any c0 c1 c2 c3 c4 c5 c6 c7 d8 d9 d10 c11 A n cp _)).mono ?_⟩
  rintro e w5 ⟨rfl, hw5⟩
  have f45 : Fr (fun _ => False) w4 w5 := by rw [← hw5]; exact ((Fr.refl _ w4).alloc _).alloc _
  have hcB : Blk w5 w4.heap.size (i64s [c0, c1, c2, c3, c4, c5, c6, c7, d8, d9, d10, c11]) 23 := by rw [← hw5]; exact (Blk.at_new _ _ _ _ _ rfl rfl).alloc _
  have hdB : Blk w5 (w4.heap.size + 1) [.slice A n cp] 24 := by rw [← hw5]; exact Blk.at_new _ _ _ _ _ (by simp) rfl
  have f5 := hf04.trans f45 (fun _ _ h => h)
  have hD5 : RdB w5 A n bs := hD.fr f5 (fun _ _ => id)
  clear hw5
  have hok : (⟨d8, d9, d10⟩ : Cf).ok := ⟨b1, b3, by simp only; omega, b5, by simp only; omega⟩
  have hit := fun l J Jx W => parts_iter (m := m) c0 c1 c2 c3 c4 c5 c6 c7 d8 d9 d10 c11 hok.1 hok.2.1 hok.2.2.1 hok.2.2.2.1 hok.2.2.2.2 w4.heap.size (w4.heap.size + 1) A n cp bs w5 hcB hdB hD5 (by omega) l J Jx W
  have hI0 : BndI w d8 [c0, c1, c2, c3, c4, c5, c6, c7, d8, d9, d10, c11] (.slice A n cp) w.heap.size (w.heap.size + 1) (w.heap.size + 1 + 1) nB (nB + 1) (nB + 1 + 1) [] w5 :=
    ⟨f5, f45.blk hB4 id, f45.blk hd4 id, f45.blk hr4 id, f45.blk hN4 id, f45.blk hb4 id, f45.blk hE4 id⟩
  gi_wp2_with (fail)
  refine range_law (n := m) (gf := 22) (lb := #[.pointer (some ⟨w4.heap.size, 0, none⟩), .pointer (some ⟨w4.heap.size + 1, 0, none⟩)]) rfl (enters_of Try.func22 (by kernel_rfl) rfl) (fun x : Ck => #[.int .i64 x.at_, x.v]) (fun _ => rfl)
    (BndI w d8 [c0, c1, c2, c3, c4, c5, c6, c7, d8, d9, d10, c11] (.slice A n cp) w.heap.size (w.heap.size + 1) (w.heap.size + 1 + 1) nB (nB + 1) (nB + 1 + 1)) (fun _ _ _ => False) (Gd (St.run ⟨d8, d9, d10⟩ ⟨[], [], []⟩ bs).parts) Kp
    (BndI.calm _ _ _ _ _ _ _ _ _ _ _ f5.size) (fun _ _ _ _ h _ => h) (Gd.calm _ _) Kp.trans Kp.turn
    (fun xs => xs.map Ck.cs = (St.run ⟨d8, d9, d10⟩ ⟨[], [], []⟩ bs).parts) (fun pre => pre.map Ck.cs <+: (St.run ⟨d8, d9, d10⟩ ⟨[], [], []⟩ bs).parts) hit hI0 ?round ?done ?stop
  case round =>
    intro l pre x W hI hG
    gi_wp2
    refine ⟨Fr.refl _ _, ?_⟩
    intro W3 hf3
    have hI3 := BndI.calm _ _ _ _ _ _ _ _ _ _ _ f5.size _ _ _ hI hf3
    have hG3 := Gd.calm _ _ _ _ _ _ hG hf3
    clear hI hG hf3
    obtain ⟨xA, xc, hxv⟩ := hG3.1.slice
    rw [u8s_len] at hxv
    obtain ⟨hp1, hp2⟩ := part_of _ bs pre x hG3.2.2.2
    have hend := ended_no _ hok bs pre x hG3.2.2.2
    have hpb := (parts_bounds _ hok bs).1 x.cs (hG3.2.2.2.subset (by simp))
    have hat : x.at_ = ((pre.map Ck.cs).flatten.length : Int) := by rw [hG3.2.1, total_flat]
    have hlen : bs.length = n := hD.1
    obtain ⟨ad, hA, hca⟩ := hD.2.2 (by omega)
    subst hA
    rw [hxv, hat]
    have hbg := hI3.beg
    rw [total_flat] at hbg
    have hed := hI3.endd
    rw [hend] at hed
    have hrd : RdB W3 (some ad) n bs := hD.fr hI3.fr (fun _ _ => id)
    have hS2 : Rd W3 (some (ad.add (pre.map Ck.cs).flatten.length)) (u8s x.cs) := by
      intro j v hj
      refine ⟨_, rfl, ?_⟩
      have hjl : j < x.cs.length := by have := (List.getElem?_eq_some_iff.1 hj).1; rwa [u8s_len] at this
      rw [add_add]
      obtain ⟨ad', e, hc⟩ := hrd.rd ((pre.map Ck.cs).flatten.length + j) v (by
        rw [← hp1] at hj
        simp only [u8s, List.getElem?_map, List.getElem?_take, List.getElem?_drop] at hj ⊢
        rw [if_pos hjl] at hj
        exact hj)
      cases e
      exact hc
    have hv1 := fun q => run_str (P := Try.prog) (W3.drewN q) 24 5 9 Try.underlying24 Try.underlying5 Try.underlying9 xA x.cs.length xc x.cs rfl (by
      obtain ⟨xA', xc', e, hr⟩ := hG3.1.rd
      rw [hxv, u8s_len] at e
      injection e with e1 e2 e3
      subst e1
      exact hr)
    have hv2 := fun q => run_str (P := Try.prog) (W3.drewN q) 24 5 9 Try.underlying24 Try.underlying5 Try.underlying9 (some (ad.add (pre.map Ck.cs).flatten.length)) x.cs.length (cp - (pre.map Ck.cs).flatten.length) x.cs rfl hS2
    have hpos := hpb.1
    have hmost := hpb.2
    simp only at hmost
    generalize hT : (pre.map Ck.cs).flatten.length = T at hp2 hbg hv2 ⊢
    have HT := Lib.hid hT
    clear hT
    have hnum := hI3.num
    have hsml : x.cs.length ≤ 1000000 := by omega
    have hTl : T + x.cs.length ≤ cp := by omega
    have hcT : ¬ cp = T := by omega
    have k0 := hbg.cell 0 rfl
    have k0f := hbg.free 0
    have k1 := hed.cell 0 rfl
    have k1f := hed.free 0
    have k2 := hI3.data.cell 0 rfl
    have k3 : W3.cell? ⟨w.heap.size, 10, none⟩ = some (.int .i64 d10) := hI3.conf.cell 10 rfl
    have k4 : W3.cell? ⟨w.heap.size, 8, none⟩ = some (.int .i64 d8) := hI3.conf.cell 8 rfl
    have k5 := hnum.cell 0 rfl
    have k5f := hnum.free 0
    have hpl : pre.length ≤ 1000000 := by
      have := hG3.len
      have h2 := St.run_out ⟨d8, d9, d10⟩ bs ⟨[], [], []⟩
      have h3 := ne_len ((St.run ⟨d8, d9, d10⟩ ⟨[], [], []⟩ bs).out ++ [(St.run ⟨d8, d9, d10⟩ ⟨[], [], []⟩ bs).o])
      simp only [List.length_append, List.length_singleton, List.length_nil] at h2 h3
      unfold Ch.St.parts at this
      omega
    have t1 : (1 : Int) ≤ (x.cs.length : Int) := by omega
    have s1 : IntKind.i64.wrap ((T : Int) + (x.cs.length : Int)) = (T : Int) + (x.cs.length : Int) := IntWalk.i64_in _ (by omega)
    have s2 : ((T : Int) + (x.cs.length : Int)).toNat = T + x.cs.length := by omega
    have s3 : (T : Int) + (x.cs.length : Int) ≤ (cp : Int) := by omega
    have s4 : (0 : Int) ≤ (T : Int) + (x.cs.length : Int) := by omega
    gi_upto_region 10 with (fail)
    refine wpIn_region_round_drawn (by kernel_rfl) (by kernel_rfl) (by kernel_rfl) ?_
    repeat (quiet_step (fail))
    refine wpQuiet_nil ?_
    rintro W4 ⟨q, rfl⟩
    clear s1 s2 s3 s4 hv1 hv2 hS2 hrd
    gi_wp2
    have g1 : Fr (fun k => k = nB + 1 + 1) W3 ((W3.drewN q).setCell ⟨nB + 1 + 1, 0, none⟩ (.bool (decide ((x.cs.length : Int) < d8)))) := (((Fr.refl _ W3).drewN q).set1 _ _)
    have r1 := (hed.drewN q).set 0 (.bool (decide ((x.cs.length : Int) < d8)))
    have r1b := (hbg.drewN q).other (a := ⟨nB + 1 + 1, 0, none⟩) (by simp) (.bool (decide ((x.cs.length : Int) < d8)))
    have r1n := (hnum.drewN q).other (a := ⟨nB + 1 + 1, 0, none⟩) (by simp; omega) (.bool (decide ((x.cs.length : Int) < d8)))
    have r1d := (hI3.data.drewN q).other (a := ⟨nB + 1 + 1, 0, none⟩) (by simp; omega) (.bool (decide ((x.cs.length : Int) < d8)))
    have r1c := (hI3.conf.drewN q).other (a := ⟨nB + 1 + 1, 0, none⟩) (by simp; omega) (.bool (decide ((x.cs.length : Int) < d8)))
    have r1r := (hI3.res.drewN q).other (a := ⟨nB + 1 + 1, 0, none⟩) (by simp; omega) (.bool (decide ((x.cs.length : Int) < d8)))
    generalize (W3.drewN q).setCell ⟨nB + 1 + 1, 0, none⟩ (.bool (decide ((x.cs.length : Int) < d8))) = V1 at g1 r1 r1b r1n r1d r1c r1r ⊢
    have g2 : Fr (fun k => k = nB + 1) V1 (V1.setCell ⟨nB + 1, 0, none⟩ (.int .i64 ((T : Int) + (x.cs.length : Int)))) := (Fr.refl _ V1).set1 _ _
    have g3 : Fr (fun k => k = nB) (V1.setCell ⟨nB + 1, 0, none⟩ (.int .i64 ((T : Int) + (x.cs.length : Int)))) ((V1.setCell ⟨nB + 1, 0, none⟩ (.int .i64 ((T : Int) + (x.cs.length : Int)))).setCell ⟨nB, 0, none⟩ (.int .i64 ((pre.length : Int) + 1))) := (Fr.refl _ _).set1 _ _
    have r2 := r1.other (a := ⟨nB + 1, 0, none⟩) (by simp) (.int .i64 ((T : Int) + (x.cs.length : Int)))
    have r2b := r1b.set 0 (.int .i64 ((T : Int) + (x.cs.length : Int)))
    have r2n := r1n.other (a := ⟨nB + 1, 0, none⟩) (by simp) (.int .i64 ((T : Int) + (x.cs.length : Int)))
    have r2d := r1d.other (a := ⟨nB + 1, 0, none⟩) (by simp; omega) (.int .i64 ((T : Int) + (x.cs.length : Int)))
    have r2c := r1c.other (a := ⟨nB + 1, 0, none⟩) (by simp; omega) (.int .i64 ((T : Int) + (x.cs.length : Int)))
    have r2r := r1r.other (a := ⟨nB + 1, 0, none⟩) (by simp; omega) (.int .i64 ((T : Int) + (x.cs.length : Int)))
    refine ⟨((Stay.of_fr g1 (fun k hk => by subst hk; exact ⟨_, _, _, hed.out⟩)).trans (Stay.of_fr g2 (fun k hk => by subst hk; exact ⟨_, _, _, r1b.out⟩))).trans (Stay.of_fr g3 (fun k hk => by subst hk; exact ⟨_, _, _, r2n.out⟩)), ?_, ?_⟩
    · refine ((Kp.fr g1 ?_).trans (Kp.fr g2 ?_)).trans (Kp.fr g3 ?_)
      · intro k hk cs t hc
        subst hk
        rw [hed.out] at hc
        cases hc
        exact ⟨by decide, by decide⟩
      · intro k hk cs t hc
        subst hk
        rw [r1b.out] at hc
        cases hc
        exact ⟨by decide, by decide⟩
      · intro k hk cs t hc
        subst hk
        rw [r2n.out] at hc
        cases hc
        exact ⟨by decide, by decide⟩
    · refine ⟨((hI3.fr.trans g1 (fun k hk h => by omega)).trans g2 (fun k hk h => by omega)).trans g3 (fun k hk h => by omega), r2c.other (by simp; omega) _, r2d.other (by simp; omega) _, r2r.other (by simp; omega) _, ?_, ?_, ?_⟩
      · have := r2n.set 0 (.int .i64 ((pre.length : Int) + 1))
        rw [List.length_append, List.length_singleton, Int.natCast_add]
        exact this
      · rw [List.map_append, List.map_cons, List.map_nil, total_snoc, total_flat, HT.out]
        exact r2b.other (by simp) _
      · rw [ended_snoc]
        exact r2.other (by simp; omega) _
  case done =>
    rintro D xs W hDD hS hI hK
    have k0 := hI.beg.cell 0 rfl
    have k1 := hI.data.cell 0 rfl
    have k2 := hI.num.cell 0 rfl
    have k3 := hI.res.cell 0 rfl
    have k3f := hI.res.free 0
    have htot : total (xs.map Ck.cs) = n := by
      rw [hS, total_flat, parts_flat, hD.1]
    rw [htot] at k0
    clear htot
    gi_wp2
    have hb : (((xs.length : Int) == 0) == ((n : Int) == 0)) = true := by
      have e : xs.length = 0 ↔ n = 0 := by
        constructor
        · intro h
          have hx : xs = [] := List.eq_nil_of_length_eq_zero h
          rw [hx] at hS
          have := parts_flat ⟨d8, d9, d10⟩ bs
          rw [← hS] at this
          rw [← hD.1, ← this]
          rfl
        · intro h
          have hb : bs = [] := List.eq_nil_of_length_eq_zero (by rw [hD.1]; exact h)
          rw [hb] at hS
          have : xs.map Ck.cs = [] := hS
          simpa using this
      by_cases h : n = 0
      · rw [h, e.2 h]; rfl
      · have h2 : xs.length ≠ 0 := fun h' => h (e.1 h')
        simp only [beq_iff_eq]
        rw [Bool.eq_iff_iff]
        simp only [beq_iff_eq]
        omega
    rw [hb]
    have hK' := (KeepsOthers.setCell W ⟨w.heap.size + 1 + 1, 0, none⟩ (.bool true)).same D _ hK rfl
    have r1 := hI.res.set 0 (.bool true)
    have g1 : Fr (fun _ => False) w (W.setCell ⟨w.heap.size + 1 + 1, 0, none⟩ (.bool true)) := hI.fr.setCell _ _ (fun h => by simp only at h; omega)
    generalize W.setCell ⟨w.heap.size + 1 + 1, 0, none⟩ (.bool true) = W6 at hK' r1 g1 ⊢
    have ht : Fr (Turn w.heap.size W6) W6 (W6.putObj D (.deferred none)) := turn_put _ (by have := f5.size; omega) hK' rfl
    have hc := (r1.turn ht).cell 0 rfl
    refine ⟨by simp, .inl ⟨_, _, rfl, run_takeDeferred hK', ?_⟩⟩
    refine ⟨.bool true, ?_, rfl, g1.turn ht (Nat.le_refl _)⟩
    simp [results, Try.results5, go_sem, hc]
  case stop =>
    rintro D c pre W _ _ h _
    exact h.elim
set_option maxHeartbeats 400000 in
set_option maxRecDepth 100000 in
theorem bounds_long (c0 c1 c2 c3 c4 c5 c6 c7 c8 c9 c10 c11 : Int) (A : Option Addr) (n cp : Nat) (w : World) (hn : 30000 < n) :
    Calls Try.prog 5 #[.agg #[.int .i64 c0, .int .i64 c1, .int .i64 c2, .int .i64 c3, .int .i64 c4, .int .i64 c5, .int .i64 c6, .int .i64 c7, .int .i64 c8, .int .i64 c9, .int .i64 c10, .int .i64 c11], .slice A n cp] w fun e w' => e = .returned (.bool true) ∧ Fr (fun _ => False) w w' := by
  have hd0 : Blk ((w.alloc (.cells (i64s [c0, c1, c2, c3, c4, c5, c6, c7, c8, c9, c10, c11]).toArray 23)).alloc (.cells #[.slice A n cp] 24)) (w.heap.size + 1) [.slice A n cp] 24 := Blk.at_new _ _ _ _ _ (by simp) rfl
  have hr0 : Blk (((w.alloc (.cells (i64s [c0, c1, c2, c3, c4, c5, c6, c7, c8, c9, c10, c11]).toArray 23)).alloc (.cells #[.slice A n cp] 24)).alloc (.cells #[.bool false] 4)) (w.heap.size + 1 + 1) [.bool false] 4 := Blk.at_new _ _ _ _ _ (by simp) rfl
  have f0 : Fr (fun _ => False) w (((w.alloc (.cells (i64s [c0, c1, c2, c3, c4, c5, c6, c7, c8, c9, c10, c11]).toArray 23)).alloc (.cells #[.slice A n cp] 24)).alloc (.cells #[.bool false] 4)) := (((Fr.refl _ w).alloc _).alloc _).alloc _
  go_enter Try.func5, Try.ntmps5
  go_wp2_with fail
  refine (awake_any _).mono ?_
  rintro e w1 ⟨rfl, hf1⟩
  have hd1 := (hf1.blk (hd0.alloc (.cells #[.bool false] 4)) id).cell 0 rfl
  have hr1 := hf1.blk hr0 id
  have f1 := f0.trans hf1 (fun _ _ h => h)
  go_wp2_with fail
  refine (awake_any _).mono ?_
  rintro e w2 ⟨rfl, hf2⟩
  have hr2 := hf2.blk hr1 id
  have k2 := hr2.cell 0 rfl
  have k2f := hr2.free 0
  have f2 := (f1.trans hf2 (fun _ _ h => h)).setCell ⟨w.heap.size + 1 + 1, 0, none⟩ (.bool true) (fun h => by simp only at h; omega)
  have hr3 := (hr2.set 0 (.bool true)).cell 0 rfl
  go_wp2
  exact bodyPost_ret (v := .bool true) (by simp [results, Try.results5, go_sem, hr3]) rfl ⟨rfl, f2⟩
/-- ChunkBounds answers true, whatever it is given, and leaves what was there. -/
theorem bounds_any (c0 c1 c2 c3 c4 c5 c6 c7 c8 c9 c10 c11 : Int) (A : Option Addr) (n cp : Nat) (bs : List Int) (w : World) (hD : RdB w A n bs) (hcp : n ≤ cp) (hcm : cp ≤ 9223372036854775807) :
    Calls Try.prog 5 #[.agg #[.int .i64 c0, .int .i64 c1, .int .i64 c2, .int .i64 c3, .int .i64 c4, .int .i64 c5, .int .i64 c6, .int .i64 c7, .int .i64 c8, .int .i64 c9, .int .i64 c10, .int .i64 c11], .slice A n cp] w fun e w' => e = .returned (.bool true) ∧ Fr (fun _ => False) w w' := by
  by_cases hn : n ≤ 30000
  · exact bounds_ok c0 c1 c2 c3 c4 c5 c6 c7 c8 c9 c10 c11 A n cp bs w hD hn hcp hcm
  · exact bounds_long c0 c1 c2 c3 c4 c5 c6 c7 c8 c9 c10 c11 A n cp w (by omega)
end Go.Proofs.Yticlbmeldcncnaa
