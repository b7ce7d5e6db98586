/- The reference's New. Conditions: those of the lemma. -/
import Derived.Test.YtlljfopacdnpbaaRSet
import Derived.StillTailTactics
namespace Go.Proofs.Ytlljfopacdnpbaa
open Go.RowKit
theorem infoTask : (Try.prog.info? 69).map (fun i => (i.zero, i.size, i.bytes)) = some (some (.agg #[.slice none 0 0, .int .i64 0, .int .i64 0, .bool false]), 4, 48) := by kernel_rfl
def t0 (p : PT) : RT := ⟨0, 0, (p.l.length : Int) == 0⟩
def worldV (R : RE) (n : Nat) (st : Int) : Value := .agg #[.slice (some ⟨R.tb, 0, none⟩) n R.tc, .slice (some ⟨R.cb, 0, none⟩) 4 4, .slice (some ⟨R.zb, 0, none⟩) 4 4, .slice (some ⟨R.hb, 0, none⟩) 4 4, .int .i64 st]
theorem tks_take {ls : List PT} {j : Nat} {p : PT} (h : ls[j]? = some p) : (ls.take j).map (fun p => tkV p (t0 p)) ++ [tkV p (t0 p)] = (ls.take (j + 1)).map (fun p => tkV p (t0 p)) := by
  rw [take_succ' h, List.map_append]
  rfl
structure NewAt (W0 W : World) (mb tv cb zb hb : Nat) (v : Value) (ls : List PT) (k : Nat) : Prop where
  obj : Blk W mb [v, .slice (some ⟨cb, 0, none⟩) 4 4, .slice (some ⟨zb, 0, none⟩) 4 4, .slice (some ⟨hb, 0, none⟩) 4 4, .int .i64 0] 31
  tv : Blk W tv [.slice none 0 0, .slice none 0 0, .slice none 0 0, .slice none 0 0, .int .i64 0] 31
  cells : Blk W cb (four fun _ => 0) 3
  sets : Blk W zb (four fun _ => 0) 3
  held : Blk W hb (four fun _ => -1) 3
  row : RowK W 69 4 v ((ls.take k).map fun p => tkV p (t0 p))
  fr : Fr (fun _ => False) W0 W
  own : ∀ q, v.ownBlock = some q → W0.heap.size ≤ q
structure NewN (W0 : World) (mb tv cb zb hb : Nat) : Prop where
  m : W0.heap.size ≤ mb
  c : W0.heap.size ≤ cb
  z : W0.heap.size ≤ zb
  h : W0.heap.size ≤ hb
  t : W0.heap.size ≤ tv
  tm : tv ≠ mb
  cz : cb ≠ zb
  ch : cb ≠ hb
  zh : zb ≠ hb
theorem NewAt.next {W0 W W' : World} {mb tv cb zb hb : Nat} {v : Value} {ls : List PT} {k : Nat} (h : NewAt W0 W mb tv cb zb hb v ls k) (hn : NewN W0 mb tv cb zb hb) {p : PT} (hp : ls[k]? = some p) {g c n : Nat} (hR : RowK W' 69 4 (.slice (some ⟨g, 0, none⟩) n c) ((ls.take k).map (fun p => tkV p (t0 p)) ++ [tkV p (t0 p)])) (hor : v.ownBlock = some g ∨ W.heap.size < g) (hf : Fr (fun q => v.ownBlock = some q) W.drew W') : NewAt W0 (W'.setCell ⟨mb, 0, none⟩ (.slice (some ⟨g, 0, none⟩) n c)) mb tv cb zb hb (.slice (some ⟨g, 0, none⟩) n c) ls (k + 1) := by
  have n1 : ∀ (q : Nat) (cs : List Value) (t : TypeId), Blk W q cs t → t ≠ 69 → ¬ (v.ownBlock = some q) := fun q cs t hq ht => h.row.ne hq (Ne.symm ht)
  have ho := hf.blk h.obj (n1 _ _ _ h.obj (by decide))
  have ht := hf.blk h.tv (n1 _ _ _ h.tv (by decide))
  have hc := hf.blk h.cells (n1 _ _ _ h.cells (by decide))
  have hz := hf.blk h.sets (n1 _ _ _ h.sets (by decide))
  have hh := hf.blk h.held (n1 _ _ _ h.held (by decide))
  refine ⟨ho.set 0 _, ht.other hn.tm _, hc.other (hc.ne ho (by decide)) _, hz.other (hz.ne ho (by decide)) _, hh.other (hh.ne ho (by decide)) _, ?_, ((h.fr.drew.trans hf (fun i hi hh => ?_)).setCell _ _ (fun hh => ?_)), fun q hq => ?_⟩
  · rw [← tks_take hp]
    exact hR.other (a := ⟨mb, 0, none⟩) (hR.ne ho (by decide)) _
  · have := h.own i hh
    omega
  · have := hn.m
    simp at hh
    omega
  · have hq' : g = q := by simpa [Value.ownBlock] using hq
    subst hq'
    rcases hor with hh | hh
    · exact h.own _ hh
    · have := h.fr.size; omega
set_option maxHeartbeats 2000000 in
set_option maxRecDepth 100000 in
theorem rnew_any {W : World} {A : Option Addr} {cp : Nat} {ls : List PT} (hL : Rd W A (ls.map ptV)) (hP : ∀ p ∈ ls, Rd W p.A (insR p.l)) (hlo : ∀ p ∈ ls, ∀ ad, p.A = some ad → ad.block < W.heap.size) (h1 : 1 ≤ ls.length) (hn : ls.length ≤ 16) (h60 : ∀ p ∈ ls, p.l.length ≤ 60) :
    Calls Try.prog 11 #[.slice A ls.length cp] W fun e w' => ∃ mb R ts, e = .returned (worldV R ls.length 0) ∧ RefAt w' mb R ls ts (fun _ => 0) (s0 ls.length) 0 ∧ Fr (fun _ => False) W w' ∧ W.heap.size ≤ mb ∧ ∀ k, R.foot k → W.heap.size ≤ k := by
  have HL := Lib.hid hL
  have HP := Lib.hid (And.intro hP (And.intro hlo h60))
  clear hL hP hlo h60
  go_enter Try.func11, Try.ntmps11
  go_upto_region 2 with fail
  have f1 : Fr (fun _ => False) W (((((W.alloc (Obj.cells #[.slice none 0 0, .slice none 0 0, .slice none 0 0, .slice none 0 0, .int .i64 0] 31)).alloc (.cells #[.int .i64 0, .int .i64 0, .int .i64 0, .int .i64 0] 3)).alloc (.cells #[.int .i64 0, .int .i64 0, .int .i64 0, .int .i64 0] 3)).alloc (.cells #[.int .i64 (-1), .int .i64 (-1), .int .i64 (-1), .int .i64 (-1)] 3)).alloc (.cells #[.slice none 0 0, .slice (some ⟨W.heap.size + 1, 0, none⟩) 4 4, .slice (some ⟨W.heap.size + 1 + 1, 0, none⟩) 4 4, .slice (some ⟨W.heap.size + 1 + 1 + 1, 0, none⟩) 4 4, .int .i64 0] 31)) := (((((Fr.refl _ W).alloc _).alloc _).alloc _).alloc _).alloc _
  have hN : NewN W (W.heap.size + 1 + 1 + 1 + 1) W.heap.size (W.heap.size + 1) (W.heap.size + 1 + 1) (W.heap.size + 1 + 1 + 1) := ⟨by omega, by omega, by omega, by omega, by omega, by omega, by omega, by omega, by omega⟩
  have hA : NewAt W (((((W.alloc (Obj.cells #[.slice none 0 0, .slice none 0 0, .slice none 0 0, .slice none 0 0, .int .i64 0] 31)).alloc (.cells #[.int .i64 0, .int .i64 0, .int .i64 0, .int .i64 0] 3)).alloc (.cells #[.int .i64 0, .int .i64 0, .int .i64 0, .int .i64 0] 3)).alloc (.cells #[.int .i64 (-1), .int .i64 (-1), .int .i64 (-1), .int .i64 (-1)] 3)).alloc (.cells #[.slice none 0 0, .slice (some ⟨W.heap.size + 1, 0, none⟩) 4 4, .slice (some ⟨W.heap.size + 1 + 1, 0, none⟩) 4 4, .slice (some ⟨W.heap.size + 1 + 1 + 1, 0, none⟩) 4 4, .int .i64 0] 31)) (W.heap.size + 1 + 1 + 1 + 1) W.heap.size (W.heap.size + 1) (W.heap.size + 1 + 1) (W.heap.size + 1 + 1 + 1) (.slice none 0 0) ls 0 :=
    ⟨Blk.at_new _ _ _ _ _ (by simp) rfl, ((((Blk.at_new _ _ _ _ _ rfl rfl).alloc _).alloc _).alloc _).alloc _, (((Blk.at_new _ _ _ _ _ (by simp) rfl).alloc _).alloc _).alloc _, ((Blk.at_new _ _ _ _ _ (by simp) rfl).alloc _).alloc _, (Blk.at_new _ _ _ _ _ (by simp) rfl).alloc _, RowK.nil _ _ _, f1, fun q hq => by simp [Value.ownBlock] at hq⟩
  clear f1
  generalize (((((W.alloc (Obj.cells #[.slice none 0 0, .slice none 0 0, .slice none 0 0, .slice none 0 0, .int .i64 0] 31)).alloc (.cells #[.int .i64 0, .int .i64 0, .int .i64 0, .int .i64 0] 3)).alloc (.cells #[.int .i64 0, .int .i64 0, .int .i64 0, .int .i64 0] 3)).alloc (.cells #[.int .i64 (-1), .int .i64 (-1), .int .i64 (-1), .int .i64 (-1)] 3)).alloc (.cells #[.slice none 0 0, .slice (some ⟨W.heap.size + 1, 0, none⟩) 4 4, .slice (some ⟨W.heap.size + 1 + 1, 0, none⟩) 4 4, .slice (some ⟨W.heap.size + 1 + 1 + 1, 0, none⟩) 4 4, .int .i64 0] 31)) = w1 at hA ⊢
  generalize W.heap.size + 1 + 1 + 1 + 1 = mb at hA hN ⊢
  generalize W.heap.size + 1 + 1 + 1 = hb at hA hN ⊢
  generalize W.heap.size + 1 + 1 = zb at hA hN ⊢
  generalize W.heap.size + 1 = cb at hA hN ⊢
  have HN := Lib.hid hN
  clear hN
  generalize htv : W.heap.size = tv at hA HN ⊢
  clear htv
  go_wp2_with fail
  go_loopw [4] (fun i W1 => ∃ (k : Nat) (v : Value), i = .int .i64 k ∧ k ≤ ls.length ∧ NewAt W W1 mb tv cb zb hb v ls k) (fun i _ => ls.length - (intOf i).toNat)
  case atStart => exact ⟨0, _, rfl, Nat.zero_le _, hA⟩
  case round =>
    clear hA
    obtain ⟨k, v, rfl, hk, hM⟩ := hrel
    by_cases hkl : k < ls.length
    · obtain ⟨p, hp⟩ : ∃ p, ls[k]? = some p := ⟨_, List.getElem?_eq_getElem hkl⟩
      obtain ⟨la, rfl, cl⟩ := HL.out k (ptV p) (by rw [List.getElem?_map, hp]; rfl)
      have cl1 := (hM.fr.cell cl id)
      unfold ptV at cl1
      have o0 := hM.obj.cell 0 rfl
      have o0' := ((Fr.refl (fun _ => False) wr).alloc (.cells #[.slice p.A p.l.length p.cp, .int .i64 0, .int .i64 0, .bool ((p.l.length : Int) == 0)] 69)).cell o0 id
      have ik0 : (0 : Int) ≤ (k : Int) := by omega
      have ik1 : (k : Int) < (ls.length : Int) := by omega
      have Hsz := Lib.hid (show (((ls.take k).map fun p => tkV p (t0 p)).length + 1) * 48 ≤ 140737488355328 by rw [List.length_map, List.length_take]; omega)
      have HM := Lib.hid hM
      have Hp := Lib.hid hp
      clear hM hp cl
      go_upto_region 5 with fail
      go_region_law (first | (refine step_appK (W := wr.drew) rfl _ _ 29 69 (.agg #[.slice none 0 0, .int .i64 0, .int .i64 0, .bool false]) 4 48 rfl Try.underlying29 infoTask rfl (by decide) (by decide) v ((ls.take k).map fun p => tkV p (t0 p)) (tkV p (t0 p)) rfl rfl rfl (by simp [tkV, Value.oneCell']) HM.out.row Hsz.out ?_; intro g c w1 hR1 hor1 hf1 _; have hb1 := hf1.blk HM.out.obj (fun hh => (HM.out.row.ne HM.out.obj (by decide)) hh); have k0' := hb1.cell 0 rfl; have k0f := hb1.free 0; have kl := hb1.lt))
      all_goals (
        go_wp2
        go_roundw
        case rel => exact ⟨k + 1, _, by go_num, by omega, HM.out.next HN.out Hp.out (by rw [List.length_map, List.length_take, show min k ls.length = k by omega] at hR1; exact hR1) hor1 hf1⟩
        case measure => simp [intOf]; omega)
    · obtain rfl : k = ls.length := by omega
      have o0 := hM.obj.cell 0 rfl
      have o1 := hM.obj.cell 1 rfl
      have o2 := hM.obj.cell 2 rfl
      have o3 := hM.obj.cell 3 rfl
      have o4 := hM.obj.cell 4 rfl
      have l1 := hM.obj.lt
      have l2 := hM.tv.lt
      have q0 := hM.tv.cell 0 rfl
      have q1 := hM.tv.cell 1 rfl
      have q2 := hM.tv.cell 2 rfl
      have q3 := hM.tv.cell 3 rfl
      have q4 := hM.tv.cell 4 rfl
      have z0 := hM.tv.free 0
      have z1 := hM.tv.free 1
      have z2 := hM.tv.free 2
      have z3 := hM.tv.free 3
      have z4 := hM.tv.free 4
      obtain ⟨vA, vc, hv⟩ := hM.row.slice
      rw [List.length_map, List.length_take, show min ls.length ls.length = ls.length by omega] at hv
      subst hv
      obtain ⟨tb, rfl, _⟩ := hM.row.head (by omega)
      have HM := Lib.hid hM
      clear hM
      go_wp2
      refine bodyPost_ret (results_cell_row rfl _ _ tv 31 #[.slice (some ⟨tb, 0, none⟩) ls.length vc, .slice (some ⟨cb, 0, none⟩) 4 4, .slice (some ⟨zb, 0, none⟩) 4 4, .slice (some ⟨hb, 0, none⟩) 4 4, .int .i64 0] (0, 0) _ rfl (((((HM.out.tv.set 0 _).set 1 _).set 2 _).set 3 _).set 4 _) Try.underlying31 rfl (by kernel_rfl)) rfl ?_
      have hf : Fr (fun q => q = tv) wr (((((wr.setCell ⟨tv, 0, none⟩ (.slice (some ⟨tb, 0, none⟩) ls.length vc)).setCell ⟨tv, 1, none⟩ (.slice (some ⟨cb, 0, none⟩) 4 4)).setCell ⟨tv, 2, none⟩ (.slice (some ⟨zb, 0, none⟩) 4 4)).setCell ⟨tv, 3, none⟩ (.slice (some ⟨hb, 0, none⟩) 4 4)).setCell ⟨tv, 4, none⟩ (.int .i64 0)) := (((((Fr.refl _ wr).set1 _ _).set1 _ _).set1 _ _).set1 _ _).set1 _ _
      have hN := HN.out
      have hM := HM.out
      refine ⟨mb, ⟨tb, vc, cb, zb, hb⟩, ls.map t0, rfl, ?_, hM.fr.trans hf (fun q hq hh => by have := hN.t; omega), hN.m, ?_⟩
      · have hrow : tksV ls (ls.map t0) = (ls.take ls.length).map fun p => tkV p (t0 p) := by
          rw [List.take_length]
          unfold tksV
          rw [List.zipWith_map_right, List.zipWith_self]
        have htb : ∃ cs, Blk wr tb cs 69 := by
          obtain ⟨cur, hc⟩ := hM.row.kind (q := tb) rfl
          exact ⟨cur.toList, by unfold Blk; simpa using hc⟩
        obtain ⟨_, htb⟩ := htb
        refine ⟨hf.blk hM.obj (Ne.symm hN.tm), by rw [hrow]; exact hM.row.fr hf (fun q hq hh => by subst hh; exact (hM.row.ne hM.tv (by decide)) hq), hf.blk hM.cells (hM.cells.ne hM.tv (by decide)), hf.blk hM.sets (hM.sets.ne hM.tv (by decide)), hf.blk hM.held (hM.held.ne hM.tv (by decide)), hN.cz, hN.ch, hN.zh, fun p hp => ((HP.out.1 p hp).fr hM.fr (fun _ _ => id)).fr hf (fun ad e hh => by have := HP.out.2.1 p hp ad e; have := hN.t; omega), fun p hp ad e => ?_, by simp, by simp [s0], fun i p t hi ht => ?_, HP.out.2.2⟩
        · have h1 := HP.out.2.1 p hp ad e
          have h2 := hM.own tb rfl
          have := hN.m
          have := hN.c
          have := hN.z
          have := hN.h
          refine ⟨by omega, ?_⟩
          rintro (hh | hh | hh | hh) <;> simp only at hh <;> omega
        · rw [List.getElem?_map, hi] at ht
          injection ht with ht
          subst ht
          have hil := (List.getElem?_eq_some_iff.1 hi).1
          refine ⟨by simp [s0, t0, hil], fun hg => ?_, fun _ => rfl, by simp [t0]⟩
          have : p.l = [] := by
            apply List.eq_nil_of_length_eq_zero
            simpa [t0] using hg
          rw [this]
          rfl
      · rintro k (rfl | rfl | rfl | rfl)
        · exact hM.own _ rfl
        · exact hN.c
        · exact hN.z
        · exact hN.h
end Go.Proofs.Ytlljfopacdnpbaa
