/- The law MemRanges, walked. Conditions: those of the lemmas. -/
import Derived.Test.YtkodepdbnkghfaaFrom
import Derived.Test.YtkodepdbnkghfaaAwake
import Derived.Sort.CutIn
import Derived.Stop.RegionWithIn
import Derived.Deep.RegionHeld3
import Derived.Laws.Concat
import Derived.Laws.EntriesVeiled
namespace Go.Proofs.Ytkodepdbnkghfaa
open Go.RowKit Go.Shelf
attribute [local go_sem] Oper.semAt_some
theorem Rd.str {W : World} {A : Option Addr} {l : List ByteArray} (h : Rd W A (l.map Value.string)) {j : Nat} {s : ByteArray} (hj : l[j]? = some s) : ∃ ad, A = some ad ∧ W.cell? (ad.add j) = some (.string s) :=
  h j (.string s) (by rw [List.getElem?_map, hj]; rfl)
def bang (k : ByteArray) : ByteArray := k ++ ⟨#[33]⟩
theorem run_bang (k : ByteArray) (h : k.size ≤ 10000) (W : World) : (Op.stringOp .add k ⟨#[33]⟩).run Try.prog W = .ok (.string (bang k)) W :=
  run_string_add_sum W k ⟨#[33]⟩ (by have : (⟨#[33]⟩ : ByteArray).size = 1 := rfl; omega)
/-- The law's memory. -/
structure MRI (w : World) (key : ByteArray) (lv : Int) (rB kB lB mB : Nat) (q : Option Addr) (t : Tr ByteArray) (W : World) : Prop where
  fr : Fr (fun _ => False) w W
  res : Blk W rB [.bool false] 4
  key : Blk W kB [.string key] 9
  leave : Blk W lB [.int .i64 lv] 3
  map : Blk W mB [.pointer q] 26
  is : IsS W q t
  srt : Srt t.toL
  bangs : ∀ p ∈ t.toL, p.2 = bang p.1 ∧ p.1.size ≤ 10000
theorem turn_not {B : Nat} {W : World} {k : Nat} {cs : Array Value} {t : TypeId} {fr : Nat × Nat} (h : W.heap[k]? = some (.cells cs t fr)) : ¬ Turn B W k := by
  rintro ⟨_, o, ho, hc⟩
  rw [h] at ho
  injection ho with ho
  subst ho
  cases hc
def lastK (pre : List (ByteArray × ByteArray)) : ByteArray := match pre.getLast? with
  | some p => p.1
  | none => ⟨#[]⟩
/-- The law's memory inside its range; wb: the law's own walk. -/
structure RI (w : World) (key : ByteArray) (lv : Int) (rB kB lB mB fB nB sB wb : Nat) (q : Option Addr) (t : Tr ByteArray) (L pre : List (ByteArray × ByteArray)) (W : World) : Prop where
  fr : Fr (fun _ => False) w W
  res : Blk W rB [.bool false] 4
  key : Blk W kB [.string key] 9
  leave : Blk W lB [.int .i64 lv] 3
  map : Blk W mB [.pointer q] 26
  is : IsS W q t
  fn : Blk W fB [.func (.func 23) #[] #[.pointer (some ⟨wb, 0, none⟩)]] 28
  num : Blk W nB [.int .i64 pre.length] 3
  last : Blk W sB [.string (lastK pre)] 9
  wk : ∃ v rest, L = pre ++ rest ∧ WkS W wb v rest ∧ ∀ k, v.ownBlock = some k → w.heap.size ≤ k
theorem sLt_after {a b : ByteArray} (h : sLt a b = true) : Op.bytesLess b.toList a.toList = false ∧ (b.toList == a.toList) = false := by
  constructor
  · exact (by cases hh : sLt b a with
      | false => rfl
      | true => exact absurd (sLt_trans h hh) (by simp [sLt_irrefl]) : sLt b a = false)
  · refine toList_ne ?_
    rintro rfl
    simp [sLt_irrefl] at h
section
variable {w W W' : World} {key : ByteArray} {lv : Int} {rB kB lB mB fB nB sB wb : Nat} {q : Option Addr} {t : Tr ByteArray} {L pre : List (ByteArray × ByteArray)}
theorem RI.keep {S : Nat → Prop} (h : RI w key lv rB kB lB mB fB nB sB wb q t L pre W) (hf : Fr S W W') (h1 : ∀ k (cs : Array Value) (t : TypeId), W.heap[k]? = some (.cells cs t (0, 0)) → t ≠ 61 → t ≠ 24 → ¬ S k) (h2 : ¬ S wb) (h3 : ∀ v, Blk W wb [v] 61 → ∀ k, v.ownBlock = some k → ¬ S k) (h4 : ∀ k, k < w.heap.size → ¬ S k) : RI w key lv rB kB lB mB fB nB sB wb q t L pre W' := by
  have b : ∀ {g : Nat} {cs : List Value} {t : TypeId}, Blk W g cs t → t ≠ 61 → t ≠ 24 → Blk W' g cs t := fun hb e1 e2 => hf.blk hb (h1 _ _ _ hb.out e1 e2)
  obtain ⟨v, rest, e, hw, ho⟩ := h.wk
  refine ⟨h.fr.trans hf (fun i hi hs => h4 i hi hs), b h.res (by decide) (by decide), b h.key (by decide) (by decide), b h.leave (by decide) (by decide), b h.map (by decide) (by decide), h.is.fr hf (fun q cs hq => h1 _ _ _ hq.out (by decide) (by decide)), b h.fn (by decide) (by decide), b h.num (by decide) (by decide), b h.last (by decide) (by decide), v, rest, e, ?_, ho⟩
  obtain ⟨ps, ts, a, _⟩ := id hw
  exact hw.fr hf h2 (h3 v a) (fun q cs hq => h1 _ _ _ hq.out (by decide) (by decide))
theorem RI.turn {B : Nat} (h : RI w key lv rB kB lB mB fB nB sB wb q t L pre W) (hf : Fr (Turn B W) W W') (hB : w.heap.size ≤ B) : RI w key lv rB kB lB mB fB nB sB wb q t L pre W' := by
  obtain ⟨v, rest, e, hw, ho⟩ := h.wk
  obtain ⟨ps, ts, a, b, c, d⟩ := id hw
  refine h.keep hf (fun k cs t hk _ _ => turn_not hk) (turn_not a.out) (fun v2 hv2 k hk => ?_) (fun k hk ht => by have := ht.1; omega)
  have e2 := a.out.symm.trans hv2.out
  simp at e2
  subst e2
  obtain ⟨cur, hc⟩ := b.kind hk
  exact turn_not hc
theorem RI.kq {B0 : Nat} (h : RI w key lv rB kB lB mB fB nB sB wb q t L pre W) (hk : KqM wb B0 W W') (hB : w.heap.size ≤ B0) : RI w key lv rB kB lB mB fB nB sB wb q t L pre W' := by
  refine h.keep hk.fr (fun k cs t hk e1 e2 hs => ?_) (fun hs => hs.2.1 rfl) (fun v hv k hk hs => hs.2.2.2 v hv hk) (fun k hk hs => by have := hs.1; omega)
  obtain ⟨_, _, ⟨cs', t', fr', h1, h2⟩, _⟩ := hs
  rw [hk] at h1
  injection h1 with h1
  injection h1 with _ h1
  subst h1
  rcases h2 with h2 | h2
  · exact e1 h2
  · exact e2 h2
end
theorem KpM.of_fr {lwb : Nat} {S : Nat → Prop} {A B : World} {v v' : Value} (hf : Fr S A B) (hb : Blk A lwb [v] 61) (hb' : Blk B lwb [v'] 61) (ht : K24 B v') (ho : ∀ g, v'.ownBlock = some g → v.ownBlock = some g ∨ A.heap.size ≤ g)
    (hS : ∀ k cs t, S k → A.heap[k]? = some (.cells cs t (0, 0)) → (t = 61 ∨ t = 24 ∨ t = 63) → k = lwb ∨ v.ownBlock = some k) : KpM lwb A B := by
  refine ⟨hf.os, hf.tape, hf.output, hf.size, fun v2 hv2 _ => ⟨v', hb', ht, ?_, fun k cs t ht hk hl hw => (hf.block k (Array.getElem?_eq_some_iff.1 hk).1 (fun hs => ?_)).trans hk⟩⟩
  · have e2 := hb.out.symm.trans hv2.out
    simp at e2
    subst e2
    exact ho
  · have e2 := hb.out.symm.trans hv2.out
    simp at e2
    subst e2
    rcases hS k cs t hs hk ht with h | h
    · exact hl h
    · exact hw h
set_option maxHeartbeats 400000 in
set_option maxRecDepth 100000 in
theorem ranges_long (A : Option Addr) (n cp : Nat) (key : ByteArray) (lv : Int) (w : World) (hn : 300 < n) :
    Calls Try.prog 3 #[.slice A n cp, .string key, .int .i64 lv] w fun e w' => e = .returned (.bool true) ∧ Fr (fun _ => False) w w' := by
  have hr0 : Blk (((w.alloc (.cells #[.string key] 9)).alloc (.cells #[.int .i64 lv] 3)).alloc (.cells #[.bool false] 4)) (w.heap.size + 1 + 1) [.bool false] 4 := Blk.at_new _ _ _ _ _ (by simp) rfl
  have f0 : Fr (fun _ => False) w (((w.alloc (.cells #[.string key] 9)).alloc (.cells #[.int .i64 lv] 3)).alloc (.cells #[.bool false] 4)) := (((Fr.refl _ w).alloc _).alloc _).alloc _
  go_enter Try.func3, Try.ntmps3
  go_wp2_with fail
  refine (awake_any _).mono ?_
  rintro e w1 ⟨rfl, hf1⟩
  have hr1 := hf1.blk hr0 id
  have f1 := f0.trans hf1 (fun _ _ h => h)
  go_wp2_with fail
  refine (awake_any _).mono ?_
  rintro e w2 ⟨rfl, hf2⟩
  have hr2 := hf2.blk hr1 id
  have k2 := hr2.cell 0 rfl
  have k2f := hr2.free 0
  have f2 := (f1.trans hf2 (fun _ _ h => h)).setCell ⟨w.heap.size + 1 + 1, 0, none⟩ (.bool true) (fun h => by simp only at h; omega)
  have hr3 := (hr2.set 0 (.bool true)).cell 0 rfl
  go_wp2
  exact bodyPost_ret (v := .bool true) (by simp [results, Try.results3, go_sem, hr3]) rfl ⟨rfl, f2⟩
set_option maxHeartbeats 2000000 in
set_option maxRecDepth 100000 in
theorem ranges_ok (A : Option Addr) (cp : Nat) (ss : List ByteArray) (key : ByteArray) (lv : Int) (w : World) (hR : Rd w A (ss.map Value.string)) (hn : ss.length ≤ 300) :
    Calls Try.prog 3 #[.slice A ss.length cp, .string key, .int .i64 lv] w fun e w' => e = .returned (.bool true) ∧ Fr (fun _ => False) w w' := by
  obtain ⟨m, hm⟩ : ∃ m : Nat, m = 9 := ⟨_, rfl⟩
  clear hm
  refine (callsIn_wide (n := m)).1 ?_
  refine callsIn_of_wp_marks Try.func3 rfl trivial ?_ rfl
  simp only [Try.ntmps3, List.size_toArray, List.length_cons, List.length_nil, Nat.reduceAdd, Nat.reduceSub, Array.replicate_succ, Array.replicate_zero, List.push_toArray, List.append_toArray, List.nil_append, List.cons_append]
  have nd : Fence.wide.depth.isSome = true → 1 ≤ m := fun h => by simp [Fence.wide] at h
  have ND := Lib.hid nd
  clear nd
  have hk0 : Blk (w.alloc (.cells #[.string key] 9)) w.heap.size [.string key] 9 := Blk.at_new _ _ _ _ _ rfl rfl
  have hl0 : Blk ((w.alloc (.cells #[.string key] 9)).alloc (.cells #[.int .i64 lv] 3)) (w.heap.size + 1) [.int .i64 lv] 3 := Blk.at_new _ _ _ _ _ (by simp) rfl
  have hr0 : Blk (((w.alloc (.cells #[.string key] 9)).alloc (.cells #[.int .i64 lv] 3)).alloc (.cells #[.bool false] 4)) (w.heap.size + 1 + 1) [.bool false] 4 := Blk.at_new _ _ _ _ _ (by simp) rfl
  have f0 : Fr (fun _ => False) w (((w.alloc (.cells #[.string key] 9)).alloc (.cells #[.int .i64 lv] 3)).alloc (.cells #[.bool false] 4)) := (((Fr.refl _ w).alloc _).alloc _).alloc _
  gi_wp2_with (fail)
  refine ⟨trivial, ND.out, (callsIn_wide.2 (awake_any _)).mono ?_⟩
  rintro e w1 ⟨rfl, hf1⟩
  have hk1 := hf1.blk ((hk0.alloc (.cells #[.int .i64 lv] 3)).alloc (.cells #[.bool false] 4)) id
  have hl1 := hf1.blk (hl0.alloc (.cells #[.bool false] 4)) id
  have hr1 := hf1.blk hr0 id
  have f1 := f0.trans hf1 (fun _ _ h => h)
  clear hk0 hl0 hr0 f0 hf1
  have hm2 := Blk.at_new w1 [.pointer none] 26 w1.heap.size _ rfl rfl
  gi_upto_region 4 with (fail)
  have hl := hr1.lt
  have hI0 : MRI w key lv (w.heap.size + 1 + 1) w.heap.size (w.heap.size + 1) w1.heap.size none .nil (w1.alloc (.cells #[.pointer none] 26)) :=
    ⟨f1.alloc _, hr1.alloc _, hk1.alloc _, hl1.alloc _, hm2, rfl, by simp [Tr.toL, Srt], fun p hp => by simp [Tr.toL] at hp⟩
  simp only [List.toArray] at hI0
  generalize w1.alloc (.cells #[.pointer none] 26) = w2 at hI0 ⊢
  clear hk1 hl1 hr1 f1 hm2
  have hmB : w.heap.size + 1 + 1 < w1.heap.size := hl
  clear hl
  generalize w1.heap.size = mB at hI0 hmB ⊢
  gi_wp2_with (fail)
  gi_loopw [8] (fun i wr => ∃ (j : Nat) (q : Option Addr) (t : Tr ByteArray), i = .int .i64 j ∧ j ≤ ss.length ∧ MRI w key lv (w.heap.size + 1 + 1) w.heap.size (w.heap.size + 1) mB q t wr ∧ t.cnt ≤ j) (fun i _ => ss.length - (intOf i).toNat)
  case atStart => exact ⟨0, none, .nil, rfl, Nat.zero_le _, hI0, Nat.le_refl _⟩
  case round =>
    clear hI0
    obtain ⟨j, q, t, rfl, hj, hI, hct⟩ := hrel
    by_cases hjn : j < ss.length
    · have e0 : ss[j]? = some ss[j] := List.getElem?_eq_getElem hjn
      obtain ⟨ad, hA, c0⟩ := (hR.fr hI.fr (fun _ _ => id)).str e0
      subst hA
      generalize ss[j] = s0 at c0 e0
      have ij0 : (0 : Int) ≤ (j : Int) := by omega
      have ij1 : (j : Int) < (ss.length : Int) := by omega
      by_cases hz : s0.size ≤ 10000
      · have z0 : ¬ (10000 : Int) < (s0.size : Int) := by omega
        have m0 := hI.map.cell 0 rfl
        have mf := hI.map.free 0
        have ml := hI.map.lt
        gi_upto_region 9 with (fail)
        have hadd := run_bang s0 hz
        have CP := Lib.hid (mputS_any (W := wr.drew) (hI.is.new (Fr.refl _ _).drew) s0 (bang s0) (by omega))
        refine wpIn_mono ?_ NoPanic.imp
        gi_region_with ((refine ⟨trivial, ND.out, (callsIn_wide.2 CP.out).mono ?_⟩; rintro e W5 ⟨q5, rfl, hI5, hf5⟩; have m5 := (hf5.blk hI.map.drew id); have mc5 := m5.cell 0 rfl; have mf5 := m5.free 0; have ml5 := m5.lt))
        all_goals (
          refine NoPanic.normal ?_
          have hput := Tr.put_toL t s0 (bang s0) hI.srt
          have hcnt : (t.put s0 (bang s0)).cnt ≤ j + 1 := by
            have := (lput_len (l := t.toL) (k := s0) (v := bang s0)).2.1
            rw [Tr.cnt_len] at hct
            rw [Tr.cnt_len, hput]
            omega
          have hg := (Fr.refl (fun b => b = mB) W5).set1 0 (.pointer (some q5))
          have hI6 : MRI w key lv (w.heap.size + 1 + 1) w.heap.size (w.heap.size + 1) mB (some q5) (t.put s0 (bang s0)) (W5.setCell ⟨mB, 0, none⟩ (.pointer (some q5))) :=
            ⟨(hI.fr.drew.trans hf5 (fun _ _ h => h)).setCell _ _ (fun h => by simp only at h; omega), (hf5.blk hI.res.drew id).other (by simp; omega) _, (hf5.blk hI.key.drew id).other (by simp; omega) _, (hf5.blk hI.leave.drew id).other (by simp; omega) _, m5.set 0 _,
              hI5.fr hg (fun b cs hb => hb.ne m5 (by decide)), by rw [hput]; exact lput_srt hI.srt _ _, fun p hp => by
                rw [hput] at hp
                rcases lput_mem hp with rfl | hp
                · exact ⟨rfl, hz⟩
                · exact hI.bangs p hp⟩
          have H6 := Lib.hid (And.intro hI6 hcnt)
          clear hI6 hcnt hput hg hI5 hf5 m5 mc5 mf5 ml5 hI CP hadd c0 m0 mf ml
          gi_wp2
          go_roundw
          case rel => exact ⟨j + 1, some q5, _, by go_num, by omega, H6.out.1, H6.out.2⟩
          case measure => simp [intOf]; omega)
      · have z0 : (10000 : Int) < (s0.size : Int) := by omega
        have r0 := hI.res.cell 0 rfl
        have rf := hI.res.free 0
        have rl := hI.res.lt
        have hb := (hI.res.set 0 (.bool true)).cell 0 rfl
        have hf : Fr (fun _ => False) w (wr.setCell ⟨w.heap.size + 1 + 1, 0, none⟩ (.bool true)) := hI.fr.setCell _ _ (fun h => by simp only at h; omega)
        have Hf := Lib.hid hf
        clear hf hI
        gi_wp2
        exact ⟨.bool true, by simp [results, Try.results3, go_sem, hb], rfl, Hf.out⟩
    · obtain rfl : j = ss.length := by omega
      have m0 := hI.map.cell 0 rfl
      have k0 := hI.key.cell 0 rfl
      have hc9 : t.cnt ≤ 900000 := by omega
      have CW := Lib.hid (walkS_any hI.is key hI.srt hc9)
      gi_wp2_with (fail)
      refine ⟨trivial, ND.out, (callsIn_wide.2 CW.out).mono ?_⟩
      rintro e W1 ⟨wb, v, rfl, hwk, hf1, hwb, hvb⟩
      clear CW m0 k0
      gi_upto_region 13 with (fail)
      have f2 : Fr (fun _ => False) W1 (((W1.alloc (.cells #[.func (.func 23) #[] #[.pointer (some ⟨wb, 0, none⟩)]] 28)).alloc (.cells #[.int .i64 0] 3)).alloc (.cells #[.string ⟨#[]⟩] 9)) := (((Fr.refl _ W1).alloc _).alloc _).alloc _
      have b1 : Blk (((W1.alloc (.cells #[.func (.func 23) #[] #[.pointer (some ⟨wb, 0, none⟩)]] 28)).alloc (.cells #[.int .i64 0] 3)).alloc (.cells #[.string ⟨#[]⟩] 9)) W1.heap.size [.func (.func 23) #[] #[.pointer (some ⟨wb, 0, none⟩)]] 28 := ((Blk.at_new _ _ _ _ _ rfl rfl).alloc _).alloc _
      have b2 : Blk (((W1.alloc (.cells #[.func (.func 23) #[] #[.pointer (some ⟨wb, 0, none⟩)]] 28)).alloc (.cells #[.int .i64 0] 3)).alloc (.cells #[.string ⟨#[]⟩] 9)) (W1.heap.size + 1) [.int .i64 0] 3 := (Blk.at_new _ _ _ _ _ (by simp) rfl).alloc _
      have b3 : Blk (((W1.alloc (.cells #[.func (.func 23) #[] #[.pointer (some ⟨wb, 0, none⟩)]] 28)).alloc (.cells #[.int .i64 0] 3)).alloc (.cells #[.string ⟨#[]⟩] 9)) (W1.heap.size + 1 + 1) [.string ⟨#[]⟩] 9 := Blk.at_new _ _ _ _ _ (by simp) rfl
      have hfB : mB < W1.heap.size := (hf1.blk hI.map id).lt
      generalize ((W1.alloc (.cells #[.func (.func 23) #[] #[.pointer (some ⟨wb, 0, none⟩)]] 28)).alloc (.cells #[.int .i64 0] 3)).alloc (.cells #[.string ⟨#[]⟩] 9) = W2 at f2 b1 b2 b3 ⊢
      have f12 := hf1.trans f2 (fun _ _ h => h)
      have hbang : ∀ p ∈ lfrom t.toL key, (p.2 = bang p.1 ∧ p.1.size ≤ 10000) ∧ sLt p.1 key = false := fun p hp => ⟨hI.bangs p (List.mem_filter.1 hp).1, by simpa using (List.mem_filter.1 hp).2⟩
      have hsL : Srt (lfrom t.toL key) := hI.srt.filter _
      have hcL : (lfrom t.toL key).length ≤ t.cnt := by
        rw [Tr.cnt_len]
        exact List.length_filter_le _ _
      have hwk2 : WkS W2 wb v (lfrom t.toL key) := hwk.fr f2 id (fun _ _ => id) (fun _ _ _ => id)
      have hR2 : RI w key lv (w.heap.size + 1 + 1) w.heap.size (w.heap.size + 1) mB W1.heap.size (W1.heap.size + 1) (W1.heap.size + 1 + 1) wb q t (lfrom t.toL key) [] W2 :=
        ⟨hI.fr.trans f12 (fun _ _ h => h), f12.blk hI.res id, f12.blk hI.key id, f12.blk hI.leave id, f12.blk hI.map id, hI.is.new f12, b1, b2, b3, v, _, rfl, hwk2, fun k hk => by have := hvb k hk; have := hI.fr.size; omega⟩
      have hIs2 := hI.is.new f12
      have hsrt := hI.srt
      have hwbw : w.heap.size ≤ wb := by have := hI.fr.size; omega
      clear hI f2 b1 b2 b3 hwk hf1 hvb f12
      generalize W1.heap.size = fB at hR2 hfB ⊢
      have HIs := Lib.hid (And.intro hIs2 (And.intro hsrt (And.intro hwk2 (And.intro hbang (And.intro hsL hcL)))))
      clear hIs2 hsrt hwk2 hbang hsL hcL
      have m0 := hR2.map.cell 0 rfl
      have k0 := hR2.key.cell 0 rfl
      gi_wp2_with (fail)
      refine ⟨trivial, ND.out, (callsIn_wide.2 (from_any q key W2)).mono ?_⟩
      rintro e W3 ⟨mb, kb, rfl, hmb, hkb, hf3⟩
      have hR3 := hR2.keep hf3 (fun _ _ _ _ _ _ => id) id (fun _ _ _ _ => id) (fun _ _ => id)
      obtain ⟨hIs2, hsrt, hwk2, hbang, hsL, hcL⟩ := HIs.out
      have hwk3 : WkS W3 wb v (lfrom t.toL key) := hwk2.fr hf3 id (fun _ _ => id) (fun _ _ _ => id)
      obtain ⟨ps3, ts3, a3, r3, _⟩ := id hwk3
      have hit := fun l J Jx W => from_iter (m := m) wb W3.heap.size mb kb key W3 hmb hkb (hIs2.new hf3) hsrt hc9 a3 (fun g hg => r3.kind hg) (Nat.le_refl _) l J Jx W
      have hsz3 := hR3.fr.size
      have HC := Lib.hid (And.intro hbang (And.intro hsL hcL))
      clear HIs hIs2 hsrt hwk2 hbang hsL hcL hwk3 a3 r3 hmb hkb hR2 hf3 m0 k0
      generalize lfrom t.toL key = L at hR3 hit HC
      gi_wp2_with (fail)
      refine range_law2 (n := m) (gf := 24) (lb := #[.pointer (some ⟨mb, 0, none⟩), .pointer (some ⟨kb, 0, none⟩)]) rfl (enters_of Try.func24 (by kernel_rfl) rfl) (fun x : ByteArray × ByteArray => #[.string x.1, .string x.2]) (fun _ => rfl)
        (fun pre W => RI w key lv (w.heap.size + 1 + 1) w.heap.size (w.heap.size + 1) mB fB (fB + 1) (fB + 1 + 1) wb q t L pre W)
        (fun c pre W => c = .ret ∧ Fr (fun _ => False) w W ∧ Blk W (w.heap.size + 1 + 1) [.bool true] 4)
        (MGd L) (KpM wb) (fun _ _ _ h hf => h.turn hf hsz3) (fun _ _ _ _ h hf => ⟨h.1, h.2.1.turn hf hsz3, h.2.2.turn hf⟩) (fun _ _ _ _ h _ => h) KpM.trans (fun W W' h => KpM.turn W W' h)
        (KqM wb W3.heap.size) (fun _ _ _ h hk => h.kq hk hsz3) (fun A B k o hk hB ho hc => hk.keep k o ho (.inr (.inl hc)))
        (fun xs => xs = L) (fun _ => True) hit hR3 ?round ?done ?stop
      case round =>
        rintro l pre x W hI hG
        clear hit hR3
        gi_wp2
        refine ⟨Fr.refl _ _, ?_⟩
        intro W4 hf4
        have hI4 := hI.turn hf4 hsz3
        clear hI hf4
        obtain ⟨rest, hLe⟩ := hG
        obtain ⟨v4, rest4, hL4, hw4, ho4⟩ := hI4.wk
        obtain rfl : rest4 = x :: rest := List.append_cancel_left (hL4.symm.trans hLe)
        have hmem : x ∈ L := by rw [hLe]; simp
        obtain ⟨⟨hb2, hz2⟩, hk2⟩ := HC.out.1 x hmem
        have hpre : ∀ p ∈ pre, sLt p.1 x.1 = true := fun p hp => by
          have hs := HC.out.2.1
          rw [hLe] at hs
          exact (Srt.app hs).2.2 p hp x (by simp)
        have hlenL := HC.out.2.2
        have hln := congrArg List.length hLe
        simp only [List.length_append, List.length_cons] at hln
        have CN := Lib.hid (nextS_some hw4 (by omega))
        have HH := Lib.hid hLe
        have f0 := hI4.fn.cell 0 rfl
        obtain ⟨ps4, ts4, a4, r4, _⟩ := id hw4
        have nS : ∀ {g : Nat} {cs : List Value} {t : TypeId}, Blk W4 g cs t → t ≠ 61 → t ≠ 24 → ¬ (g = wb ∨ v4.ownBlock = some g) := by
          intro g cs t hb e1 e2 hh
          rcases hh with rfl | hh
          · exact e1 (hb.inj a4)
          · exact r4.ne hb (Ne.symm e2) hh
        obtain ⟨xk, xv⟩ := x
        simp only at hb2 hk2 hz2 hpre
        subst hb2
        have q3 : Op.bytesLess xk.toList key.toList = false := hk2
        have hadd := run_bang xk hz2
        have q4 : pre ≠ [] → Op.bytesLess xk.toList (lastK pre).toList = false ∧ (xk.toList == (lastK pre).toList) = false := by
          intro hne
          obtain ⟨p, hp⟩ : ∃ p, pre.getLast? = some p := ⟨_, List.getLast?_eq_some_getLast hne⟩
          have h1 := hpre p (List.mem_of_getLast? hp)
          unfold lastK
          rw [hp]
          exact sLt_after h1
        clear hL4 hLe hmem hpre hk2
        gi_wp2_with (fail)
        refine ⟨trivial, (fun h => by simp [Fence.wide] at h), (CallsIn.inRound l (callsIn_wide.2 CN.out)).mono ?_⟩
        rintro e W5 ⟨v5, rfl, hw5, hf5, hn5⟩
        have k5 := (hf5.blk hI4.key (nS hI4.key (by decide) (by decide)))
        have l5 := (hf5.blk hI4.leave (nS hI4.leave (by decide) (by decide)))
        have n5 := (hf5.blk hI4.num (nS hI4.num (by decide) (by decide)))
        have s5 := (hf5.blk hI4.last (nS hI4.last (by decide) (by decide)))
        have r5 := (hf5.blk hI4.res (nS hI4.res (by decide) (by decide)))
        have hf6 : Fr (fun k => k = wb ∨ v4.ownBlock = some k ∨ k = fB + 1 + 1 ∨ k = fB + 1) W4 ((W5.setCell ⟨fB + 1 + 1, 0, none⟩ (.string xk)).setCell ⟨fB + 1, 0, none⟩ (.int .i64 ((pre.length : Int) + 1))) :=
          ((hf5.mono (fun _ _ h => h.elim .inl (fun h => .inr (.inl h)))).setCell ⟨fB + 1 + 1, 0, none⟩ (.string xk) (fun _ => .inr (.inr (.inl rfl)))).setCell ⟨fB + 1, 0, none⟩ (.int .i64 ((pre.length : Int) + 1)) (fun _ => .inr (.inr (.inr rfl)))
        have hnew : ∀ k, v4.ownBlock = some k → w.heap.size ≤ k := ho4
        have d1 : fB + 1 + 1 ≠ fB + 1 := by omega
        have o5 : ∀ {g : Nat} {cs : List Value} {t : TypeId}, Blk W5 g cs t → g ≠ fB + 1 + 1 → g ≠ fB + 1 → Blk ((W5.setCell ⟨fB + 1 + 1, 0, none⟩ (.string xk)).setCell ⟨fB + 1, 0, none⟩ (.int .i64 ((pre.length : Int) + 1))) g cs t :=
          fun {_ _ _} hb h1 h2 => (hb.other (a := ⟨fB + 1 + 1, 0, none⟩) h1 _).other (a := ⟨fB + 1, 0, none⟩) h2 _
        have p5 := hf5.blk hI4.map (nS hI4.map (by decide) (by decide))
        have c5 := hf5.blk hI4.fn (nS hI4.fn (by decide) (by decide))
        have hs5 : Fr (fun k => k = fB + 1 + 1 ∨ k = fB + 1) W5 ((W5.setCell ⟨fB + 1 + 1, 0, none⟩ (.string xk)).setCell ⟨fB + 1, 0, none⟩ (.int .i64 ((pre.length : Int) + 1))) :=
          ((Fr.refl _ W5).setCell ⟨fB + 1 + 1, 0, none⟩ (.string xk) (fun _ => .inl rfl)).setCell ⟨fB + 1, 0, none⟩ (.int .i64 ((pre.length : Int) + 1)) (fun _ => .inr rfl)
        have i5 := hI4.is.fr hf5 (fun b cs hb => nS hb (by decide) (by decide))
        obtain ⟨ps5, ts5, a5, r5', _⟩ := id hw5
        have ns5 : ∀ {g : Nat} {cs : Array Value} {t : TypeId}, W5.heap[g]? = some (.cells cs t (0, 0)) → t ≠ 9 → t ≠ 3 → ¬ (g = fB + 1 + 1 ∨ g = fB + 1) := by
          intro g cs t hb e1 e2 hh
          rcases hh with rfl | rfl
          · exact kinds_ne hb s5.out e1 rfl
          · exact kinds_ne hb n5.out e2 rfl
        have hI6 : RI w key lv (w.heap.size + 1 + 1) w.heap.size (w.heap.size + 1) mB fB (fB + 1) (fB + 1 + 1) wb q t L (pre ++ [(xk, bang xk)]) ((W5.setCell ⟨fB + 1 + 1, 0, none⟩ (.string xk)).setCell ⟨fB + 1, 0, none⟩ (.int .i64 ((pre.length : Int) + 1))) := by
          refine ⟨(hI4.fr.trans hf5 (fun i hi h => ?_)).trans hs5 (fun i hi h => by omega), o5 r5 (by omega) (by omega), o5 k5 (by omega) (by omega), o5 l5 (by omega) (by omega), o5 p5 (by omega) (by omega), i5.fr hs5 (fun b cs hb => ns5 hb.out (by decide) (by decide)), o5 c5 (by omega) (by omega), ?_, ?_, v5, rest, by rw [HH.out]; simp, ?_, fun k hk => ?_⟩
          · rcases h with rfl | h
            · omega
            · have := ho4 i h; omega
          · have := (n5.other (a := ⟨fB + 1 + 1, 0, none⟩) (by simp) (.string xk)).set 0 (.int .i64 ((pre.length : Int) + 1))
            rw [List.length_append, List.length_singleton, Int.natCast_add]
            exact this
          · have := (s5.set 0 (.string xk)).other (a := ⟨fB + 1, 0, none⟩) (by simp) (.int .i64 ((pre.length : Int) + 1))
            have e : lastK (pre ++ [(xk, bang xk)]) = xk := by simp [lastK]
            rw [e]
            exact this
          · exact hw5.fr hs5 (ns5 a5.out (by decide) (by decide)) (fun k hk => by obtain ⟨cur, hc⟩ := r5'.kind hk; exact ns5 hc (by decide) (by decide)) (fun b cs hb => ns5 hb.out (by decide) (by decide))
          · rcases hn5 k hk with h | h
            · exact ho4 k h
            · have := hI4.fr.size; omega
        have hst : Stay W3.heap.size W4 ((W5.setCell ⟨fB + 1 + 1, 0, none⟩ (.string xk)).setCell ⟨fB + 1, 0, none⟩ (.int .i64 ((pre.length : Int) + 1))) := Stay.of_fr hf6 (fun k hk => by
          rcases hk with rfl | hk | rfl | rfl
          · exact ⟨_, _, _, a4.out⟩
          · obtain ⟨cur, hc⟩ := r4.kind hk; exact ⟨_, _, _, hc⟩
          · exact ⟨_, _, _, hI4.last.out⟩
          · exact ⟨_, _, _, hI4.num.out⟩)
        have hkp : KpM wb W4 ((W5.setCell ⟨fB + 1 + 1, 0, none⟩ (.string xk)).setCell ⟨fB + 1, 0, none⟩ (.int .i64 ((pre.length : Int) + 1))) :=
          KpM.of_fr hf6 a4 (hs5.blk a5 (ns5 a5.out (by decide) (by decide))) (fun g hg => by
            obtain ⟨cur, hc⟩ := r5'.kind hg
            exact ⟨cur, (hs5.block g (Array.getElem?_eq_some_iff.1 hc).1 (ns5 hc (by decide) (by decide))).trans hc⟩) (fun g hg => hn5 g hg) (fun k cs t hk hc ht => by
            rcases hk with rfl | hk | rfl | rfl
            · exact .inl rfl
            · exact .inr hk
            · exfalso
              rcases ht with rfl | rfl | rfl <;> exact kinds_ne hc hI4.last.out (by decide) rfl
            · exfalso
              rcases ht with rfl | rfl | rfl <;> exact kinds_ne hc hI4.num.out (by decide) rfl)
        have kk := k5.cell 0 rfl
        have kl := (o5 l5 (by omega) (by omega)).cell 0 rfl
        have kn := n5.cell 0 rfl
        have ks := s5.cell 0 rfl
        have ksf := s5.free 0
        have ksl := s5.lt
        have kn2 := (n5.other (a := ⟨fB + 1 + 1, 0, none⟩) (by simp) (.string xk)).cell 0 rfl
        have knf := (n5.other (a := ⟨fB + 1 + 1, 0, none⟩) (by simp) (.string xk)).free 0
        have knl := n5.lt
        have kn3 := hI6.num.cell 0 rfl
        have t1 : IntKind.i64.wrap ((pre.length : Int) + 1) = (pre.length : Int) + 1 := IntWalk.i64_in _ (by omega)
        have H6 := Lib.hid (And.intro hI6 (And.intro hst hkp))
        clear hI6 hst hkp hI4 hf5 hf6 hs5 i5 ns5 o5 a5 r5' hw5 hw4 a4 r4 nS CN k5 l5 n5 s5 r5 p5 c5 f0 hnew
        rw [List.length_append, List.length_singleton, Int.natCast_add] at kn3
        have hN0 : pre = [] → ¬ (0 : Int) < (pre.length : Int) := fun e => by rw [e]; simp
        have hN1 : pre ≠ [] → (0 : Int) < (pre.length : Int) := fun e => by have := List.length_pos_iff.2 e; omega
        have hxl : (pre ++ [(xk, bang xk)]).length = pre.length + 1 := by simp
        generalize (pre.length : Int) = N at kl kn kn2 knf kn3 t1 H6 hN0 hN1
        have kr := H6.out.1.res.cell 0 rfl
        have krf := H6.out.1.res.free 0
        have krl := H6.out.1.res.lt
        have HR := Lib.hid (And.intro ((Fr.refl (fun k => k = w.heap.size + 1 + 1) ((W5.setCell ⟨fB + 1 + 1, 0, none⟩ (.string xk)).setCell ⟨fB + 1, 0, none⟩ (.int .i64 (N + 1)))).set1 0 (.bool true)) (H6.out.1.res.set 0 (.bool true)))
        by_cases hp : pre = []
        · have hN := hN0 hp
          clear hN0 hN1 q4 hp
          by_cases hq : N + 1 = lv
          · subst hq
            gi_wp2
            exact ⟨H6.out.2.1.trans (Stay.of_fr HR.out.1 (fun k hk => by subst hk; exact ⟨_, _, _, H6.out.1.res.out⟩)), rfl, H6.out.1.fr.trans HR.out.1 (fun i hi h => by omega), HR.out.2⟩
          · gi_wp2
            exact ⟨H6.out.2.1, H6.out.2.2, H6.out.1⟩
        · obtain ⟨q5, q6⟩ := q4 hp
          have hN := hN1 hp
          clear hN0 hN1 q4 hp
          by_cases hq : N + 1 = lv
          · subst hq
            gi_wp2
            exact ⟨H6.out.2.1.trans (Stay.of_fr HR.out.1 (fun k hk => by subst hk; exact ⟨_, _, _, H6.out.1.res.out⟩)), rfl, H6.out.1.fr.trans HR.out.1 (fun i hi h => by omega), HR.out.2⟩
          · gi_wp2
            exact ⟨H6.out.2.1, H6.out.2.2, H6.out.1⟩
      case stop =>
        rintro D c pre W hD _ ⟨rfl, hf, hb⟩ hK
        clear hit hR3
        have hc := (hb.turn (turn_put (.deferred none) hD hK rfl)).cell 0 rfl
        have ht : Fr (Turn W3.heap.size W) W (W.putObj D (.deferred none)) := turn_put _ hD hK rfl
        have hfin := hf.turn ht hsz3
        have Hf := Lib.hid hfin
        clear hf hb ht hfin
        gi_wp2
        refine ⟨by simp, .inl ⟨_, _, rfl, run_takeDeferred hK, ?_⟩⟩
        exact ⟨.bool true, by simp [results, Try.results3, go_sem, hc], rfl, Hf.out⟩
      case done =>
        rintro D xs W hD rfl hI hK
        clear hit hR3
        obtain ⟨v6, rest6, hL6, hw6, ho6⟩ := hI.wk
        obtain rfl : rest6 = [] := List.append_cancel_left (hL6.symm.trans (List.append_nil xs).symm)
        have CN := Lib.hid (nextS_end hw6)
        have CL := Lib.hid (fun W' => mlenS_any (W := W') (t := t) (q := q))
        have f0 := hI.fn.cell 0 rfl
        have hlen := HC.out.2.2
        gi_wp2_with (fail)
        refine ⟨trivial, ND.out, (callsIn_wide.2 CN.out).mono ?_⟩
        rintro e W7 ⟨rfl, rfl⟩
        clear CN
        gi_upto_region 24 with (fail)
        have n0 := hI.num.drew.cell 0 rfl
        have m0 := hI.map.drew.cell 0 rfl
        have r0 := hI.res.drew
        have q0 : ((xs.length : Int) ≤ (t.cnt : Int)) := by omega
        have CM := Lib.hid (mlenS_any (W := W.drew) (hI.is.new (Fr.refl _ _).drew))
        have hfw := hI.fr.drew
        have hnum := hI.num.drew
        have hKd : W.drew.heap[D]? = some (.deferred (some [])) := hK
        clear CL f0 hL6 hw6 ho6
        refine wpIn_mono ?_ NoPanic.imp
        gi_region_with ((refine ⟨trivial, ND.out, (callsIn_wide.2 CM.out).mono ?_⟩; rintro e W8 ⟨rfl, hf8⟩; have r8 := hf8.blk r0 id; have rf8 := r8.free 0; have rl8 := r8.lt; have rc8 := r8.cell 0 rfl; have n8 := (hf8.blk hnum id).cell 0 rfl))
        all_goals (
          refine NoPanic.normal ?_
          have hK8 := (hf8.block D (Array.getElem?_eq_some_iff.1 hKd).1 id).trans hKd
          have hK' := (KeepsOthers.setCell W8 ⟨w.heap.size + 1 + 1, 0, none⟩ (.bool true)).same D _ hK8 rfl
          have g1 : Fr (fun _ => False) w (W8.setCell ⟨w.heap.size + 1 + 1, 0, none⟩ (.bool true)) := (hfw.trans hf8 (fun _ _ h => h)).setCell _ _ (fun h => by simp only at h; omega)
          have r9 := r8.set 0 (.bool true)
          gi_wp2
          generalize W8.setCell ⟨w.heap.size + 1 + 1, 0, none⟩ (.bool true) = W9 at hK' r9 g1 ⊢
          have ht : Fr (Turn W3.heap.size W9) W9 (W9.putObj D (.deferred none)) := turn_put _ hD hK' rfl
          have hc := (r9.turn ht).cell 0 rfl
          refine ⟨by simp, .inl ⟨_, _, rfl, run_takeDeferred hK', ?_⟩⟩
          exact ⟨.bool true, by simp [results, Try.results3, go_sem, hc], rfl, g1.turn ht hsz3⟩)
/-- MemRanges answers true, whatever it is given, and leaves what was there. -/
theorem ranges_any (A : Option Addr) (cp : Nat) (ss : List ByteArray) (key : ByteArray) (lv : Int) (w : World) (hR : Rd w A (ss.map Value.string)) :
    Calls Try.prog 3 #[.slice A ss.length cp, .string key, .int .i64 lv] w fun e w' => e = .returned (.bool true) ∧ Fr (fun _ => False) w w' := by
  by_cases hn : ss.length ≤ 300
  · exact ranges_ok A cp ss key lv w hR hn
  · exact ranges_long A ss.length cp key lv w (by omega)
end Go.Proofs.Ytkodepdbnkghfaa
