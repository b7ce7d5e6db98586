/- The law MemHigh, walked. Conditions: those of the lemmas. -/
import Derived.Test.YtkodepdbnkghfaaAwake
import Derived.Test.YtkodepdbnkghfaaStr
import Derived.Deep.RegionLaw
namespace Go.Proofs.Ytkodepdbnkghfaa
open Go.RowKit
attribute [local go_sem ↓] Go.wp_at_zero Go.wp_at_succ
theorem put_pos (t : Tr Int) (k : ByteArray) (v : Int) (hs : Srt t.toL) : 1 ≤ (t.put k v).ht := by
  have h1 := Tr.put_toL t k v hs
  have h2 := (lput_len (l := t.toL) (k := k) (v := v)).2.2
  rw [← h1, ← Tr.cnt_len] at h2
  cases hz : (t.put k v).ht with
  | zero =>
    rw [Tr.ht_zero _ hz] at h2
    simp [Tr.cnt] at h2
  | succ m => omega
theorem ht_cnt_zero (t : Tr Int) : ((t.ht : Int) == 0) = ((t.cnt : Int) == 0) := by
  cases t with
  | nil => rfl
  | node l k v r =>
    have h1 : (Tr.node l k v r).ht = 1 + max l.ht r.ht := rfl
    have h2 : (Tr.node l k v r).cnt = 1 + l.cnt + r.cnt := rfl
    rw [h1, h2]
    have h3 : ((((1 + max l.ht r.ht : Nat) : Int)) == 0) = false := by rw [beq_eq_false_iff_ne]; omega
    have h4 : ((((1 + l.cnt + r.cnt : Nat) : Int)) == 0) = false := by rw [beq_eq_false_iff_ne]; omega
    rw [h3, h4]
theorem wo_srt2 {t : Tr Int} (hs : Srt t.toL) (k : ByteArray) : Srt (t.wo k).toL := by
  unfold Tr.wo
  split
  · rw [Tr.wo_toL t k hs]; exact lwo_srt hs k
  · exact hs
theorem wo_avl2 {t : Tr Int} (h : t.Avl) (k : ByteArray) : (t.wo k).Avl := by
  unfold Tr.wo
  split
  · exact (Tr.wo_avl t k h).1
  · exact h
theorem wo_cnt2 (t : Tr Int) (k : ByteArray) : (t.wo k).cnt ≤ t.cnt := by
  unfold Tr.wo
  split
  · exact Tr.wo_cnt t k
  · exact Nat.le_refl _
structure HI (W wr : World) (mb : Nat) (q : Option Addr) (t : Tr Int) : Prop where
  fr : Fr (fun _ => False) W wr
  var : Blk wr mb [.pointer q] 40
  is : IsI wr q t
  srt : Srt t.toL
  avl : t.Avl
set_option maxHeartbeats 4000000 in
set_option maxRecDepth 100000 in
theorem high_any {W : World} (n st aw : Int) (hn : 0 ≤ n ∧ n ≤ 65535) (hst : 0 ≤ st ∧ st ≤ 65535) (haw : 0 ≤ aw ∧ aw ≤ 255) :
    Calls Try.prog 6 #[.int .u16 n, .int .u16 st, .int .u8 aw] W fun e w' => e = .returned (.bool true) ∧ Fr (fun _ => False) W w' := by
  go_enter Try.func6, Try.ntmps6
  go_wp2_with fail
  refine (awake_any _).mono ?_
  rintro e w1 ⟨rfl, hf1⟩
  have hm0 : Blk (w1.alloc (.cells #[.pointer none] 40)) w1.heap.size [.pointer none] 40 := Blk.at_new _ _ _ _ _ rfl rfl
  have f0 := hf1.alloc (.cells #[.pointer none] 40)
  have hmB : W.heap.size ≤ w1.heap.size := hf1.size
  obtain ⟨sz, hsz⟩ : ∃ sz : Nat, n % 600 = (sz : Int) := ⟨(n % 600).toNat, by omega⟩
  have hs6 : sz < 600 := by omega
  have Hsz := Lib.hid hsz
  clear hsz
  go_upto_region 5 with fail
  generalize w1.alloc (.cells #[.pointer none] 40) = w2 at hm0 f0 ⊢
  generalize w1.heap.size = mb at hm0 hmB ⊢
  clear hf1
  go_wp2_with fail
  rw [Hsz.out]
  clear hn
  go_loopw [9] (fun i wr => ∃ (j : Nat) (q : Option Addr) (t : Tr Int), i = .int .i64 j ∧ j ≤ sz ∧ HI W wr mb q t ∧ t.cnt ≤ j) (fun i _ => sz - (intOf i).toNat)
  case atStart => exact ⟨0, none, .nil, rfl, Nat.zero_le _, ⟨f0, hm0, rfl, List.Pairwise.nil, trivial⟩, Nat.le_refl _⟩
  case round =>
    clear hm0 f0
    obtain ⟨j, q, t, rfl, hj, hI, hc⟩ := hrel
    by_cases hjs : j < sz
    · have p0 : 0 ≤ (j : Int) * st := Int.mul_nonneg (by omega) hst.1
      have p1 : (j : Int) * st ≤ 600 * 65535 := Int.mul_le_mul (by omega) hst.2 hst.1 (by omega)
      have k0 := hI.var.cell 0 rfl
      have kf := hI.var.free 0
      go_upto_region 9 with fail
      generalize hx : (j : Int) * st = x at p0 p1 ⊢
      clear hx
      generalize hk : x % 60000 = k
      have k1 : 0 ≤ k ∧ k < 60000 := by omega
      clear hk p0 p1
      have hconv := run_str (P := Try.prog) (wr.alloc (.cells #[.int .u8 (k / 250), .int .u8 (k % 250)] 5)) 54 5 9 Try.underlying54 Try.underlying5 Try.underlying9 (some ⟨wr.heap.size, 0, none⟩) 2 2 [k / 250, k % 250] rfl (Rd.at_new _ _ _ _ _ rfl)
      generalize strOfNums [k / 250, k % 250] = key at hconv
      have f3 : Fr (fun _ => False) wr (wr.alloc (.cells #[.int .u8 (k / 250), .int .u8 (k % 250)] 5)) := (Fr.refl _ wr).alloc _
      have hput := mputI_any (hI.is.new f3) key (j : Int) (by omega)
      have hv3 := hI.var.alloc (.cells #[.int .u8 (k / 250), .int .u8 (k % 250)] 5)
      have hav := (Tr.put_avl t key (j : Int) hI.avl).1
      have hsr : Srt (t.put key (j : Int)).toL := by rw [Tr.put_toL t _ _ hI.srt]; exact lput_srt hI.srt _ _
      have hps := put_pos t key (j : Int) hI.srt
      have hcn := Tr.put_cnt t key (j : Int)
      have hhi := high_le hav (by omega)
      generalize t.put key (j : Int) = t' at hput hav hsr hps hcn hhi
      have A := Lib.hid (And.intro hav (And.intro hsr (And.intro hput (And.intro hI.fr (And.intro f3 hv3)))))
      clear hav hsr hput hI f3 hv3
      go_wp2_with fail
      obtain ⟨hav, hsr, hput, hfr, f3, hv3⟩ := A.out
      refine hput.mono ?_
      rintro e w4 ⟨q4, rfl, hI4, hf4⟩
      have hv4 := hf4.blk hv3 id
      have k4 := hv4.cell 0 rfl
      have k4f := hv4.free 0
      have f4 := (hfr.trans f3 (fun _ _ h => h)).trans hf4 (fun _ _ h => h)
      have g4 : Fr (fun i => i = mb) w4 (w4.setCell ⟨mb, 0, none⟩ (.pointer (some q4))) := (Fr.refl _ w4).set1 _ _
      have hv5 := hv4.set 0 (.pointer (some q4))
      simp only [List.set_cons_zero] at hv5
      have hI5 : HI W (w4.setCell ⟨mb, 0, none⟩ (.pointer (some q4))) mb (some q4) t' := ⟨f4.trans g4 (fun i hi hh => by omega), hv5, hI4.fr g4 (fun b cs hb => hb.ne hv4 (by decide)), hsr, hav⟩
      have k5 := hv5.cell 0 rfl
      clear A hput hav hsr hfr f3 hv3 hf4 hv4 f4 g4 hI4 hv5 hconv k0 kf
      go_upto_region 10 with fail
      generalize w4.setCell ⟨mb, 0, none⟩ (.pointer (some q4)) = w5 at hI5 k5 ⊢
      clear k4 k4f
      have d5 : Fr (fun _ => False) w5 w5.drew := (Fr.refl _ w5).drew
      have HI := Lib.hid hI5
      have v5 := hI5.var.drew
      have gd : decide (highOf t'.cnt < t'.ht) = false := decide_eq_false (by omega)
      have gd2 : decide ((t'.ht : Int) < 1) = false := decide_eq_false (by omega)
      clear hI5 k5
      go_region_held3 (fun w' => w'.cell? ⟨mb, 0, none⟩ = some (.pointer (some q4)))
        (first | exact v5.cell 0 rfl | exact (hf6.blk v5 id).cell 0 rfl | exact ((d6.trans hf7 (fun _ _ h => h)).blk HI.out.var id).cell 0 rfl | exact ((d7.trans hf9 (fun _ _ h => h)).blk HI.out.var id).cell 0 rfl)
        (first
          | (go_at_call 19; refine (mhigh_any (HI.out.is.new d7)).mono ?_; rintro e w9 ⟨rfl, hf9⟩; have d9 := d7.trans hf9 (fun _ _ h => h))
          | (go_at_call 19; refine (mhigh_any (HI.out.is.new d5)).mono ?_; rintro e w6 ⟨rfl, hf6⟩; have d6 := d5.trans hf6 (fun _ _ h => h))
          | (go_at_call 16; refine (mlenI_any (HI.out.is.new d6)).mono ?_; rintro e w7 ⟨rfl, hf7⟩; have d7 := d6.trans hf7 (fun _ _ h => h))
          | (go_at_call 20; refine (rhigh_any t'.cnt (by omega) _).mono ?_; rintro e w8 ⟨rfl, rfl⟩))
      go_wp2
      go_roundw
      case rel => exact ⟨j + 1, some q4, t', by go_num, by omega, ⟨HI.out.fr.trans d9 (fun _ _ h => h), d9.blk HI.out.var id, HI.out.is.new d9, HI.out.srt, HI.out.avl⟩, by omega⟩
      case measure => simp [intOf]; omega
    · obtain rfl : j = sz := by omega
      have hcS : t.cnt ≤ 600 := by omega
      go_wp2_with fail
      go_loopw [11] (fun i wr => ∃ (m : Nat) (q : Option Addr) (t : Tr Int), i = .int .i64 m ∧ m ≤ j ∧ HI W wr mb q t ∧ t.cnt ≤ 600) (fun i _ => j - (intOf i).toNat)
      case atStart => exact ⟨0, q, t, rfl, Nat.zero_le _, hI, hcS⟩
      case round =>
        clear hI hc hcS
        obtain ⟨m, q, t, rfl, hm, hI, hc⟩ := hrel
        by_cases hms : m < j
        · have p0 : 0 ≤ (m : Int) * (1 + aw) := Int.mul_nonneg (by omega) (by omega)
          have p1 : (m : Int) * (1 + aw) ≤ 600 * 256 := Int.mul_le_mul (by omega) (by omega) (by omega) (by omega)
          have k0 := hI.var.cell 0 rfl
          have kf := hI.var.free 0
          go_upto_region 16 with fail
          generalize hx : (m : Int) * (1 + aw) = x at p0 p1 ⊢
          clear hx
          generalize hk : x % 60000 = k
          have k1 : 0 ≤ k ∧ k < 60000 := by omega
          clear hk p0 p1
          have hconv := run_str (P := Try.prog) (wr.alloc (.cells #[.int .u8 (k / 250), .int .u8 (k % 250)] 5)) 54 5 9 Try.underlying54 Try.underlying5 Try.underlying9 (some ⟨wr.heap.size, 0, none⟩) 2 2 [k / 250, k % 250] rfl (Rd.at_new _ _ _ _ _ rfl)
          generalize strOfNums [k / 250, k % 250] = key at hconv
          have f3 : Fr (fun _ => False) wr (wr.alloc (.cells #[.int .u8 (k / 250), .int .u8 (k % 250)] 5)) := (Fr.refl _ wr).alloc _
          have hput := mwithout_any (hI.is.new f3) key (by omega)
          have hv3 := hI.var.alloc (.cells #[.int .u8 (k / 250), .int .u8 (k % 250)] 5)
          have hav := wo_avl2 hI.avl key
          have hsr := wo_srt2 hI.srt key
          have hcn := wo_cnt2 t key
          have hhi := high_le hav (by omega)
          have hze := ht_cnt_zero (t.wo key)
          generalize t.wo key = t' at hput hav hsr hcn hhi hze
          have A := Lib.hid (And.intro hav (And.intro hsr (And.intro hput (And.intro hI.fr (And.intro f3 (And.intro hv3 hze))))))
          clear hav hsr hput hI f3 hv3 hze
          go_wp2_with fail
          obtain ⟨hav, hsr, hput, hfr, f3, hv3, _⟩ := A.out
          refine hput.mono ?_
          rintro e w4 ⟨q4, rfl, hI4, hf4⟩
          have hv4 := hf4.blk hv3 id
          have k4 := hv4.cell 0 rfl
          have k4f := hv4.free 0
          have f4 := (hfr.trans f3 (fun _ _ h => h)).trans hf4 (fun _ _ h => h)
          have g4 : Fr (fun i => i = mb) w4 (w4.setCell ⟨mb, 0, none⟩ (.pointer q4)) := (Fr.refl _ w4).set1 _ _
          have hv5 := hv4.set 0 (.pointer q4)
          simp only [List.set_cons_zero] at hv5
          have hI5 : HI W (w4.setCell ⟨mb, 0, none⟩ (.pointer q4)) mb q4 t' := ⟨f4.trans g4 (fun i hi hh => by omega), hv5, hI4.fr g4 (fun b cs hb => hb.ne hv4 (by decide)), hsr, hav⟩
          have k5 := hv5.cell 0 rfl
          have AZ := Lib.hid A.out.2.2.2.2.2.2
          clear A hput hav hsr hfr f3 hv3 hf4 hv4 f4 g4 hI4 hv5 hconv k0 kf
          go_upto_region 17 with fail
          generalize w4.setCell ⟨mb, 0, none⟩ (.pointer q4) = w5 at hI5 k5 ⊢
          clear k4 k4f
          have d5 : Fr (fun _ => False) w5 w5.drew := (Fr.refl _ w5).drew
          have HI := Lib.hid hI5
          have v5 := hI5.var.drew
          have gd : decide (highOf t'.cnt < t'.ht) = false := decide_eq_false (by omega)
          have gz := AZ.out
          have gz2 : (((t'.cnt : Int) == 0) != ((t'.cnt : Int) == 0)) = false := by simp
          clear hI5 k5
          go_region_held3 (fun w' => w'.cell? ⟨mb, 0, none⟩ = some (.pointer q4))
            (first | exact v5.cell 0 rfl | exact (hf6.blk v5 id).cell 0 rfl | exact ((d6.trans hf7 (fun _ _ h => h)).blk HI.out.var id).cell 0 rfl | exact ((d7.trans hf9 (fun _ _ h => h)).blk HI.out.var id).cell 0 rfl | exact ((d9.trans hf10 (fun _ _ h => h)).blk HI.out.var id).cell 0 rfl)
            (first
              | (go_at_call 16; refine (mlenI_any (HI.out.is.new d9)).mono ?_; rintro e w10 ⟨rfl, hf10⟩; have d10 := d9.trans hf10 (fun _ _ h => h))
              | (go_at_call 19; refine (mhigh_any (HI.out.is.new d7)).mono ?_; rintro e w9 ⟨rfl, hf9⟩; have d9 := d7.trans hf9 (fun _ _ h => h))
              | (go_at_call 19; refine (mhigh_any (HI.out.is.new d5)).mono ?_; rintro e w6 ⟨rfl, hf6⟩; have d6 := d5.trans hf6 (fun _ _ h => h))
              | (go_at_call 16; refine (mlenI_any (HI.out.is.new d6)).mono ?_; rintro e w7 ⟨rfl, hf7⟩; have d7 := d6.trans hf7 (fun _ _ h => h))
              | (go_at_call 20; refine (rhigh_any t'.cnt (by omega) _).mono ?_; rintro e w8 ⟨rfl, rfl⟩))
          go_wp2
          go_roundw
          case rel => exact ⟨m + 1, q4, t', by go_num, by omega, ⟨HI.out.fr.trans d10 (fun _ _ h => h), d10.blk HI.out.var id, HI.out.is.new d10, HI.out.srt, HI.out.avl⟩, by omega⟩
          case measure => simp [intOf]; omega
        · go_wp2
          go_ret
          exact ⟨rfl, hI.fr⟩
end Go.Proofs.Ytkodepdbnkghfaa
