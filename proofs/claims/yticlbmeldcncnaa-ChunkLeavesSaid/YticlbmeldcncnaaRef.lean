/- The reference's Sum and Cut, SameInts, ends: what they answer. Conditions: those that each lemma names. -/
import Derived.Test.YticlbmeldcncnaaAddPre
namespace Go.Proofs.Yticlbmeldcncnaa
open Go.RowKit Ch
/-- The numbers of a string's bytes. -/
def bsOf (s : ByteArray) : List Int := s.data.toList.map fun b => (b.toNat : Int)
theorem bsOf_len (s : ByteArray) : (bsOf s).length = s.size := by unfold bsOf; rw [List.length_map]; rfl
theorem bsOf_range (s : ByteArray) : ∀ x ∈ bsOf s, 0 ≤ x ∧ x ≤ 255 := by
  intro x hx
  simp only [bsOf, List.mem_map] at hx
  obtain ⟨b, _, rfl⟩ := hx
  have := b.toNat_lt
  omega
theorem bsOf_at (s : ByteArray) (m : Nat) (h : m < s.size) : (bsOf s)[m]? = some ((s[m]'h).toNat : Int) := by
  have h' : m < s.data.toList.length := h
  simp only [bsOf, List.getElem?_map, List.getElem?_eq_getElem h', Option.map_some]
  rfl
/-- The part of the window ahead of place i. -/
def part (bs : List Int) (at_ : Nat) (i : Int) : List Int := (bs.take i.toNat).drop (at_ - 15)
theorem part_neg (bs : List Int) (a : Nat) (i : Int) (h : i < 0) : part bs a (i + 1) = part bs a i := by
  unfold part
  rw [show (i + 1).toNat = i.toNat by omega]
theorem part_step (bs : List Int) (a m : Nat) (b : Int) (hb : bs[m]? = some b) (h : a ≤ m + 15) : part bs a ((m : Int) + 1) = part bs a m ++ [b] := by
  unfold part
  have hl : m < bs.length := (List.getElem?_eq_some_iff.1 hb).1
  rw [show ((m : Int) + 1).toNat = m + 1 by omega, Int.toNat_natCast, List.take_add_one, hb, List.drop_append_of_le_length (by rw [List.length_take]; omega)]
  rfl
theorem part_end (bs : List Int) (a : Nat) (h : a < bs.length) : wsum (part bs a ((a : Int) + 1)) % 4294967296 = hs (bs.take (a + 1)) := by
  unfold part hs win
  rw [show ((a : Int) + 1).toNat = a + 1 by omega, List.length_take, show min (a + 1) bs.length - 16 = a - 15 by omega]
set_option maxHeartbeats 400000 in
theorem sum_any (s : ByteArray) (a : Nat) (w : World) (h : a < s.size) (hz : s.size ≤ 1000000) :
    Calls Try.prog 20 #[.string s, .int .i64 a] w fun e w' => e = .returned (.int .i64 (hs ((bsOf s).take (a + 1)))) ∧ w = w' := by
  go_enter Try.func20, Try.ntmps20
  go_wp2
  go_loop [5, 6] (fun x i => ∃ j : Int, (a : Int) - 15 ≤ j ∧ j ≤ a + 1 ∧ i = .int .i64 j ∧ x = .int .i64 (wsum (part (bsOf s) a j) % 4294967296)) (fun _ i => ((a : Int) + 1 - intOf i).toNat)
  case atStart =>
    refine ⟨(a : Int) - 15, by omega, by omega, rfl, ?_⟩
    unfold part
    rw [List.drop_of_length_le (by rw [List.length_take]; omega)]
    rfl
  case round =>
    obtain ⟨j, hj0, hj1, rfl, rfl⟩ := hrel
    by_cases hlt : j ≤ a
    · by_cases hn : 0 ≤ j
      · obtain ⟨m, rfl⟩ := Int.eq_ofNat_of_zero_le hn
        have hm : m < s.size := by omega
        have hsm : Hid (wsum (part (bsOf s) a ((m : Int) + 1)) = wsum (part (bsOf s) a m) * 31 + ((s[m]'hm).toNat : Int) + 1) := by
          rw [part_step _ _ _ _ (bsOf_at s m hm) (by omega), wsum_snoc]; rfl
        have hb := (s[m]'hm).toNat_lt
        generalize wsum (part (bsOf s) a m) = T at hsm ⊢
        have hR : Hid ((T * 31 + ((s[m]'hm).toNat : Int) + 1) % 4294967296 = (T % 4294967296 * 31 + ((s[m]'hm).toNat : Int) + 1) % 4294967296) := by unfold Hid; omega
        have r0 : 0 ≤ T % 4294967296 := by omega
        have r1 : T % 4294967296 < 4294967296 := by omega
        generalize T % 4294967296 = R at r0 r1 hR ⊢
        go_wp2
        go_round
        case rel => exact ⟨(m : Int) + 1, by omega, by omega, rfl, by rw [hsm.out, hR.out]⟩
        case measure => simp [intOf]; omega
      · go_wp2
        go_round
        case rel => exact ⟨j + 1, by omega, by omega, rfl, by rw [part_neg _ _ _ (by omega)]⟩
        case measure => simp [intOf]; omega
    · obtain rfl : j = (a : Int) + 1 := by omega
      go_wp2
      go_ret
      exact ⟨ret_int (part_end _ _ (by rw [bsOf_len]; exact h)), rfl⟩
theorem lens_snoc (out : List (List Int)) (o : List Int) : i64s ((out ++ [o]).map fun l => (l.length : Int)) = i64s (out.map fun l => (l.length : Int)) ++ [.int .i64 o.length] := by simp [i64s]
/-- Cut's answer: the chunks' lengths, what is left at the end. -/
def St.lens (s : St) : List Int := (s.out.map fun l => (l.length : Int)) ++ (if 0 < s.o.length then [(s.o.length : Int)] else [])
set_option maxHeartbeats 1000000 in
set_option maxRecDepth 100000 in
theorem rcut_any (c0 c1 c2 c3 c4 c5 c6 c7 c8 c9 c10 c11 : Int) (s : ByteArray) (w : World) (hz : s.size ≤ 1000000) (h1 : 1 ≤ c8) (h2 : 1 ≤ c9) (h3 : c9 ≤ 65536) (h4 : c8 ≤ c10) (h5 : c10 ≤ 4096) :
    Calls Try.prog 13 #[.agg #[.int .i64 c0, .int .i64 c1, .int .i64 c2, .int .i64 c3, .int .i64 c4, .int .i64 c5, .int .i64 c6, .int .i64 c7, .int .i64 c8, .int .i64 c9, .int .i64 c10, .int .i64 c11], .string s] w fun e w' => ∃ v, e = .returned v ∧ Row w' 3 v (i64s (St.lens (St.run ⟨c8, c9, c10⟩ ⟨[], [], []⟩ (bsOf s)))) ∧ Fr (fun _ => False) w w' ∧ (∀ g, v.ownBlock = some g → w.heap.size ≤ g) := by
  have hB0 := Blk.new w (i64s [c0, c1, c2, c3, c4, c5, c6, c7, c8, c9, c10, c11]) 23
  have hF0 : Fr (fun _ => False) w (w.alloc (.cells (i64s [c0, c1, c2, c3, c4, c5, c6, c7, c8, c9, c10, c11]).toArray 23)) := (Fr.refl _ w).alloc _
  go_enter Try.func13, Try.ntmps13
  go_wp2
  go_loopw [5, 6, 7] (fun v n i wr => ∃ k : Nat, k ≤ s.size ∧ i = .int .i64 k ∧ n = .int .i64 (St.run ⟨c8, c9, c10⟩ ⟨[], [], []⟩ ((bsOf s).take k)).o.length ∧
      Row wr 3 v (i64s ((St.run ⟨c8, c9, c10⟩ ⟨[], [], []⟩ ((bsOf s).take k)).out.map fun l => (l.length : Int))) ∧ Fr (fun _ => False) w wr ∧ Blk wr w.heap.size (i64s [c0, c1, c2, c3, c4, c5, c6, c7, c8, c9, c10, c11]) 23 ∧ (∀ g, v.ownBlock = some g → w.heap.size < g))
    (fun _ _ i _ => s.size - (intOf i).toNat)
  case atStart => exact ⟨0, Nat.zero_le _, rfl, rfl, Row.nil _ _, hF0, hB0, fun g hg => by simp [Value.ownBlock] at hg⟩
  case round =>
    obtain ⟨k, hk, rfl, rfl, hR, hF, hB, hN⟩ := hrel
    by_cases hlt : k < s.size
    · have hb := bsOf_at s k hlt
      obtain ⟨b, hbb⟩ : ∃ b : Int, ((s[k]'hlt).toNat : Int) = b := ⟨_, rfl⟩
      rw [hbb] at hb
      clear hbb
      obtain ⟨st, hs⟩ : ∃ st, st = St.run ⟨c8, c9, c10⟩ ⟨[], [], []⟩ ((bsOf s).take k) := ⟨_, rfl⟩
      rw [← hs] at hR ⊢
      have hst : Hid (St.run ⟨c8, c9, c10⟩ ⟨[], [], []⟩ ((bsOf s).take (k + 1)) = St.step ⟨c8, c9, c10⟩ st b) := by
        unfold Hid
        rw [List.take_add_one, hb, hs]
        exact St.run_snoc _ _ _ _
      have hhh : Hid (st.h ++ [b] = (bsOf s).take (k + 1)) := by
        unfold Hid
        rw [List.take_add_one, hb, hs, St.run_h]
        rfl
      have hso : st.o.length ≤ 1000000 := by
        have := St.run_o ⟨c8, c9, c10⟩ ((bsOf s).take k) ⟨[], [], []⟩
        rw [← hs, List.length_take] at this
        simp only [List.length_nil] at this
        omega
      have hsl : (i64s (st.out.map fun l => (l.length : Int))).length ≤ 1000000 := by
        have := St.run_out ⟨c8, c9, c10⟩ ((bsOf s).take k) ⟨[], [], []⟩
        rw [← hs, List.length_take] at this
        simp only [List.length_nil] at this
        simp only [i64s, List.length_map]
        omega
      have Hs := Lib.hid hs
      clear hs hb
      have k8 : wr.cell? ⟨w.heap.size, 8, none⟩ = some (.int .i64 c8) := hB.cell 8 rfl
      have k9 : wr.cell? ⟨w.heap.size, 9, none⟩ = some (.int .i64 c9) := hB.cell 9 rfl
      have k10 : wr.cell? ⟨w.heap.size, 10, none⟩ = some (.int .i64 c10) := hB.cell 10 rfl
      have hsum : ∀ W : World, Hid (Calls Try.prog 20 #[.string s, .int .i64 k] W fun e w' => e = .returned (.int .i64 (hs (st.h ++ [b]))) ∧ W = w') := by
        intro W
        rw [hhh.out]
        exact sum_any s k W hlt hz
      obtain ⟨hs0, hs1⟩ := hs_range (st.h ++ [b])
      have hendd : ends ⟨c8, c9, c10⟩ (st.o.length + 1) (st.h ++ [b]) = (decide (((st.o.length : Int) + 1) = c10) || (decide (c8 ≤ (st.o.length : Int) + 1) && decide (hs (st.h ++ [b]) % c9 = c9 - 1))) := rfl
      generalize hs (st.h ++ [b]) = S at hs0 hs1 hsum hendd
      have Hend := Lib.hid hendd
      clear hendd
      go_upto_region 7 with (fail)
      go_cut [37] (fun t W => t = .bool (ends ⟨c8, c9, c10⟩ (st.o.length + 1) (st.h ++ [b])) ∧ ∃ q, W = wr.drewN q)
      case first =>
        by_cases e1 : (st.o.length : Int) + 1 = c10
        · have e1' : (((st.o.length : Int) + 1) == c10) = true := by simpa using e1
          go_quiet (fail)
          go_wp2
          go_meet
          case rel => exact ⟨congrArg Value.bool (by rw [Hend.out]; simp [e1]), _, rfl⟩
        · have e1' : (((st.o.length : Int) + 1) == c10) = false := by simpa using e1
          by_cases e2 : c8 ≤ (st.o.length : Int) + 1
          · have e2' : decide (c8 ≤ (st.o.length : Int) + 1) = true := by simpa using e2
            go_quiet ((go_at_call 20; exact quiet_left (hsum _).out))
            go_wp2
            go_meet
            case rel =>
              refine ⟨congrArg Value.bool ?_, _, rfl⟩
              rw [Hend.out]
              simp [e1, show c8 ≤ (st.o.length : Int) + 1 by omega]
              rfl
          · have e2' : decide (c8 ≤ (st.o.length : Int) + 1) = false := by simpa using e2
            go_quiet (fail)
            go_wp2
            go_meet
            case rel => exact ⟨congrArg Value.bool (by rw [Hend.out]; simp [e1]; intro hh; omega), _, rfl⟩
      case rest =>
        obtain ⟨ht, q, rfl⟩ := hcut
        have hR4 : Row (wr.drewN q) 3 u5 (i64s (st.out.map fun l => (l.length : Int))) := hR
        have hF4 : Fr (fun _ => False) w (wr.drewN q) := hF.drewN q
        have hB4 : Blk (wr.drewN q) w.heap.size (i64s [c0, c1, c2, c3, c4, c5, c6, c7, c8, c9, c10, c11]) 23 := hB
        have hl4 : w.heap.size < (wr.drewN q).heap.size := hB4.lt
        clear hR hF hB k8 k9 k10 hs0 hs1 hsum
        generalize wr.drewN q = w4 at hR4 hF4 hB4 hl4 ⊢
        by_cases hE : ends ⟨c8, c9, c10⟩ (st.o.length + 1) (st.h ++ [b]) = true
        · rw [hE] at ht
          subst ht
          go_wp2_with (at_builtin; go_must (refine app1 rfl _ _ 26 3 (.int .i64 0) 8 rfl Try.underlying26 info3 rfl (by decide) u5 (i64s (st.out.map fun l => (l.length : Int))) (.int .i64 ((st.o.length : Int) + 1)) rfl rfl rfl hR4 (by omega) ?_); intro g c3 w5 hR5 hor5 hf5 _)
          go_roundw
          case rel =>
            refine ⟨k + 1, by omega, by go_num, ?_, ?_, hF4.trans hf5 (fun q _ h => by have := hN q h; omega), hf5.blk hB4 (fun h => by have := hN _ h; omega), ?_⟩
            · rw [hst.out]; unfold St.step; rw [if_pos hE]; rfl
            · rw [hst.out]; unfold St.step; rw [if_pos hE]
              simp only
              rw [lens_snoc]
              have e : (i64s (st.out.map fun l => (l.length : Int))).length + 1 = (i64s (st.out.map fun l => (l.length : Int)) ++ [Value.int .i64 ((st.o ++ [b]).length : Int)]).length := by simp
              rw [show ((st.o ++ [b]).length : Int) = (st.o.length : Int) + 1 by simp]
              exact hR5
            · intro g' hg'
              have hq : g = g' := by simpa [Value.ownBlock] using hg'
              subst hq
              rcases hor5 with h | h
              · exact hN _ h
              · omega
          case measure => simp [intOf]; omega
        · rw [Bool.eq_false_iff.2 hE] at ht
          subst ht
          go_wp2
          go_roundw
          case rel =>
            refine ⟨k + 1, by omega, by go_num, ?_, ?_, hF4, hB4, hN⟩
            · rw [hst.out]; unfold St.step; rw [if_neg hE]; simp
            · rw [hst.out]; unfold St.step; rw [if_neg hE]; exact hR4
          case measure => simp [intOf]; omega
    · obtain rfl : k = s.size := by omega
      have hfull : (bsOf s).take s.size = bsOf s := List.take_of_length_le (by rw [bsOf_len]; exact Nat.le_refl _)
      rw [hfull] at hR ⊢
      obtain ⟨st, hs⟩ : ∃ st, st = St.run ⟨c8, c9, c10⟩ ⟨[], [], []⟩ (bsOf s) := ⟨_, rfl⟩
      have hsl : (i64s (st.out.map fun l => (l.length : Int))).length ≤ 1000000 := by
        have := St.run_out ⟨c8, c9, c10⟩ (bsOf s) ⟨[], [], []⟩
        rw [← hs, bsOf_len] at this
        simp only [List.length_nil] at this
        simp only [i64s, List.length_map]
        omega
      rw [← hs] at hR ⊢
      have Hs := Lib.hid hs
      clear hs hfull
      by_cases hp : 0 < st.o.length
      · have hR' := hR
        go_wp2_with (at_builtin; go_must (refine app1 rfl _ _ 26 3 (.int .i64 0) 8 rfl Try.underlying26 info3 rfl (by decide) u5 (i64s (st.out.map fun l => (l.length : Int))) (.int .i64 (st.o.length : Int)) rfl rfl rfl hR (by omega) ?_); intro g c3 w5 hR5 hor5 hf5 _)
        go_ret
        refine ⟨_, rfl, ?_, hF.trans hf5 (fun q _ h => by have := hN q h; omega), ?_⟩
        · rw [← Hs.out]
          unfold St.lens
          rw [if_pos hp]
          have e : i64s ((st.out.map fun l => (l.length : Int)) ++ [(st.o.length : Int)]) = i64s (st.out.map fun l => (l.length : Int)) ++ [.int .i64 (st.o.length : Int)] := by simp [i64s]
          rw [e]
          exact hR5
        · intro g' hg'
          have hq : g = g' := by simpa [Value.ownBlock] using hg'
          subst hq
          rcases hor5 with h | h
          · have := hN _ h; omega
          · have := hF.size; omega
      · go_wp2
        go_ret
        refine ⟨_, rfl, ?_, hF, fun g hg => by have := hN g hg; omega⟩
        rw [← Hs.out]
        unfold St.lens
        rw [if_neg hp, List.append_nil]
        exact hR
end Go.Proofs.Yticlbmeldcncnaa
