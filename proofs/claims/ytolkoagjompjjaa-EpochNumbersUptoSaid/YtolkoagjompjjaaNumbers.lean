/- The law EpochNumbers, walked, where there are not too many things. Conditions: those of the lemmas. -/
import Derived.Test.YtolkoagjompjjaaNil
import Derived.Deep.QuietTactic
import Derived.Deep.DeepCutAuto
namespace Go.Proofs.Ytolkoagjompjjaa
open Go.RowKit
theorem firsts {old : List (Value × Int)} {xs : List Int} (h : old.map Prod.fst = i64s xs) : ∀ p ∈ old, ∃ e, p.1 = Value.int .i64 e := by
  intro p hp
  have : p.1 ∈ i64s xs := by rw [← h]; exact List.mem_map_of_mem hp
  simp only [i64s, List.mem_map] at this
  obtain ⟨e, _, he⟩ := this
  exact ⟨e, he.symm⟩
set_option maxHeartbeats 2000000 in
set_option maxRecDepth 100000 in
theorem numbers_ok (A : Option Addr) (n cp : Nat) (zs : List Int) (A2 : Option Addr) (n2 cp2 : Nat) (us : List Int) (w : World) (hz : zs.length = n) (hR : Rd w A (i64s zs)) (hn : n ≤ 1048576) (hcp : n ≤ cp) (hcm : cp ≤ 9223372036854775807)
    (hu : us.length = n2) (hU : Rd w A2 (us.map (Value.int .u8))) (hub : ∀ u ∈ us, 0 ≤ u ∧ u ≤ 255) (hn2 : n2 ≤ 1048576) :
    Calls Try.prog 5 #[.slice A n cp, .slice A2 n2 cp2] w fun e w' => e = .returned (.bool true) ∧ Fr (fun _ => False) w w' := by
  have hnew := newI_ok 1 (by decide) (by decide) w
  go_enter Try.func5, Try.ntmps5
  go_wp2_with fail
  refine hnew.mono ?_
  clear hnew
  rintro e w1 ⟨b, sv, rfl, hB, hf, hb, hs⟩
  have h1 : BkNI w w1 b 1 sv [0] (.slice none 0 0) [] := ⟨hB, hf, hb, hs, (fun q hq => by simp [Value.ownBlock] at hq), by decide⟩
  clear hB hf hs
  go_wp2_with fail
  refine (awake_any _).mono ?_
  rintro e w2 ⟨rfl, hf2⟩
  have h2 := h1.new hf2
  clear h1 hf2
  go_wp2_with fail
  go_loopw [7, 8, 9] (fun at_ times i W => ∃ (a k : Nat) (ov : Value) (old : List (Value × Int)), at_ = .int .i64 a ∧ times = .int .i64 ((k : Int) + 1) ∧ i = .int .i64 k ∧ a ≤ n ∧ k ≤ n2 ∧ BkNI w W b ((k : Int) + 1) sv [0] ov old ∧ old.map Prod.fst = i64s (zs.take a) ∧ ∀ p ∈ old, p.2 < (k : Int) + 1) (fun _ _ i _ => n2 - (intOf i).toNat)
  case atStart => exact ⟨0, 0, _, [], rfl, rfl, rfl, Nat.zero_le _, Nat.zero_le _, h2, rfl, by simp⟩
  case round =>
    clear h2
    obtain ⟨a, k, ov, old, rfl, rfl, rfl, ha, hk, hB, hold, hlate⟩ := hrel
    by_cases hgo : k < n2 ∧ a < n
    · obtain ⟨hk2, ha2⟩ := hgo
      have hx : us[k]? = some (us[k]'(by omega)) := List.getElem?_eq_getElem _
      obtain ⟨ad2, rfl, hc2⟩ := hU k (.int .u8 (us[k]'(by omega))) (by rw [List.getElem?_map, hx]; rfl)
      have hxb := hub _ (List.mem_of_getElem? hx)
      have hc2' := hB.fr.cell hc2 id
      generalize us[k]'(by omega) = x at hx hc2 hxb hc2'
      obtain ⟨ad, rfl⟩ : ∃ ad, A = some ad := by
        obtain ⟨ad, e, _⟩ := hR 0 (.int .i64 (zs.getD 0 0)) (i64s_at (by omega))
        exact ⟨ad, e⟩
      have t1 : x.tmod 7 = x % 7 := Int.tmod_eq_emod_of_nonneg hxb.1
      have t2 : 0 ≤ x % 7 ∧ x % 7 ≤ 6 := by omega
      have g1 : decide ((k : Int) < (n2 : Int)) = true := decide_eq_true (by omega)
      have g2 : decide ((a : Int) < (n : Int)) = true := decide_eq_true (by omega)
      clear hx hc2
      go_upto_region 9 with fail
      try rw [g1]
      try rw [g2]
      go_cut [10] (fun t W => ∃ p : Nat, t = .int .i64 p ∧ p ≤ n - a ∧ W = wr)
      case first =>
        by_cases hm : (n : Int) - a ≤ x % 7
        · go_wp2
          go_meet
          case rel => exact ⟨n - a, by go_num, by omega, rfl⟩
        · go_wp2
          go_meet
          case rel => exact ⟨(x % 7).toNat, by go_num, by omega, rfl⟩
      case rest =>
        obtain ⟨p, rfl, hp, rfl⟩ := hcut
        have hacp : ¬ cp = a := by omega
        have s1 : IntKind.i64.wrap ((a : Int) + (p : Int)) = (a : Int) + (p : Int) := IntWalk.i64_in _ (by omega)
        have s2 : ((a : Int) + (p : Int)).toNat = a + p := by omega
        have s3 : (a : Int) + (p : Int) ≤ (cp : Int) := by omega
        have s4 : (0 : Int) ≤ (a : Int) + (p : Int) := by omega
        have s5 : a + p - a = p := by omega
        have hlo : old.length ≤ 1048576 := by
          have := congrArg List.length hold
          rw [List.length_map, i64s_len, List.length_take] at this
          omega
        have hpart : Rd wc (some (ad.add a)) (((zs.drop a).take p).map (Value.int .i64)) := by
          intro j v hj
          refine ⟨_, rfl, ?_⟩
          rw [add_add]
          have hjp : j < p := by
            have := (List.getElem?_eq_some_iff.1 hj).1
            rw [List.length_map, List.length_take] at this
            omega
          obtain ⟨ad', e, hc⟩ := hR (a + j) v (by
            simp only [i64s, List.getElem?_map, List.getElem?_take, List.getElem?_drop] at hj ⊢
            rw [if_pos hjp] at hj
            exact hj)
          cases e
          exact hB.fr.cell hc id
        have hpl : (((zs.drop a).take p).map (Value.int .i64)).length = p := by rw [List.length_map, List.length_take, List.length_drop]; omega
        have hadl : ad.block < w.heap.size := by
          exact hR.lt (i64s_at (k := 0) (show 0 < zs.length by omega)) rfl
        go_wp2_with fail
        refine (retireI_n hB (some (ad.add a)) p (cp - a) ((zs.drop a).take p) hpl hpart (fun _ ad3 e => ?_) (by omega) ⟨by omega, by omega⟩ ((k : Int) + 1 + 1) rfl _ rfl).mono ?_
        · cases e
          rw [add_block]
          exact ⟨fun h => by have := hB.bn; omega, fun h => by have := hB.on _ h; omega⟩
        rintro e w4 ⟨rfl, ⟨ov4, h4⟩, _⟩
        have hold4 : (old ++ (((zs.drop a).take p).map (Value.int .i64)).map fun x => (x, (k : Int) + 1)).map Prod.fst = i64s (zs.take (a + p)) := by
          rw [List.map_append, hold, List.map_map, List.take_add, i64s, i64s, List.map_append]
          congr 1
          simp [Function.comp_def]
        have hlate4 : ∀ q ∈ old ++ (((zs.drop a).take p).map (Value.int .i64)).map (fun x => (x, (k : Int) + 1)), q.2 < (k : Int) + 1 + 1 := by
          intro q hq
          rcases List.mem_append.1 hq with hq | hq
          · have := hlate q hq; omega
          · obtain ⟨y, _, rfl⟩ := List.mem_map.1 hq
            simp only
            omega
        clear hB hold hlate hpart hpl
        go_wp2
        go_roundw
        case rel => exact ⟨a + p, k + 1, ov4, _, by go_num, by go_num, by go_num, by omega, by omega, h4, hold4, hlate4⟩
        case measure => simp [intOf]; omega
    · have hgo' : ¬ k < n2 ∨ ¬ a < n := by omega
      have hfs : firstOf ((k : Int) + 1) [0] = (k : Int) + 1 := by simp [firstOf]
      have hfree : old.filter (fun p => decide (p.2 < (k : Int) + 1)) = old := List.filter_eq_self.2 fun p hp => by simpa using hlate p hp
      have hleft : old.filter (fun p => !decide (p.2 < (k : Int) + 1)) = [] := List.filter_eq_nil_iff.2 fun p hp => by simpa using hlate p hp
      have hlen : old.length = a := by
        have := congrArg List.length hold
        rw [List.length_map, i64s_len, List.length_take] at this
        omega
      have hfc := freeI_n hB (firsts hold) (by omega) ((k : Int) + 1) hfs old [] hfree hleft
      rw [hlen, hold] at hfc
      have Hfc := Lib.hid hfc
      clear hfc hfree hleft hfs hlate hB hold
      go_upto_region 7 with fail
      go_cut [32] (fun t W => t = .bool false ∧ W = wr)
      case first =>
        by_cases hk2 : k < n2
        · have hk3 : decide ((k : Int) < (n2 : Int)) = true := decide_eq_true (by omega)
          have ha3 : decide ((a : Int) < (n : Int)) = false := decide_eq_false (by omega)
          have ha4 : ¬ a < n := by omega
          go_wp2
          go_meet
          case rel => exact ⟨rfl, rfl⟩
        · have hk3 : decide ((k : Int) < (n2 : Int)) = false := decide_eq_false (by omega)
          go_wp2
          go_meet
          case rel => exact ⟨rfl, rfl⟩
      case rest =>
        obtain ⟨rfl, rfl⟩ := hcut
        go_wp2_with fail
        refine Hfc.out.mono ?_
        rintro e w5 ⟨lA, lc, rfl, ⟨ov5, h5⟩, hL5, _, _⟩
        go_wp2_with fail
        refine (nowI_any h5.book).mono ?_
        rintro e w' ⟨rfl, rfl⟩
        go_wp2_with fail
        go_loopw [12] (fun i W => ∃ j : Nat, j ≤ a ∧ i = .int .i64 j ∧ ∃ q, W = w5.drewN q) (fun i _ => a - (intOf i).toNat)
        case atStart => exact ⟨0, Nat.zero_le _, rfl, 0, rfl⟩
        case round =>
          obtain ⟨j, hj, rfl, q, rfl⟩ := hrel
          by_cases hja : j < a
          · obtain ⟨g, rfl, hgc⟩ := hL5.head (by omega)
            have hzj : j < zs.length := by omega
            obtain ⟨ad, rfl, hcz⟩ := hR j _ (i64s_at hzj)
            have c1 : ∀ q, (w5.drewN q).cell? ⟨g, j, none⟩ = some (.int .i64 (zs.getD j 0)) := fun q => (hL5.drewN q).cell j (by
              have h1 := i64s_at hzj
              simp only [i64s, List.getElem?_map, List.getElem?_take] at h1 ⊢
              rw [if_pos hja]
              exact h1)
            have c2 : ∀ q, (w5.drewN q).cell? (ad.add j) = some (.int .i64 (zs.getD j 0)) := fun q => (h5.fr.drewN q).cell hcz id
            have c3 : (⟨g, 0, none⟩ : Addr).add j = ⟨g, j, none⟩ := add_plain g j
            have c4 : (j : Int) < (n : Int) := by omega
            generalize zs.getD j 0 = z at c1 c2
            clear hcz
            go_upto_region 19 with fail
            go_quiet (fail)
            go_wp2
            go_roundw
            case rel => exact ⟨j + 1, by omega, by go_num, _, rfl⟩
            case measure => simp [intOf]; omega
          · have h5q : BkNI w (w5.drewN q) b ((k : Int) + 1) sv [0] ov5 [] := ⟨⟨h5.book.blk, h5.book.slot, h5.book.wait⟩, h5.fr.drewN q, h5.bn, h5.sn, h5.on, h5.few⟩
            go_wp2_with fail
            refine (heldI_any h5q.book).mono ?_
            rintro e w' ⟨rfl, rfl⟩
            go_wp2
            go_ret
            exact ⟨rfl, h5q.fr⟩
end Go.Proofs.Ytolkoagjompjjaa
