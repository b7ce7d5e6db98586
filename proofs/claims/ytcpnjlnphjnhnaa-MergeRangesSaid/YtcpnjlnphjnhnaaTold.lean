/- The reference's Told, Live. Conditions: those of the lemmas. -/
import Derived.Test.YtcpnjlnphjnhnaaFew
namespace Go.Proofs.Ytcpnjlnphjnhnaa
open Go.RowKit
def lastOf (l : List En) (i : Nat) : Option ByteArray := if i = 0 then none else (l[i - 1]?).map En.key
theorem told_split {l : List En} {i : Nat} {x : En} (hx : l[i]? = some x) (e : Int) : told (lastOf l i) (l.drop i) e = if flat (lastOf l i) x then ([], 3) else (x :: (told (lastOf l (i + 1)) (l.drop (i + 1)) e).1, (told (lastOf l (i + 1)) (l.drop (i + 1)) e).2) := by
  have hil := (List.getElem?_eq_some_iff.1 hx).1
  have hxe := (List.getElem?_eq_some_iff.1 hx).2
  rw [List.drop_eq_getElem_cons hil, hxe, told]
  have h1 : lastOf l (i + 1) = some x.key := by
    unfold lastOf
    rw [if_neg (by omega), Nat.add_sub_cancel, hx]
    rfl
  rw [h1]
/-- A row that is new. -/
def NewRow (W : World) (r : Rw) (en : Ending) (W' : World) : Prop := ∃ A cp, en = .returned (.agg #[.slice A r.1.length cp, .int .i64 r.2]) ∧ RdE W' A r.1 ∧ (∀ ad, A = some ad → W.heap.size ≤ ad.block ∧ ad.block < W'.heap.size ∧ ∃ cur, W'.heap[ad.block]? = some (.cells cur 32 (0, 0))) ∧ r.1.length ≤ cp ∧ cp ≤ 9223372036854775807 ∧ Fr (fun _ => False) W W'
set_option maxHeartbeats 2000000 in
set_option maxRecDepth 100000 in
theorem told_any {W : World} {A : Option Addr} {cp : Nat} {l : List En} {e : Int} (hR : RdE W A l) (hfew : l.length ≤ 1000000) : Calls Try.prog 10 #[.agg #[.slice A l.length cp, .int .i64 e]] W (NewRow W (told none l e)) := by
  have hb := (Blk.at_new W [.slice A l.length cp, .int .i64 e] 24 _ _ rfl rfl).alloc (.cells #[.slice none 0 0, .int .i64 0] 24)
  have hr := Blk.at_new (W.alloc (.cells #[.slice A l.length cp, .int .i64 e] 24)) [.slice none 0 0, .int .i64 0] 24 (W.heap.size + 1) _ (by simp) rfl
  have g := ((Fr.refl (fun _ => False) W).alloc (.cells #[.slice A l.length cp, .int .i64 e] 24)).alloc (.cells #[.slice none 0 0, .int .i64 0] 24)
  go_enter Try.func10, Try.ntmps10
  go_wp2_with fail
  simp only [List.toArray] at hb hr g
  generalize (W.alloc (.cells #[.slice A l.length cp, .int .i64 e] 24)).alloc (.cells #[.slice none 0 0, .int .i64 0] 24) = w1 at hb hr g ⊢
  go_loopw [3, 4] (fun v i wr => ∃ (j : Nat), i = .int .i64 j ∧ j ≤ l.length ∧ RowK wr 32 3 v (ens (l.take j)) ∧ (∀ q, v.ownBlock = some q → W.heap.size ≤ q) ∧ Blk wr W.heap.size [.slice A l.length cp, .int .i64 e] 24 ∧ Blk wr (W.heap.size + 1) [.slice none 0 0, .int .i64 0] 24 ∧ Fr (fun _ => False) W wr ∧
    told none l e = (l.take j ++ (told (lastOf l j) (l.drop j) e).1, (told (lastOf l j) (l.drop j) e).2)) (fun _ i _ => l.length - (intOf i).toNat)
  case atStart => exact ⟨0, rfl, Nat.zero_le _, RowK.nil _ _ _, fun q h => by simp [Value.ownBlock] at h, hb, hr, g, rfl⟩
  case round =>
    clear hb hr g
    obtain ⟨j, rfl, hj, hV, hVn, hB, hr, hF, hT⟩ := hrel
    have b0 := hB.cell 0 rfl
    have b1 := hB.cell 1 rfl
    by_cases hjn : j < l.length
    · have hx : l[j]? = some l[j] := List.getElem?_eq_getElem hjn
      generalize l[j] = x at hx
      have hR1 : RdE wr A l := hR.fr hF (fun _ _ => id)
      obtain ⟨ad, hAe, a0, a1, a2⟩ := hR1.cells hx
      subst hAe
      have ij : (j : Int) < (l.length : Int) := by omega
      have ij0 : (0 : Int) ≤ (j : Int) := by omega
      have hsp := told_split hx e
      rw [hsp] at hT
      clear hsp
      by_cases hj0 : j = 0
      · have hg : decide (0 < j) = false := decide_eq_false (by omega)
        rw [if_neg (by simp [lastOf, flat, hj0])] at hT
        clear hj0
        have HH := Lib.hid (And.intro hB (And.intro hr (And.intro hF (And.intro hT (And.intro hVn hx)))))
        have hlt1 := hB.lt
        clear hB hr hF hT hx hR1 hVn
        go_upto_region 5 with fail
        go_quiet (fail)
        have hV2 := hV.drewN nq
        clear hV
        go_wp2_with (at_builtin; go_must (refine appK rfl _ _ 22 32 (.agg #[.string ⟨#[]⟩, .string ⟨#[]⟩, .bool false]) 3 40 rfl Try.underlying22 infoEn rfl (by decide) (by decide) u3 (ens (l.take j)) (enV x) rfl rfl rfl (by simp [enV, Value.oneCell']) hV2 (by rw [ens_len, List.length_take]; omega) ?_); intro g2 c2 w8 hR8 hor8 hf8 _)
        go_roundw
        case rel =>
          obtain ⟨hB, hr, hF, hT, hVn, hx⟩ := HH.out
          refine ⟨j + 1, by go_num, by omega, by rw [take_succ hx, ens_snoc]; exact hR8, fun q hq => ?_, hf8.blk (hB.drewN nq) (hV2.ne (hB.drewN nq) (by decide)), hf8.blk (hr.drewN nq) (hV2.ne (hr.drewN nq) (by decide)), (hF.drewN nq).trans hf8 (fun i hi h => by have := hVn i h; omega), by rw [take_succ hx]; simpa using hT⟩
          have hq' : g2 = q := by simpa [Value.ownBlock] using hq
          subst hq'
          rcases hor8 with h | h
          · exact hVn _ h
          · have := hF.size; simp at h; omega
        case measure => simp [intOf]; omega
      · have hg : decide (0 < j) = true := decide_eq_true (by omega)
        have hy : l[j - 1]? = some (l[j - 1]'(by omega)) := List.getElem?_eq_getElem _
        have hlast : lastOf l j = some (l[j - 1]'(by omega)).key := by unfold lastOf; rw [if_neg hj0, hy]; rfl
        generalize l[j - 1]'(by omega) = y at hy hlast
        obtain ⟨ad', hAe, p0, _, _⟩ := hR1.cells hy
        injection hAe with hAe
        subst hAe
        rw [hlast] at hT
        have t1 : IntKind.i64.wrap ((j : Int) - 1) = ((j - 1 : Nat) : Int) := by rw [IntWalk.i64_in _ (by omega)]; omega
        have t2 : ((j - 1 : Nat) : Int) < (l.length : Int) := by omega
        have t3 : (0 : Int) ≤ ((j - 1 : Nat) : Int) := by omega
        have h7 := leq_not x.key y.key
        cases hlt : sLt y.key x.key with
        | true =>
          rw [hlt] at h7
          simp only [Bool.not_true] at h7
          rw [if_neg (by simp [flat, hlt])] at hT
          clear hlast hj0 hy hlt
          have HH := Lib.hid (And.intro hB (And.intro hr (And.intro hF (And.intro hT (And.intro hVn hx)))))
          have hlt1 := hB.lt
          clear hB hr hF hT hx hR1 hVn
          go_upto_region 5 with fail
          go_quiet (fail)
          have hV2 := hV.drewN nq
          clear hV
          go_wp2_with (at_builtin; go_must (refine appK rfl _ _ 22 32 (.agg #[.string ⟨#[]⟩, .string ⟨#[]⟩, .bool false]) 3 40 rfl Try.underlying22 infoEn rfl (by decide) (by decide) u3 (ens (l.take j)) (enV x) rfl rfl rfl (by simp [enV, Value.oneCell']) hV2 (by rw [ens_len, List.length_take]; omega) ?_); intro g2 c2 w8 hR8 hor8 hf8 _)
          go_roundw
          case rel =>
            obtain ⟨hB, hr, hF, hT, hVn, hx⟩ := HH.out
            refine ⟨j + 1, by go_num, by omega, by rw [take_succ hx, ens_snoc]; exact hR8, fun q hq => ?_, hf8.blk (hB.drewN nq) (hV2.ne (hB.drewN nq) (by decide)), hf8.blk (hr.drewN nq) (hV2.ne (hr.drewN nq) (by decide)), (hF.drewN nq).trans hf8 (fun i hi h => by have := hVn i h; omega), by rw [take_succ hx]; simpa using hT⟩
            have hq' : g2 = q := by simpa [Value.ownBlock] using hq
            subst hq'
            rcases hor8 with h | h
            · exact hVn _ h
            · have := hF.size; simp at h; omega
          case measure => simp [intOf]; omega
        | false =>
          rw [hlt] at h7
          simp only [Bool.not_false] at h7
          rw [if_pos (by simp [flat, hlt]), List.append_nil] at hT
          clear hlast hj0 hy hlt
          obtain ⟨A1, c1, rfl, hrd, hle, hmx, _⟩ := hV.rd
          have hown := fun ad (h : A1 = some ad) => hV.at_own h
          have hln : (l.take j).length = j := by rw [List.length_take]; omega
          have Hln := Lib.hid hln
          rw [ens_len, hln] at hV hle hown hVn ⊢
          clear hln
          have r0 := hr.cell 0 rfl
          have r1 := hr.cell 1 rfl
          have f0 := hr.free 0
          have f1 := hr.free 1
          have hrl := hr.lt
          have hkind := fun ad (h : A1 = some ad) => hV.kind (hown ad h)
          have HH := Lib.hid (And.intro hr (And.intro hF (And.intro hT (And.intro hVn (And.intro hown (And.intro hrd (And.intro hle (And.intro hmx hkind))))))))
          clear hV hr hF hT hVn hown hrd hle hmx hB hx hR1
          go_upto_region 5 with fail
          go_quiet (fail)
          go_wp2
          obtain ⟨hr, hF, hT, hVn, hown, hrd, hle, hmx, hkind⟩ := HH.out
          have g9 : Fr (fun k => k = W.heap.size + 1) wr (((wr.drewN nq).setCell ⟨W.heap.size + 1, 0, none⟩ (.slice A1 j c1)).setCell ⟨W.heap.size + 1, 1, none⟩ (.int .i64 3)) := (((Fr.refl _ wr).drewN nq).set1 _ _).set1 _ _
          refine bodyPost_ret (results_cell_row rfl _ _ (W.heap.size + 1) 24 #[.slice A1 j c1, .int .i64 3] (0, 0) _ rfl (((hr.drewN nq).set 0 _).set 1 _) Try.underlying24 rfl (by kernel_rfl)) rfl ?_
          rw [hT]
          refine ⟨A1, c1, by simp only [Hln.out], Rd.fr hrd g9 (fun ad h hh => ?_), fun ad h => ⟨hVn _ (hown ad h), ?_⟩, by rw [Hln.out]; exact hle, by simpa [maxLen] using hmx, hF.trans g9 (fun i hi h => by omega)⟩
          · obtain ⟨cur, hc⟩ := hkind ad h
            exact kinds_ne hc hr.out (by decide) hh
          · obtain ⟨cur, hc⟩ := hkind ad h
            have hc2 := (g9.block _ (Array.getElem?_eq_some_iff.1 hc).1 (fun hh => kinds_ne hc hr.out (by decide) hh)).trans hc
            exact ⟨(Array.getElem?_eq_some_iff.1 hc2).1, cur, hc2⟩
    · obtain rfl : j = l.length := by omega
      have hT2 : told none l e = (l.take l.length, e) := by rw [hT, List.drop_length]; simp [told]
      clear hT
      have hT := hT2
      clear hT2
      obtain ⟨A1, c1, rfl, hrd, hle, hmx, _⟩ := hV.rd
      have hown := fun ad (h : A1 = some ad) => hV.at_own h
      have hln : (l.take l.length).length = l.length := by rw [List.length_take]; omega
      have Hln := Lib.hid hln
      rw [ens_len, hln] at hV hle hown hVn ⊢
      clear hln
      have r0 := hr.cell 0 rfl
      have r1 := hr.cell 1 rfl
      have f0 := hr.free 0
      have f1 := hr.free 1
      have hrl := hr.lt
      have hkind := fun ad (h : A1 = some ad) => hV.kind (hown ad h)
      have HH := Lib.hid (And.intro hr (And.intro hF (And.intro hT (And.intro hVn (And.intro hown (And.intro hrd (And.intro hle (And.intro hmx hkind))))))))
      clear hV hr hF hT hVn hown hrd hle hmx hB
      go_wp2
      obtain ⟨hr, hF, hT, hVn, hown, hrd, hle, hmx, hkind⟩ := HH.out
      have g9 : Fr (fun k => k = W.heap.size + 1) wr ((wr.setCell ⟨W.heap.size + 1, 0, none⟩ (.slice A1 l.length c1)).setCell ⟨W.heap.size + 1, 1, none⟩ (.int .i64 e)) := ((Fr.refl _ wr).set1 _ _).set1 _ _
      refine bodyPost_ret (results_cell_row rfl _ _ (W.heap.size + 1) 24 #[.slice A1 l.length c1, .int .i64 e] (0, 0) _ rfl ((hr.set 0 _).set 1 _) Try.underlying24 rfl (by kernel_rfl)) rfl ?_
      rw [hT]
      refine ⟨A1, c1, by simp only [Hln.out], Rd.fr hrd g9 (fun ad h hh => ?_), fun ad h => ⟨hVn _ (hown ad h), ?_⟩, by rw [Hln.out]; exact hle, by simpa [maxLen] using hmx, hF.trans g9 (fun i hi h => by omega)⟩
      · obtain ⟨cur, hc⟩ := hkind ad h
        exact kinds_ne hc hr.out (by decide) hh
      · obtain ⟨cur, hc⟩ := hkind ad h
        have hc2 := (g9.block _ (Array.getElem?_eq_some_iff.1 hc).1 (fun hh => kinds_ne hc hr.out (by decide) hh)).trans hc
        exact ⟨(Array.getElem?_eq_some_iff.1 hc2).1, cur, hc2⟩
end Go.Proofs.Ytcpnjlnphjnhnaa
