/- A scheduler: Pick. Conditions: those of the lemmas. -/
import Derived.Test.YtlljfopacdnpbaaStep
namespace Go.Proofs.Ytlljfopacdnpbaa
open Go.RowKit
theorem infoInt : (Try.prog.info? 3).map (fun i => (i.zero, i.size, i.bytes)) = some (some (Value.int .i64 0), 1, 8) := by kernel_rfl
def i64s (l : List Int) : List Value := l.map (Value.int .i64)
theorem i64s_len (xs : List Int) : (i64s xs).length = xs.length := by simp [i64s]
theorem i64s_at {xs : List Int} {k : Nat} (h : k < xs.length) : (i64s xs)[k]? = some (.int .i64 (xs.getD k 0)) := by
  simp [i64s, List.getElem?_eq_getElem h, List.getD_eq_getElem?_getD]
/-- Which slots are ready. -/
def rdy (T : List TV) (H : Nat → Option Int) (k : Nat) : Bool := isF (T.getD k (.nilFunc, .pointer none)).1 && decide ((H k).getD (-1) < 0)
def rdys (T : List TV) (H : Nat → Option Int) (j : Nat) : List Nat := (List.range j).filter (rdy T H)
theorem rdys_succ (T : List TV) (H : Nat → Option Int) (j : Nat) : rdys T H (j + 1) = if rdy T H j then rdys T H j ++ [j] else rdys T H j := by
  unfold rdys
  rw [List.range_succ, List.filter_append]
  by_cases h : rdy T H j = true <;> simp [h]
theorem rdys_len (T : List TV) (H : Nat → Option Int) (j : Nat) : (rdys T H j).length ≤ j := by
  have := List.length_filter_le (rdy T H) (List.range j)
  simpa [rdys] using this
def nats (l : List Nat) : List Value := l.map fun (k : Nat) => .int .i64 (k : Int)
theorem nats_at {l : List Nat} {j k : Nat} (h : l[j]? = some k) : (nats l)[j]? = some (.int .i64 (k : Int)) := by
  unfold nats
  rw [List.getElem?_map, h]
  rfl
/-- Whose turn it is. -/
def turn (l : List Nat) (n : Int) : Option Nat := l[(n % (l.length : Int)).toNat]?
theorem nats_len (l : List Nat) : (nats l).length = l.length := by simp [nats]
theorem rdy_at {T : List TV} {H : Nat → Option Int} {k : Nat} {p : TV} (h : T[k]? = some p) : rdy T H k = (isF p.1 && decide ((H k).getD (-1) < 0)) := by
  unfold rdy
  rw [List.getD_eq_getElem?_getD, h]
  rfl
theorem pick_nil (W : World) (n : Int) : Calls Try.prog 12 #[.pointer none, .int .i64 n] W fun e w' => e = .returned (.tuple #[.int .i64 0, .bool false]) ∧ W = w' := by
  go_enter Try.func12, Try.ntmps12
  go_wp2
  go_ret2
  exact ⟨rfl, rfl⟩
set_option maxHeartbeats 2000000 in
theorem pick_go {W : World} {sb tb : Nat} {st : Int} {T : List TV} (h : Sch W sb tb st T) {H : Nat → Option Int} (hM : ∀ k p, T[k]? = some p → isF p.1 = true → MuV W p.2 (H k)) (n : Int)
    {Q : Nat → World → World → Prop}
    (hstep : ∀ k, turn (rdys T H T.length) n = some k → ∀ W0, Fr (fun _ => False) W W0 →
      Calls Try.prog 33 #[.pointer (some ⟨sb, 0, none⟩), .int .i64 (k : Int)] W0 fun e w' => e = .returned (.int .i64 0) ∧ Fr (fun q => q < W.heap.size) W0 w' ∧ Q k W0 w') :
    Calls Try.prog 12 #[.pointer (some ⟨sb, 0, none⟩), .int .i64 n] W fun e w' =>
      (rdys T H T.length = [] ∧ e = .returned (.tuple #[.int .i64 0, .bool false]) ∧ Fr (fun _ => False) W w') ∨
      ∃ k W0, turn (rdys T H T.length) n = some k ∧ e = .returned (.tuple #[.int .i64 (k : Int), .bool true]) ∧ Fr (fun _ => False) W W0 ∧ Q k W0 w' := by
  have k0 := h.blk.cell 0 rfl
  have H0 := Lib.hid h
  have HM := Lib.hid hM
  have hfew := h.few
  clear h hM
  go_enter Try.func12, Try.ntmps12
  go_wp2_with fail
  go_loopw [6, 7, 15] (fun rv _ i W1 => ∃ (j : Nat), i = .int .i64 j ∧ j ≤ T.length ∧ Row W1 3 rv (nats (rdys T H j)) ∧ Fr (fun _ => False) W W1 ∧ ∀ q, rv.ownBlock = some q → W.heap.size ≤ q) (fun _ _ i _ => T.length - (intOf i).toNat)
  case atStart => exact ⟨0, rfl, Nat.zero_le _, Row.nil _ _, Fr.refl _ _, fun q hq => by simp [Value.ownBlock] at hq⟩
  case round =>
    obtain ⟨j, rfl, hj, hR, hf, hn⟩ := hrel
    by_cases hjn : j < T.length
    · have hTj : T[j]? = some T[j] := List.getElem?_eq_getElem hjn
      have hrd := ready_in (H0.out.fr hf id id) hTj (hd := H j) (fun hF => (HM.out j _ hTj hF).fr hf (fun _ _ => id))
      rw [← rdy_at (H := H) hTj] at hrd
      have hs := rdys_succ T H j
      have hle := rdys_len T H j
      have i1 : (j : Int) < (T.length : Int) := by omega
      have HR := Lib.hid hR
      have Hrd := Lib.hid hrd
      clear hR hrd hTj
      go_wp2_with fail
      refine Hrd.out.mono ?_
      rintro e w' ⟨rfl, rfl⟩
      cases hr : rdy T H j
      · rw [hr, if_neg (by decide)] at hs
        rw [← hs] at HR
        clear hs Hrd hr
        go_wp2
        go_roundw
        case rel => exact ⟨j + 1, by go_num, by omega, HR.out, hf, hn⟩
        case measure => simp [intOf]; omega
      · rw [hr, if_pos rfl] at hs
        have hs2 : nats (rdys T H j) ++ [.int .i64 (j : Int)] = nats (rdys T H (j + 1)) := by rw [hs]; simp [nats]
        have Hs2 := Lib.hid hs2
        have Hsz := Lib.hid (show ((nats (rdys T H j)).length + 1) * 8 ≤ 140737488355328 by rw [nats_len]; omega)
        clear hs hs2 Hrd hr
        go_wp2_with (at_builtin; go_must (refine app1 (W := wr) rfl _ _ 23 3 (.int .i64 0) 8 rfl Try.underlying23 infoInt rfl (by decide) u6 (nats (rdys T H j)) (.int .i64 (j : Int)) rfl rfl rfl HR.out Hsz.out ?_); intro g2 c2 w2 hR2 hor2 hf2 _)
        rw [Hs2.out] at hR2
        have hf3 : Fr (fun _ => False) W w2 := hf.trans hf2 (fun i hi hh => by have := hn i hh; omega)
        have hsz := hf.size
        go_wp2
        go_roundw
        case rel => exact ⟨j + 1, by go_num, by omega, hR2, hf3, fun q hq => by
          have e : g2 = q := by simpa [Value.ownBlock] using hq
          rcases hor2 with hh | hh
          · exact hn q (by rw [hh, e])
          · omega⟩
        case measure => simp [intOf]; omega
    · obtain rfl : j = T.length := by omega
      obtain ⟨R, hRe⟩ : ∃ R, rdys T H T.length = R := ⟨_, rfl⟩
      have HRe := Lib.hid hRe
      have hl16 := rdys_len T H T.length
      rw [hRe] at hR hl16
      have Hstep := Lib.hid (fun k (hk : turn R n = some k) => hstep k (by rw [hRe]; exact hk))
      clear hstep hRe
      obtain ⟨rA, rc, hv⟩ := hR.slice
      rw [nats_len] at hv
      subst hv
      by_cases hz : R = []
      · subst hz
        clear hR
        go_wp2
        go_ret2
        exact .inl ⟨HRe.out, rfl, hf⟩
      · have hpos : 0 < R.length := List.length_pos_iff.2 hz
        have hlz : ¬ R.length = 0 := by omega
        have hlz2 : ¬ (R.length : Int) = 0 := by omega
        obtain ⟨m, hm, hmn⟩ : ∃ m : Nat, n % (R.length : Int) = (m : Int) ∧ m < R.length := ⟨(n % (R.length : Int)).toNat, by have := Int.emod_nonneg n hlz2; omega, by have := Int.emod_lt_of_pos n (show (0 : Int) < (R.length : Int) by omega); omega⟩
        obtain ⟨X, hX⟩ : ∃ X, n.tmod (R.length : Int) = X := ⟨_, rfl⟩
        have ht1 : X = if 0 ≤ n ∨ m = 0 then (m : Int) else (m : Int) - (R.length : Int) := by
          have h1 := Int.tmod_eq_emod (a := n) (b := (R.length : Int))
          rw [← hX, h1, hm]
          have h2 : (R.length : Int) ∣ n ↔ m = 0 := by
            rw [Int.dvd_iff_emod_eq_zero, hm]
            omega
          simp only [h2]
          have h3 : (((R.length : Int).natAbs : Nat) : Int) = (R.length : Int) := by omega
          by_cases hc : 0 ≤ n ∨ m = 0
          · rw [if_pos hc, if_pos hc]; omega
          · rw [if_neg hc, if_neg hc]; omega
        have HX := Lib.hid ht1
        clear ht1
        have hTn : turn R n = some R[m] := by
          unfold turn
          rw [hm, Int.toNat_natCast, List.getElem?_eq_getElem hmn]
        obtain ⟨k, hk⟩ : ∃ k, R[m] = k := ⟨_, rfl⟩
        rw [hk] at hTn
        have hRk : R[m]? = some k := by rw [List.getElem?_eq_getElem hmn, hk]
        obtain ⟨g, rfl, _⟩ := hR.head (by rw [← nats_len R] at hpos; rw [← nats_len R]; exact hpos)
        have c0 := hR.cell m (nats_at hRk)
        have ka : (⟨g, 0, none⟩ : Addr).add m = ⟨g, m, none⟩ := add_plain _ _
        have hS := Hstep.out k hTn wr hf
        have hgn : W.heap.size ≤ g := hn g rfl
        have HS := Lib.hid hS
        have HTn := Lib.hid hTn
        clear hS hTn Hstep hk hR hRk hz
        go_upto_if 34 with fail
        rw [show (((R.length : Int)) == 0) = false by simpa using hlz]
        go_cut [1] (fun t W => t = .int .i64 (m : Int) ∧ W = wr)
        case first =>
          by_cases hc : 0 ≤ n ∨ m = 0
          · have ht1 := HX.out
            rw [if_pos hc] at ht1
            have hm0 : ¬ (X < 0) := by omega
            have HX1 := Lib.hid ht1
            clear hc hX ht1
            go_wp2
            go_meet
            case rel => exact ⟨by rw [HX1.out], rfl⟩
          · have ht1 := HX.out
            rw [if_neg hc] at ht1
            have hm0 : X < 0 := by omega
            have hm1 : wrap64 (X + (R.length : Int)) = (m : Int) := by rw [ht1, IntWalk.wrap64_in _ (by omega)]; omega
            have HX1 := Lib.hid hm1
            clear hc ht1 hX
            go_wp2
            go_meet
            case rel => exact ⟨by rw [HX1.out], rfl⟩
        case rest =>
          obtain ⟨rfl, hwc⟩ := hcut
          subst hwc
          have im0 : (0 : Int) ≤ (m : Int) := by omega
          have im1 : (m : Int) < (R.length : Int) := by omega
          clear hX
          go_wp2_with fail
          refine HS.out.mono ?_
          rintro e w7 ⟨rfl, hf7, hQ7⟩
          have c7 := hf7.cell c0 (by simp; omega)
          go_wp2
          go_ret2
          exact .inr ⟨k, _, by rw [HRe.out]; exact HTn.out, rfl, hf, hQ7⟩
end Go.Proofs.Ytlljfopacdnpbaa
