/- The reference's Pick. Conditions: those of the lemma. -/
import Derived.Test.YtlljfopacdnpbaaRStep
namespace Go.Proofs.Ytlljfopacdnpbaa
open Go.RowKit
def readiesTo (ls : List PT) (pos : Nat → Nat) (s : St) (j : Nat) : List Nat := (List.range j).filter (readyA ls pos s)
theorem readiesTo_succ (ls : List PT) (pos : Nat → Nat) (s : St) (j : Nat) : readiesTo ls pos s (j + 1) = if readyA ls pos s j then readiesTo ls pos s j ++ [j] else readiesTo ls pos s j := by
  unfold readiesTo
  rw [List.range_succ, List.filter_append]
  by_cases h : readyA ls pos s j = true <;> simp [h]
theorem readiesTo_len (ls : List PT) (pos : Nat → Nat) (s : St) (j : Nat) : (readiesTo ls pos s j).length ≤ j := by
  have := List.length_filter_le (readyA ls pos s) (List.range j)
  simpa [readiesTo] using this
theorem tmod_turn (n r m : Int) (hm : n % r = m) (h0 : 0 ≤ m) (h1 : m < r) (hr : r ≤ 1000) : (wrap64 (n.tmod r + r)).tmod r = m := by
  have h2 := Int.tmod_eq_emod (a := n) (b := r)
  have hb : n.tmod r = m ∨ (n.tmod r = m - r) := by
    rw [h2, hm]
    split <;> omega
  have hc : 0 ≤ n.tmod r + r := by omega
  rw [IntWalk.wrap64_in _ (by omega), Int.tmod_eq_emod_of_nonneg hc]
  rcases hb with hb | hb
  · rw [hb, Int.add_emod_right]
    exact Int.emod_eq_of_lt h0 h1
  · rw [hb, show m - r + r = m by omega]
    exact Int.emod_eq_of_lt h0 h1
set_option maxHeartbeats 2000000 in
set_option maxRecDepth 100000 in
theorem rpick_any {W : World} {mb : Nat} {R : RE} {ls : List PT} {ts : List RT} {pos : Nat → Nat} {s : St} {st : Int} (h : RefAt W mb R ls ts pos s st) (hh : ∀ k v, s.held k = some v → 0 ≤ v) (hok : ∀ p ∈ ls, ∀ x ∈ p.l, x.ok) (hfew : ls.length ≤ 16) (n : Int) :
    Calls Try.prog 13 #[.pointer (some ⟨mb, 0, none⟩), .int .i64 n] W fun e w' =>
      (readies ls pos s = [] ∧ e = .returned (.int .i64 (-1)) ∧ Fr (fun _ => False) W w') ∨
      ∃ i ts', turn (readies ls pos s) n = some i ∧ e = .returned (.int .i64 (i : Int)) ∧ Fr (rS mb R) W w' ∧ RefAt w' mb R ls ts' (upd pos i (pos i + 1)) (stepK ((ls.getD i ⟨none, 0, []⟩).l.getD (pos i) ⟨0, 0, 0, 0, 0⟩) i s) (wrap64 (st + 1)) := by
  have k0 := h.obj.cell 0 rfl
  have H0 := Lib.hid h
  clear h
  have HH := Lib.hid hh
  have Hok := Lib.hid hok
  clear hh hok
  go_enter Try.func13, Try.ntmps13
  go_wp2_with fail
  go_loopw [5, 6] (fun rv i W1 => ∃ (j : Nat), i = .int .i64 j ∧ j ≤ ls.length ∧ Row W1 3 rv (nats (readiesTo ls pos s j)) ∧ Fr (fun _ => False) W W1 ∧ ∀ q, rv.ownBlock = some q → W.heap.size ≤ q) (fun _ i _ => ls.length - (intOf i).toNat)
  case atStart => exact ⟨0, rfl, Nat.zero_le _, Row.nil _ _, Fr.refl _ _, fun q hq => by simp [Value.ownBlock] at hq⟩
  case round =>
    obtain ⟨j, rfl, hj, hR, hf, hn⟩ := hrel
    have k1 := hf.cell k0 id
    by_cases hjn : j < ls.length
    · have hTj : ls[j]? = some ls[j] := List.getElem?_eq_getElem hjn
      have hrd := rready_any (H0.out.new hf) HH.out hTj (Hok.out _ (List.getElem_mem hjn))
      have hs := readiesTo_succ ls pos s j
      have hle := readiesTo_len ls pos s j
      have i1 : (j : Int) < (ls.length : Int) := by omega
      have HR := Lib.hid hR
      have Hrd := Lib.hid hrd
      clear hR hrd hTj
      go_wp2_with fail
      refine Hrd.out.mono ?_
      rintro e w2 ⟨rfl, hf2⟩
      have hf2' := hf.trans hf2 (fun _ _ h => h)
      have HR2 := Lib.hid (HR.out.fr hf2 (fun _ _ => id))
      have Hf2 := Lib.hid hf2'
      have hsz2 := hf2'.size
      clear HR hf hf2 hf2'
      cases hr : readyA ls pos s j
      · rw [hr, if_neg (by decide)] at hs
        rw [← hs] at HR2
        clear hs Hrd hr
        go_wp2
        go_roundw
        case rel => exact ⟨j + 1, by go_num, by omega, HR2.out, Hf2.out, hn⟩
        case measure => simp [intOf]; omega
      · rw [hr, if_pos rfl] at hs
        have hs2 : nats (readiesTo ls pos s j) ++ [.int .i64 (j : Int)] = nats (readiesTo ls pos s (j + 1)) := by rw [hs]; simp [nats]
        have Hs2 := Lib.hid hs2
        have Hsz := Lib.hid (show ((nats (readiesTo ls pos s j)).length + 1) * 8 ≤ 140737488355328 by rw [nats_len]; omega)
        clear hs hs2 Hrd hr
        go_wp2_with (at_builtin; go_must (refine app1 (W := w2) rfl _ _ 23 3 (.int .i64 0) 8 rfl Try.underlying23 infoInt rfl (by decide) u5 (nats (readiesTo ls pos s j)) (.int .i64 (j : Int)) rfl rfl rfl HR2.out Hsz.out ?_); intro g2 c2 w3 hR2 hor2 hf2 _)
        rw [Hs2.out] at hR2
        have hf3 : Fr (fun _ => False) W w3 := Hf2.out.trans hf2 (fun i hi hh => by have := hn i hh; omega)
        go_wp2
        go_roundw
        case rel => exact ⟨j + 1, by go_num, by omega, hR2, hf3, fun q hq => by
          have e : g2 = q := by simpa [Value.ownBlock] using hq
          rcases hor2 with hh | hh
          · exact hn q (by rw [hh, e])
          · omega⟩
        case measure => simp [intOf]; omega
    · obtain rfl : j = ls.length := by omega
      obtain ⟨L, hRe⟩ : ∃ L, readies ls pos s = L := ⟨_, rfl⟩
      have hl16 := readiesTo_len ls pos s ls.length
      have hRe2 : readiesTo ls pos s ls.length = L := hRe
      rw [hRe2] at hR hl16
      have hmem : ∀ k, k ∈ L → ∃ p x, ls[k]? = some p ∧ p.l[pos k]? = some x := fun k hk => by
        rw [← hRe] at hk
        unfold readies at hk
        obtain ⟨p, x, h1, h2, _⟩ := ready_out' (List.mem_filter.1 hk).2
        exact ⟨p, x, h1, h2⟩
      have Hmem := Lib.hid hmem
      have HRe := Lib.hid hRe
      clear hRe hRe2 hmem
      obtain ⟨rA, rc, hv⟩ := hR.slice
      rw [nats_len] at hv
      subst hv
      by_cases hz : L = []
      · subst hz
        have Hf := Lib.hid hf
        clear hR hf
        go_wp2
        go_ret
        exact .inl ⟨HRe.out, rfl, Hf.out⟩
      · have hpos : 0 < L.length := List.length_pos_iff.2 hz
        have hlz : ((L.length : Int) == 0) = false := by simp; omega
        have hlz2 : ¬ (L.length : Int) = 0 := by omega
        obtain ⟨m, hm, hmn⟩ : ∃ m : Nat, n % (L.length : Int) = (m : Int) ∧ m < L.length := ⟨(n % (L.length : Int)).toNat, by have := Int.emod_nonneg n hlz2; omega, by have := Int.emod_lt_of_pos n (show (0 : Int) < (L.length : Int) by omega); omega⟩
        have hTn : turn L n = some L[m] := by
          unfold turn
          rw [hm, Int.toNat_natCast, List.getElem?_eq_getElem hmn]
        obtain ⟨k, hk⟩ : ∃ k, L[m] = k := ⟨_, rfl⟩
        rw [hk] at hTn
        have hRk : L[m]? = some k := by rw [List.getElem?_eq_getElem hmn, hk]
        obtain ⟨p, x, hpk, hxk⟩ := Hmem.out k (List.mem_of_getElem? hRk)
        obtain ⟨g, rfl, _⟩ := hR.head (by rw [← nats_len L] at hpos; rw [← nats_len L]; exact hpos)
        have c0 := hR.cell m (nats_at hRk)
        have ka : (⟨g, 0, none⟩ : Addr).add m = ⟨g, m, none⟩ := add_plain _ _
        have hS := rstep_any (H0.out.new hf) HH.out hpk hxk (Hok.out _ (List.mem_of_getElem? hpk) _ (List.mem_of_getElem? hxk))
        have ht := tmod_turn n (L.length : Int) (m : Int) hm (by omega) (by omega) (by omega)
        have im0 : (0 : Int) ≤ (m : Int) := by omega
        have im1 : (m : Int) < (L.length : Int) := by omega
        have HS := Lib.hid hS
        have HTn := Lib.hid hTn
        have HR := Lib.hid hR
        have Hf := Lib.hid hf
        have Hp := Lib.hid (And.intro hpk hxk)
        clear hS hTn hk hR hRk hz hf hpk hxk hm
        go_wp2_with fail
        refine HS.out.mono ?_
        rintro e w7 ⟨rfl, hf7, ts', hR7⟩
        clear HS
        have Hf7 := Lib.hid (And.intro hf7 hR7)
        clear hf7 hR7
        go_wp2
        go_ret
        refine .inr ⟨k, ts', by rw [HRe.out]; exact HTn.out, rfl, (Hf.out.mono (fun _ _ h => h.elim)).trans Hf7.out.1 (fun _ _ h => h), ?_⟩
        have e1 : ls.getD k ⟨none, 0, []⟩ = p := by rw [List.getD_eq_getElem?_getD, Hp.out.1]; rfl
        have e2 : p.l.getD (pos k) ⟨0, 0, 0, 0, 0⟩ = x := by rw [List.getD_eq_getElem?_getD, Hp.out.2]; rfl
        rw [e1, e2]
        exact Hf7.out.2
end Go.Proofs.Ytlljfopacdnpbaa
