/- The law's cursors over rows, all of them. Conditions: those of the lemmas. -/
import Derived.Test.YtcpnjlnphjnhnaaTells
namespace Go.Proofs.Ytcpnjlnphjnhnaa
open Go.RowKit
/-- Cursors over the first rows. -/
structure OvsI (W W' : World) (v : Value) (rs : List RowD) (ds : List CD) : Prop where
  row : Row W' 29 v (ds.map fun d => ptrC (some d))
  own : ∀ q, v.ownBlock = some q → W.heap.size ≤ q ∧ ∀ d ∈ ds, ¬ d.foot q
  src : ∀ d ∈ ds, SrcOk d
  st : ∀ (i : Nat) (d : CD) (r : RowD), ds[i]? = some d → rs[i]? = some r → Cst d W' (told none r.l r.e).1 (told none r.l r.e).2 false
  dj : ∀ (i j : Nat) (d d' : CD), ds[i]? = some d → ds[j]? = some d' → i ≠ j → ∀ k, d.foot k → ¬ d'.foot k
  lo : ∀ d ∈ ds, ∀ k, d.foot k → W.heap.size ≤ k
  lt : ∀ d ∈ ds, ∀ k, d.foot k → k < W'.heap.size
  fr : Fr (fun _ => False) W W'
theorem OvsI.fr' {S : Nat → Prop} {W W' W'' : World} {v : Value} {rs : List RowD} {ds : List CD} (h : OvsI W W' v rs ds) (hf : Fr S W' W'') (h1 : ∀ q, v.ownBlock = some q → ¬ S q) (h2 : ∀ d ∈ ds, ∀ k, d.foot k → ¬ S k) (h3 : ∀ k, k < W.heap.size → ¬ S k) : OvsI W W'' v rs ds :=
  ⟨h.row.fr hf h1, h.own, h.src, fun i d r hi hr => (h.st i d r hi hr).fr (h.src d (List.mem_of_getElem? hi)) hf (h2 d (List.mem_of_getElem? hi)), h.dj, h.lo, fun d hd k hk => Nat.lt_of_lt_of_le (h.lt d hd k hk) hf.size, h.fr.trans hf (fun i hi hs => h3 i hi hs)⟩
theorem OvsI.new {W W' W'' : World} {v : Value} {rs : List RowD} {ds : List CD} (h : OvsI W W' v rs ds) (hf : Fr (fun _ => False) W' W'') : OvsI W W'' v rs ds := h.fr' hf (fun _ _ => id) (fun _ _ _ _ => id) (fun _ _ => id)
set_option maxHeartbeats 1000000 in
set_option maxRecDepth 100000 in
theorem overs_any {W : World} {A : Option Addr} {cp : Nat} {rs : List RowD} (hR : RdR W A rs) (hn : rs.length ≤ 1000) (hfew : ∀ r ∈ rs, r.l.length ≤ 1000000) : Calls Try.prog 17 #[.slice A rs.length cp] W fun en W' => ∃ v ds, en = .returned v ∧ ds.length = rs.length ∧ OvsI W W' v rs ds := by
  go_enter Try.func17, Try.ntmps17
  go_wp2_with fail
  go_loopw [3, 4] (fun v i wr => ∃ (j : Nat) (ds : List CD), i = .int .i64 j ∧ j ≤ rs.length ∧ ds.length = j ∧ OvsI W wr v rs ds) (fun _ i _ => rs.length - (intOf i).toNat)
  case atStart => exact ⟨0, [], rfl, Nat.zero_le _, rfl, ⟨Row.nil _ _, fun q h => by simp [Value.ownBlock] at h, fun d h => by simp at h, fun i d r h => by simp at h, fun i j d d' h => by simp at h, fun d h => by simp at h, fun d h => by simp at h, Fr.refl _ _⟩⟩
  case round =>
    obtain ⟨j, ds, rfl, hj, hdl, hO⟩ := hrel
    by_cases hjn : j < rs.length
    · have hx : rs[j]? = some rs[j] := List.getElem?_eq_getElem hjn
      have hmem := List.getElem_mem hjn
      generalize rs[j] = x at hx hmem
      have hR1 := hR.new hO.fr
      obtain ⟨ad, hAe, a0, a1⟩ := hR1.cells hx
      subst hAe
      have ij : (j : Int) < (rs.length : Int) := by omega
      have ij0 : (0 : Int) ≤ (j : Int) := by omega
      have HV := Lib.hid (over_any (cp := x.cp) x.e (hR1.es x hmem) (hfew x hmem))
      have HO := Lib.hid hO
      have hrow := hO.row
      clear hR1 hO
      go_wp2_with fail
      refine HV.out.mono ?_
      rintro en w4 ⟨d, rfl, hd, hc, hf4, hn4⟩
      have hrow4 := hrow.fr hf4 (fun _ _ => id)
      clear hrow HV
      go_wp2_with (at_builtin; go_must (refine app1 rfl _ _ 39 29 (.pointer none) 8 rfl Try.underlying39 infoPtr rfl (by decide) u3 (ds.map fun d => ptrC (some d)) (.pointer (some ⟨d.cb, 0, none⟩)) rfl rfl rfl hrow4 (by rw [List.length_map]; omega) ?_); intro g9 c9 w9 hR9 hor9 hf9 _)
      go_roundw
      case rel =>
        have hO := HO.out.new hf4
        have hlo4 : ∀ k, d.foot k → wr.heap.size ≤ k := fun k hk => by
          rcases hn4 k hk with h | h
          · exact h
          · exact h.elim
        have hlt4 := hc.foot_lt
        have hown : ∀ q, u3.ownBlock = some q → q < wr.heap.size := fun q hq => HO.out.row.lt hq
        have hds : ∀ e ∈ ds ++ [d], ∀ k, e.foot k → ¬ u3.ownBlock = some k := fun e he k hk hq => by
          rcases List.mem_append.1 he with he | he
          · exact (hO.own k hq).2 e he hk
          · rw [List.mem_singleton] at he
            subst he
            have := hown k hq
            have := hlo4 k hk
            omega
        refine ⟨j + 1, ds ++ [d], by go_num, by omega, by simp [hdl], ⟨?_, fun q hq => ?_, fun e he => ?_, fun i e r hi hr => ?_, fun i i' e e' hi hi' hne k h1 h2 => ?_, fun e he k hk => ?_, fun e he k hk => ?_, hO.fr.trans hf9 (fun i hi h => by have := (hO.own i h).1; omega)⟩⟩
        · rw [List.map_append]
          rw [List.length_map, hdl] at hR9
          exact hR9
        · have hq' : g9 = q := by simpa [Value.ownBlock] using hq
          subst hq'
          rcases hor9 with h | h
          · exact ⟨(hO.own _ h).1, fun e he hk => hds e he _ hk h⟩
          · refine ⟨by have := hO.fr.size; omega, fun e he hk => ?_⟩
            rcases List.mem_append.1 he with he | he
            · have := hO.lt e he _ hk; omega
            · rw [List.mem_singleton] at he
              subst he
              have := hlt4 _ hk; omega
        · rcases List.mem_append.1 he with he | he
          · exact hO.src e he
          · rw [List.mem_singleton] at he; subst he; exact hd
        · by_cases hij : i < ds.length
          · rw [List.getElem?_append_left hij] at hi
            have hm := List.mem_of_getElem? hi
            exact (hO.st i e r hi hr).fr (hO.src e hm) hf9 (hds e (by simp [hm]))
          · rw [List.getElem?_append_right (by omega)] at hi
            have h0 : i - ds.length = 0 := by
              have := (List.getElem?_eq_some_iff.1 hi).1
              simp at this
              omega
            rw [h0] at hi
            simp at hi
            subst hi
            rw [show i = j by omega, hx] at hr
            injection hr with hr
            subst hr
            exact hc.fr hd hf9 (hds d (by simp))
        · by_cases h3 : i < ds.length
          · rw [List.getElem?_append_left h3] at hi
            by_cases h4 : i' < ds.length
            · rw [List.getElem?_append_left h4] at hi'
              exact hO.dj i i' e e' hi hi' hne k h1 h2
            · rw [List.getElem?_append_right (by omega)] at hi'
              have h0 : i' - ds.length = 0 := by
                have := (List.getElem?_eq_some_iff.1 hi').1
                simp at this
                omega
              rw [h0] at hi'
              simp at hi'
              subst hi'
              have := HO.out.lt e (List.mem_of_getElem? hi) k h1
              have := hlo4 k h2
              omega
          · rw [List.getElem?_append_right (by omega)] at hi
            have h0 : i - ds.length = 0 := by
              have := (List.getElem?_eq_some_iff.1 hi).1
              simp at this
              omega
            rw [h0] at hi
            simp at hi
            subst hi
            by_cases h4 : i' < ds.length
            · rw [List.getElem?_append_left h4] at hi'
              have := HO.out.lt e' (List.mem_of_getElem? hi') k h2
              have := hlo4 k h1
              omega
            · have h5 : i' = i := by
                have := (List.getElem?_eq_some_iff.1 hi').1
                simp at this
                omega
              exact hne h5.symm
        · rcases List.mem_append.1 he with he | he
          · exact hO.lo e he k hk
          · rw [List.mem_singleton] at he; subst he; have := hlo4 k hk; have := HO.out.fr.size; omega
        · have hs9 := hf9.size
          rcases List.mem_append.1 he with he | he
          · have := hO.lt e he k hk; omega
          · rw [List.mem_singleton] at he; subst he; have := hlt4 k hk; omega
      case measure => simp [intOf]; omega
    · obtain rfl : j = rs.length := by omega
      have HO := Lib.hid hO
      clear hO hR
      go_wp2
      go_ret
      exact ⟨_, ds, rfl, hdl, HO.out⟩
end Go.Proofs.Ytcpnjlnphjnhnaa
