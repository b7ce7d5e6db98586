/- Are rows few? Conditions: those of the lemmas. -/
import Derived.Test.YtcpnjlnphjnhnaaAwake
namespace Go.Proofs.Ytcpnjlnphjnhnaa
open Go.RowKit
/-- Few: its answer, and what it says of the list. -/
def FewQ (W : World) (l : List En) (en : Ending) (W' : World) : Prop := ∃ b : Bool, en = .returned (.bool b) ∧ Fr (fun _ => False) W W' ∧ (b = true → l.length ≤ 3001)
set_option maxHeartbeats 1000000 in
set_option maxRecDepth 100000 in
theorem few1_any {W : World} {A : Option Addr} {cp : Nat} {l : List En} (hR : RdE W A l) : Calls Try.prog 19 #[.slice A l.length cp] W (FewQ W l) := by
  go_enter Try.func19, Try.ntmps19
  go_wp2_with fail
  go_loopw [3, 4] (fun n i wr => ∃ (j m : Nat), i = .int .i64 j ∧ n = .int .i64 m ∧ j ≤ l.length ∧ j ≤ 3001 ∧ m ≤ 1000000 ∧ Fr (fun _ => False) W wr) (fun _ i _ => l.length - (intOf i).toNat)
  case atStart => exact ⟨0, 0, rfl, rfl, Nat.zero_le _, by omega, by omega, Fr.refl _ _⟩
  case round =>
    obtain ⟨j, m, rfl, rfl, hj, hj3, hm, hF⟩ := hrel
    by_cases hjn : j < l.length
    · have hx : l[j]? = some l[j] := List.getElem?_eq_getElem hjn
      generalize l[j] = x at hx
      obtain ⟨ad, hAe, a0, a1, a2⟩ := RdE.cells (hR.fr hF (fun _ _ => id)) hx
      subst hAe
      have ij : (j : Int) < (l.length : Int) := by omega
      have ij0 : (0 : Int) ≤ (j : Int) := by omega
      have HF := Lib.hid hF
      clear hF hx a2
      by_cases h1 : (60000 : Int) < (x.key.size : Int)
      · go_wp2
        go_ret
        exact ⟨false, rfl, HF.out, fun h => by cases h⟩
      · by_cases h2 : (60000 : Int) < (x.val.size : Int)
        · go_wp2
          go_ret
          exact ⟨false, rfl, HF.out, fun h => by cases h⟩
        · by_cases h3 : (3000 : Int) < (j : Int)
          · go_wp2
            go_ret
            exact ⟨false, rfl, HF.out, fun h => by cases h⟩
          · by_cases h4 : (60000 : Int) < (m : Int)
            · go_wp2
              go_ret
              exact ⟨false, rfl, HF.out, fun h => by cases h⟩
            · have t1 : IntKind.i64.wrap ((m : Int) + (x.key.size : Int)) = ((m + x.key.size : Nat) : Int) := by rw [IntWalk.i64_in _ (by omega)]; omega
              have t2 : IntKind.i64.wrap (((m + x.key.size : Nat) : Int) + (x.val.size : Int)) = ((m + x.key.size + x.val.size : Nat) : Int) := by rw [IntWalk.i64_in _ (by omega)]; omega
              go_upto_region 7 with fail
              go_quiet (fail)
              go_wp2
              go_roundw
              case rel => exact ⟨j + 1, m + x.key.size + x.val.size, by go_num, by go_num, by omega, by omega, by omega, HF.out.drewN nq⟩
              case measure => simp [intOf]; omega
    · obtain rfl : j = l.length := by omega
      have HF := Lib.hid hF
      clear hF hR
      go_wp2
      go_ret
      exact ⟨_, rfl, HF.out, fun _ => hj3⟩
/-! ### rows that came in -/
structure RowD where
  A : Option Addr
  cp : Nat
  l : List En
  e : Int
def rowC (r : RowD) : List Value := [.slice r.A r.l.length r.cp, .int .i64 r.e]
def rowsC (rs : List RowD) : List (List Value) := rs.map rowC
theorem rowsC_two (rs : List RowD) : ∀ y ∈ rowsC rs, y.length = 2 := fun y hy => by obtain ⟨p, _, rfl⟩ := List.mem_map.1 hy; rfl
/-- The rows at A, and what each of them holds. -/
structure RdR (W : World) (A : Option Addr) (rs : List RowD) : Prop where
  rd : Rd W A (rowsC rs).flatten
  es : ∀ r ∈ rs, RdE W r.A r.l
theorem RdR.fr {S : Nat → Prop} {W W' : World} {A : Option Addr} {rs : List RowD} (h : RdR W A rs) (hf : Fr S W W') (h1 : ∀ ad, A = some ad → ¬ S ad.block) (h2 : ∀ r ∈ rs, ∀ ad, r.A = some ad → ¬ S ad.block) : RdR W' A rs :=
  ⟨h.rd.fr hf h1, fun r hr => (h.es r hr).fr hf (h2 r hr)⟩
theorem RdR.new {W W' : World} {A : Option Addr} {rs : List RowD} (h : RdR W A rs) (hf : Fr (fun _ => False) W W') : RdR W' A rs := h.fr hf (fun _ _ => id) (fun _ _ _ _ => id)
theorem RdR.cells {W : World} {A : Option Addr} {rs : List RowD} (h : RdR W A rs) {i : Nat} {r : RowD} (hi : rs[i]? = some r) : ∃ ad, A = some ad ∧ W.cell? (ad.add (i * 2)) = some (.slice r.A r.l.length r.cp) ∧ W.cell? ⟨(ad.add (i * 2)).block, (ad.add (i * 2)).off + 1, none⟩ = some (.int .i64 r.e) := by
  have hy : (rowsC rs)[i]? = some (rowC r) := by simp [rowsC, hi]
  obtain ⟨ad, e, h0⟩ := h.rd (i * 2 + 0) (.slice r.A r.l.length r.cp) (by rw [flat_at (rowsC rs) (rowsC_two rs) i 0 _ hy (by decide)]; rfl)
  obtain ⟨ad1, e1, h1⟩ := h.rd (i * 2 + 1) (.int .i64 r.e) (by rw [flat_at (rowsC rs) (rowsC_two rs) i 1 _ hy (by decide)]; rfl)
  rw [e] at e1
  injection e1 with e1
  subst e1
  exact ⟨ad, e, h0, by rw [← add_off (show (1 : Nat) ≠ 0 by decide), add_add]; exact h1⟩
def FewR (W : World) (rs : List RowD) (en : Ending) (W' : World) : Prop := ∃ b : Bool, en = .returned (.bool b) ∧ Fr (fun _ => False) W W' ∧ (b = true → rs.length ≤ 12 ∧ ∀ r ∈ rs, r.l.length ≤ 3001)
set_option maxHeartbeats 1000000 in
set_option maxRecDepth 100000 in
theorem few_any {W : World} {A : Option Addr} {cp : Nat} {rs : List RowD} (hR : RdR W A rs) : Calls Try.prog 9 #[.slice A rs.length cp] W (FewR W rs) := by
  go_enter Try.func9, Try.ntmps9
  go_wp2_with fail
  go_loopw [3, 4] (fun n i wr => ∃ (j m : Nat), i = .int .i64 j ∧ n = .int .i64 m ∧ j ≤ rs.length ∧ j ≤ 12 ∧ m ≤ j * 3001 ∧ (∀ k r, k < j → rs[k]? = some r → r.l.length ≤ 3001) ∧ Fr (fun _ => False) W wr) (fun _ i _ => rs.length - (intOf i).toNat)
  case atStart => exact ⟨0, 0, rfl, rfl, Nat.zero_le _, by omega, by omega, fun k r hk => by omega, Fr.refl _ _⟩
  case round =>
    obtain ⟨j, m, rfl, rfl, hj, hj3, hm, hall, hF⟩ := hrel
    by_cases hjn : j < rs.length
    · have hx : rs[j]? = some rs[j] := List.getElem?_eq_getElem hjn
      have hmem := List.getElem_mem hjn
      generalize rs[j] = x at hx hmem
      have hR1 := hR.new hF
      obtain ⟨ad, hAe, a0, a1⟩ := hR1.cells hx
      subst hAe
      have ij : (j : Int) < (rs.length : Int) := by omega
      have ij0 : (0 : Int) ≤ (j : Int) := by omega
      by_cases h1 : (12 : Int) ≤ (j : Int)
      · have HF := Lib.hid hF
        clear hF hx a1 hall hR1
        go_wp2
        go_ret
        exact ⟨false, rfl, HF.out, fun h => by cases h⟩
      · have HE := Lib.hid (few1_any (cp := x.cp) (hR1.es x hmem))
        have HF := Lib.hid (And.intro hF (And.intro hall hx))
        clear hF hx a1 hall hR1
        go_wp2_with fail
        refine HE.out.mono ?_
        rintro en w4 ⟨b, rfl, hf4, hb⟩
        obtain ⟨hF, hall, hx⟩ := HF.out
        cases b with
        | false =>
          have HF4 := Lib.hid (hF.trans hf4 (fun _ _ h => h))
          clear hF hall hx hf4 HE HF a0
          go_wp2
          go_ret
          exact ⟨false, rfl, HF4.out, fun h => by cases h⟩
        | true =>
          have hb := hb rfl
          have a0 := hf4.cell a0 id
          have HF4 := Lib.hid (And.intro (hF.trans hf4 (fun _ _ h => h)) (show ∀ k r, k < j + 1 → rs[k]? = some r → r.l.length ≤ 3001 from fun k r hk hr => by
            by_cases e : k = j
            · subst e
              rw [hx] at hr
              injection hr with hr
              rw [← hr]
              exact hb
            · exact hall k r (by omega) hr))
          have t1 : IntKind.i64.wrap ((m : Int) + (x.l.length : Int)) = ((m + x.l.length : Nat) : Int) := by rw [IntWalk.i64_in _ (by omega)]; omega
          clear hF hall hx hf4 HE HF
          go_wp2
          go_roundw
          case rel => exact ⟨j + 1, m + x.l.length, by go_num, by go_num, by omega, by omega, by omega, HF4.out.2, HF4.out.1⟩
          case measure => simp [intOf]; omega
    · obtain rfl : j = rs.length := by omega
      have HF := Lib.hid (And.intro hF hall)
      clear hF hR hall
      go_wp2
      go_ret
      exact ⟨_, rfl, HF.out.1, fun _ => ⟨hj3, fun r hr => by
        obtain ⟨k, hk⟩ := List.getElem?_of_mem hr
        exact HF.out.2 k r (List.getElem?_eq_some_iff.1 hk).1 hk⟩⟩
end Go.Proofs.Ytcpnjlnphjnhnaa
