/- The reference's book: New, seen, Retire. Conditions: those of the lemmas. -/
import Derived.Test.YtolkoagjompjjaaRef
import Derived.Deep.DeepCutAuto
namespace Go.Proofs.Ytolkoagjompjjaa
open Go.RowKit
theorem rnew_no (n : Int) (h : n < 1 ∨ 16 < n) (w : World) : Calls Try.prog 8 #[.int .i64 n] w fun e w' => e = .returned (.tuple #[.agg #[.int .i64 0, .slice none 0 0, .slice none 0 0, .slice none 0 0], .int .i64 1]) ∧ Fr (fun _ => False) w w' := by
  have f0 : Fr (fun _ => False) w (w.alloc (.cells #[.int .i64 0, .slice none 0 0, .slice none 0 0, .slice none 0 0] 30)) := (Fr.refl _ w).alloc _
  rcases h with h | h
  · go_enter Try.func8, Try.ntmps8
    go_wp2
    exact bodyPost_ret (v := .tuple #[.agg #[.int .i64 0, .slice none 0 0, .slice none 0 0, .slice none 0 0], .int .i64 1]) (by simp [results, Try.results8, go_sem]) rfl ⟨rfl, f0⟩
  · have h' : ¬ n ≤ 0 := by omega
    go_enter Try.func8, Try.ntmps8
    go_wp2
    exact bodyPost_ret (v := .tuple #[.agg #[.int .i64 0, .slice none 0 0, .slice none 0 0, .slice none 0 0], .int .i64 1]) (by simp [results, Try.results8, go_sem]) rfl ⟨rfl, f0⟩
theorem rnew_ok (n : Nat) (h0 : 1 ≤ n) (h1 : n ≤ 16) (w : World) : Calls Try.prog 8 #[.int .i64 (n : Int)] w fun e w' =>
    ∃ sv, e = .returned (.tuple #[.agg #[.int .i64 1, sv, .slice none 0 0, .slice none 0 0], .int .i64 0]) ∧ Row w' 3 sv (i64s (List.replicate n 0)) ∧ Fr (fun _ => False) w w' ∧ (∀ q, sv.ownBlock = some q → w.heap.size ≤ q) := by
  have hmk := run_make_row' (P := Try.prog) 27 3 (.int .i64 0) 8 Try.underlying27 (by kernel_rfl) rfl .i64 .i64 n (by omega) (by omega)
  have hrow := fun w1 => Row.lit w1 3 (i64s (List.replicate n 0)) (by simp [i64s]; omega)
  rw [made_zero n, show (i64s (List.replicate n 0)).length = n by simp [i64s]] at hrow
  go_enter Try.func8, Try.ntmps8
  go_wp2
  have h2 := hrow (w.alloc (.cells #[.int .i64 1, .slice (some ⟨w.heap.size + 1, 0, none⟩) n n, .slice none 0 0, .slice none 0 0] 30))
  rw [World.size_alloc] at h2
  refine bodyPost_ret (v := .tuple #[.agg #[.int .i64 1, .slice (some ⟨w.heap.size + 1, 0, none⟩) n n, .slice none 0 0, .slice none 0 0], .int .i64 0]) (by simp [results, Try.results8, go_sem]) rfl ⟨_, rfl, h2, ((Fr.refl _ w).alloc _).alloc _, fun q hq => ?_⟩
  have : w.heap.size + 1 = q := by simpa [Value.ownBlock] using hq
  omega
def seenB (time : Int) (slots : List Int) (at_ : Int) : Bool := decide (time ≤ at_) || slots.any (fun s => decide (0 < s ∧ s ≤ at_))
set_option maxHeartbeats 1000000 in
set_option maxRecDepth 100000 in
theorem seen_any {W : World} {b : Nat} {now : Int} {sv : Value} {slots : List Int} {ov : Value} {olds : List Value} {av : Value} {ats : List Int} (h : RefB W b now sv slots ov olds av ats) (hs : slots.length ≤ 16) (at_ : Int) :
    Calls Try.prog 31 #[.pointer (some ⟨b, 0, none⟩), .int .i64 at_] W fun e w' => e = .returned (.bool (seenB now slots at_)) ∧ W = w' := by
  have k0 := h.blk.cell 0 rfl
  have k1 := h.blk.cell 1 rfl
  obtain ⟨A, c, hv⟩ := h.slot.slice
  rw [i64s_len] at hv
  subst hv
  have hrow := h.slot
  have e0 : Hid (seenB now slots at_ = (decide (now ≤ at_) || slots.any (fun s => decide (0 < s ∧ s ≤ at_)))) := rfl
  generalize seenB now slots at_ = R at e0 ⊢
  clear h
  by_cases c1 : now ≤ at_
  · have hR : R = true := by rw [e0.out, decide_eq_true c1]; rfl
    subst hR
    clear e0
    go_enter Try.func31, Try.ntmps31
    go_wp2
    go_ret
    exact ⟨rfl, rfl⟩
  · go_enter Try.func31, Try.ntmps31
    go_wp2_with fail
    go_loop [5] (fun i => ∃ k : Nat, k ≤ slots.length ∧ i = .int .i64 k ∧ ∀ s ∈ slots.take k, ¬ (0 < s ∧ s ≤ at_)) (fun i => slots.length - (intOf i).toNat)
    case atStart => exact ⟨0, Nat.zero_le _, rfl, fun s hs => by simp at hs⟩
    case round =>
      obtain ⟨k, hk, rfl, hall⟩ := hrel
      by_cases hlt : k < slots.length
      · obtain ⟨g, rfl, hgc⟩ := hrow.head (by omega)
        have kc := hrow.cell k (i64s_at hlt)
        have ka : (⟨g, 0, none⟩ : Addr).add k = ⟨g, k, none⟩ := add_plain g k
        have hst : slots.take (k + 1) = slots.take k ++ [slots.getD k 0] := by
          rw [List.take_add_one, List.getD_eq_getElem?_getD, List.getElem?_eq_getElem hlt]; rfl
        have hmem : slots.getD k 0 ∈ slots := by
          rw [List.getD_eq_getElem?_getD, List.getElem?_eq_getElem hlt]; exact List.getElem_mem hlt
        generalize slots.getD k 0 = z at kc hst hmem
        by_cases hz : 0 < z
        · by_cases hz2 : z ≤ at_
          · have hR : R = true := by
              rw [e0.out, Bool.or_eq_true]
              exact .inr (List.any_eq_true.2 ⟨z, hmem, by simp [hz, hz2]⟩)
            subst hR
            clear e0 hst hall hmem
            go_wp2
            go_ret
            exact ⟨rfl, rfl⟩
          · have hall' : Hid (∀ s ∈ slots.take (k + 1), ¬ (0 < s ∧ s ≤ at_)) := by
              unfold Hid
              rw [hst]
              intro s hs
              rcases List.mem_append.1 hs with hs | hs
              · exact hall s hs
              · rw [List.mem_singleton.1 hs]; omega
            clear hst hall hmem
            go_wp2
            go_round
            case rel => exact ⟨k + 1, by omega, by go_num, hall'.out⟩
            case measure => simp [intOf]; omega
        · have hall' : Hid (∀ s ∈ slots.take (k + 1), ¬ (0 < s ∧ s ≤ at_)) := by
            unfold Hid
            rw [hst]
            intro s hs
            rcases List.mem_append.1 hs with hs | hs
            · exact hall s hs
            · rw [List.mem_singleton.1 hs]; omega
          clear hst hall hmem
          go_wp2
          go_round
          case rel => exact ⟨k + 1, by omega, by go_num, hall'.out⟩
          case measure => simp [intOf]; omega
      · obtain rfl : k = slots.length := by omega
        rw [List.take_of_length_le (Nat.le_refl _)] at hall
        have hR : R = false := by
          rw [e0.out, decide_eq_false (by omega), Bool.false_or]
          rw [List.any_eq_false]
          intro s hs
          simpa using hall s hs
        subst hR
        clear e0 hall
        go_wp2
        go_ret
        exact ⟨rfl, rfl⟩
end Go.Proofs.Ytolkoagjompjjaa
