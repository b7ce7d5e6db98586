/- A book's calls (its things: one cell each). Conditions: those of the lemmas. -/
import Derived.Test.YtolkoagjompjjaaBookPre
namespace Go.Proofs.Ytolkoagjompjjaa
open Go.RowKit
theorem infoWS : (Try.prog.info? 61).map (fun i => (i.zero, i.size, i.bytes)) = some (some (.agg #[(Value.string ⟨#[]⟩), .int .i64 0]), 2, 24) := by kernel_rfl
theorem infoTS : (Try.prog.info? 9).map (fun i => (i.zero, i.size, i.bytes)) = some (some (Value.string ⟨#[]⟩), 1, 16) := by kernel_rfl
structure BookS (W : World) (b : Nat) (now : Int) (sv : Value) (slots : List Int) (ov : Value) (old : List (Value × Int)) : Prop where
  blk : Blk W b [.int .i64 now, sv, ov] 58
  slot : Row W 3 sv (i64s slots)
  wait : RowK W 61 2 ov (waits old)
theorem BookS.fr {S : Nat → Prop} {W W' : World} {b : Nat} {now : Int} {sv : Value} {slots : List Int} {ov : Value} {old : List (Value × Int)} (h : BookS W b now sv slots ov old) (hf : Fr S W W')
    (h1 : ¬ S b) (h2 : ∀ q, sv.ownBlock = some q → ¬ S q) (h3 : ∀ q, ov.ownBlock = some q → ¬ S q) : BookS W' b now sv slots ov old :=
  ⟨hf.blk h.blk h1, h.slot.fr hf h2, h.wait.fr hf h3⟩
theorem nowS_any {W : World} {b : Nat} {now : Int} {sv : Value} {slots : List Int} {ov : Value} {old : List (Value × Int)} (h : BookS W b now sv slots ov old) :
    Calls Try.prog 19 #[.pointer (some ⟨b, 0, none⟩)] W fun e w' => e = .returned (.int .i64 now) ∧ W = w' := by
  have k0 := h.blk.cell 0 rfl
  go_enter Try.func19, Try.ntmps19
  go_wp2
  go_ret
  exact ⟨rfl, rfl⟩
theorem heldS_any {W : World} {b : Nat} {now : Int} {sv : Value} {slots : List Int} {ov : Value} {old : List (Value × Int)} (h : BookS W b now sv slots ov old) :
    Calls Try.prog 20 #[.pointer (some ⟨b, 0, none⟩)] W fun e w' => e = .returned (.int .i64 old.length) ∧ W = w' := by
  have k2 := h.blk.cell 2 rfl
  obtain ⟨A, c, hv⟩ := h.wait.slice
  rw [waits_len] at hv
  rw [hv] at k2
  go_enter Try.func20, Try.ntmps20
  go_wp2
  go_ret
  exact ⟨rfl, rfl⟩
theorem newS_no (n : Int) (h : n < 1 ∨ 16 < n) (w : World) : Calls Try.prog 7 #[.int .i64 n] w fun e w' => e = .returned (.tuple #[.pointer none, .int .i64 1]) ∧ w = w' := by
  rcases h with h | h
  · go_enter Try.func7, Try.ntmps7
    go_wp2
    go_ret2
    exact ⟨rfl, rfl⟩
  · have h' : ¬ n < 1 := by omega
    go_enter Try.func7, Try.ntmps7
    go_wp2
    go_ret2
    exact ⟨rfl, rfl⟩
theorem newS_ok (n : Nat) (h0 : 1 ≤ n) (h1 : n ≤ 16) (w : World) : Calls Try.prog 7 #[.int .i64 (n : Int)] w fun e w' =>
    ∃ b sv, e = .returned (.tuple #[.pointer (some ⟨b, 0, none⟩), .int .i64 0]) ∧ BookS w' b 1 sv (List.replicate n 0) (.slice none 0 0) [] ∧ Fr (fun _ => False) w w' ∧ w.heap.size ≤ b ∧ (∀ q, sv.ownBlock = some q → w.heap.size ≤ q) := by
  have hmk := run_make_row' (P := Try.prog) 27 3 (.int .i64 0) 8 Try.underlying27 (by kernel_rfl) rfl .i64 .i64 n (by omega) (by omega)
  have hrow := Row.lit w 3 (i64s (List.replicate n 0)) (by simp [i64s]; omega)
  rw [made_zero n, show (i64s (List.replicate n 0)).length = n by simp [i64s]] at hrow
  go_enter Try.func7, Try.ntmps7
  go_wp2
  go_ret2
  refine ⟨_, _, rfl, ⟨Blk.at_new _ _ _ _ _ (by simp) rfl, hrow.alloc _, RowK.nil _ _ _⟩, ((Fr.refl _ w).alloc _).alloc _, by omega, ?_⟩
  intro q hq
  have : w.heap.size = q := by simpa [Value.ownBlock] using hq
  omega
set_option maxHeartbeats 1000000 in
theorem enterS_any {W : World} {b : Nat} {now : Int} {sv : Value} {slots : List Int} {ov : Value} {old : List (Value × Int)} (h : BookS W b now sv slots ov old) (slot at_ : Int) (hs : slots.length ≤ 16) :
    Calls Try.prog 10 #[.pointer (some ⟨b, 0, none⟩), .int .i64 slot, .int .i64 at_] W fun e w' => e = .returned (.int .i64 (enterE now slots slot at_)) ∧
      BookS w' b now sv (if enterE now slots slot at_ = 0 then slots.set slot.toNat at_ else slots) ov old ∧ Fr (fun q => sv.ownBlock = some q) W w' ∧ w'.heap.size = W.heap.size := by
  have k0 := h.blk.cell 0 rfl
  have k1 := h.blk.cell 1 rfl
  obtain ⟨A, c, hv⟩ := h.slot.slice
  rw [i64s_len] at hv
  subst hv
  generalize hsl : (if enterE now slots slot at_ = 0 then slots.set slot.toNat at_ else slots) = slots'
  have Hsl := Lib.hid hsl
  clear hsl
  have he : Hid (enterE now slots slot at_ = if slot < 0 ∨ (slots.length : Int) ≤ slot ∨ at_ < 1 ∨ now < at_ then 1 else if slots.getD slot.toNat 0 ≠ 0 then 11 else 0) := rfl
  generalize enterE now slots slot at_ = E at he Hsl ⊢
  by_cases c1 : slot < 0
  · rw [if_pos (.inl c1)] at he
    go_enter Try.func10, Try.ntmps10
    go_wp2
    go_ret
    exact ⟨ret_int he.out.symm, by (have hs2 := Hsl.out; rw [he.out, if_neg (by decide)] at hs2; rw [← hs2]; exact h), Fr.refl _ _, rfl⟩
  by_cases c2 : (slots.length : Int) ≤ slot
  · rw [if_pos (.inr (.inl c2))] at he
    go_enter Try.func10, Try.ntmps10
    go_wp2
    go_ret
    exact ⟨ret_int he.out.symm, by (have hs2 := Hsl.out; rw [he.out, if_neg (by decide)] at hs2; rw [← hs2]; exact h), Fr.refl _ _, rfl⟩
  by_cases c3 : at_ < 1
  · rw [if_pos (.inr (.inr (.inl c3)))] at he
    go_enter Try.func10, Try.ntmps10
    go_wp2
    go_ret
    exact ⟨ret_int he.out.symm, by (have hs2 := Hsl.out; rw [he.out, if_neg (by decide)] at hs2; rw [← hs2]; exact h), Fr.refl _ _, rfl⟩
  by_cases c4 : now < at_
  · rw [if_pos (.inr (.inr (.inr c4)))] at he
    go_enter Try.func10, Try.ntmps10
    go_wp2
    go_ret
    exact ⟨ret_int he.out.symm, by (have hs2 := Hsl.out; rw [he.out, if_neg (by decide)] at hs2; rw [← hs2]; exact h), Fr.refl _ _, rfl⟩
  rw [if_neg (by omega)] at he
  obtain ⟨k, rfl⟩ : ∃ k : Nat, slot = k := ⟨slot.toNat, by omega⟩
  have hk : k < slots.length := by omega
  rw [Int.toNat_natCast] at he
  rw [Int.toNat_natCast] at Hsl
  have hrow := h.slot
  obtain ⟨g, rfl, hgc⟩ := hrow.head (by omega)
  have kc := hrow.cell k (i64s_at hk)
  have kf := hrow.free k
  have ka : (⟨g, 0, none⟩ : Addr).add k = ⟨g, k, none⟩ := add_plain g k
  by_cases c5 : slots.getD k 0 = 0
  · rw [if_neg (by simpa using c5)] at he
    rw [c5] at kc
    go_enter Try.func10, Try.ntmps10
    go_wp2
    go_ret
    refine ⟨ret_int he.out.symm, ?_, (Fr.refl _ W).setCell _ _ (fun _ => rfl), by simp [World.setCell]⟩
    have hs2 := Hsl.out
    rw [he.out, if_pos rfl] at hs2
    rw [← hs2]
    refine ⟨h.blk.other (fun hh => ?_) _, ?_, h.wait.other (fun hh => ?_) _⟩
    · exact (hrow.ne h.blk (by decide)) (by rw [hh]; rfl)
    · have := hrow.set k (.int .i64 at_)
      unfold i64s at this ⊢
      rw [List.map_set]
      exact this
    · exact h.wait.ne_row hrow (by decide) g hh rfl
  · rw [if_pos c5] at he
    have c5' : ¬ slots.getD k 0 = 0 := c5
    generalize slots.getD k 0 = z at kc c5'
    go_enter Try.func10, Try.ntmps10
    go_wp2
    go_ret
    exact ⟨ret_int he.out.symm, by (have hs2 := Hsl.out; rw [he.out, if_neg (by decide)] at hs2; rw [← hs2]; exact h), Fr.refl _ _, rfl⟩
set_option maxHeartbeats 1000000 in
theorem leaveS_any {W : World} {b : Nat} {now : Int} {sv : Value} {slots : List Int} {ov : Value} {old : List (Value × Int)} (h : BookS W b now sv slots ov old) (slot : Int) (hs : slots.length ≤ 16) :
    Calls Try.prog 12 #[.pointer (some ⟨b, 0, none⟩), .int .i64 slot] W fun e w' => e = .returned (.int .i64 (leaveE slots slot)) ∧
      BookS w' b now sv (if leaveE slots slot = 0 then slots.set slot.toNat 0 else slots) ov old ∧ Fr (fun q => sv.ownBlock = some q) W w' ∧ w'.heap.size = W.heap.size := by
  have k1 := h.blk.cell 1 rfl
  obtain ⟨A, c, hv⟩ := h.slot.slice
  rw [i64s_len] at hv
  subst hv
  generalize hsl : (if leaveE slots slot = 0 then slots.set slot.toNat 0 else slots) = slots'
  have Hsl := Lib.hid hsl
  clear hsl
  have he : Hid (leaveE slots slot = if slot < 0 ∨ (slots.length : Int) ≤ slot then 1 else if slots.getD slot.toNat 0 = 0 then 11 else 0) := rfl
  generalize leaveE slots slot = E at he Hsl ⊢
  by_cases c1 : slot < 0
  · rw [if_pos (.inl c1)] at he
    go_enter Try.func12, Try.ntmps12
    go_wp2
    go_ret
    exact ⟨ret_int he.out.symm, by (have hs2 := Hsl.out; rw [he.out, if_neg (by decide)] at hs2; rw [← hs2]; exact h), Fr.refl _ _, rfl⟩
  by_cases c2 : (slots.length : Int) ≤ slot
  · rw [if_pos (.inr c2)] at he
    go_enter Try.func12, Try.ntmps12
    go_wp2
    go_ret
    exact ⟨ret_int he.out.symm, by (have hs2 := Hsl.out; rw [he.out, if_neg (by decide)] at hs2; rw [← hs2]; exact h), Fr.refl _ _, rfl⟩
  rw [if_neg (by omega)] at he
  obtain ⟨k, rfl⟩ : ∃ k : Nat, slot = k := ⟨slot.toNat, by omega⟩
  have hk : k < slots.length := by omega
  rw [Int.toNat_natCast] at he
  rw [Int.toNat_natCast] at Hsl
  have hrow := h.slot
  obtain ⟨g, rfl, hgc⟩ := hrow.head (by omega)
  have kc := hrow.cell k (i64s_at hk)
  have kf := hrow.free k
  have ka : (⟨g, 0, none⟩ : Addr).add k = ⟨g, k, none⟩ := add_plain g k
  by_cases c5 : slots.getD k 0 = 0
  · rw [if_pos c5] at he
    rw [c5] at kc
    go_enter Try.func12, Try.ntmps12
    go_wp2
    go_ret
    exact ⟨ret_int he.out.symm, by (have hs2 := Hsl.out; rw [he.out, if_neg (by decide)] at hs2; rw [← hs2]; exact h), Fr.refl _ _, rfl⟩
  · rw [if_neg c5] at he
    have c5' : ¬ slots.getD k 0 = 0 := c5
    generalize slots.getD k 0 = z at kc c5'
    go_enter Try.func12, Try.ntmps12
    go_wp2
    go_ret
    refine ⟨ret_int he.out.symm, ?_, (Fr.refl _ W).setCell _ _ (fun _ => rfl), by simp [World.setCell]⟩
    have hs2 := Hsl.out
    rw [he.out, if_pos rfl] at hs2
    rw [← hs2]
    refine ⟨h.blk.other (fun hh => ?_) _, ?_, h.wait.other (fun hh => ?_) _⟩
    · exact (hrow.ne h.blk (by decide)) (by rw [hh]; rfl)
    · have := hrow.set k (.int .i64 0)
      unfold i64s at this ⊢
      rw [List.map_set]
      exact this
    · exact h.wait.ne_row hrow (by decide) g hh rfl
set_option maxHeartbeats 1000000 in
theorem readersS_any {W : World} {b : Nat} {now : Int} {sv : Value} {slots : List Int} {ov : Value} {old : List (Value × Int)} (h : BookS W b now sv slots ov old) (hs : slots.length ≤ 16) :
    Calls Try.prog 21 #[.pointer (some ⟨b, 0, none⟩)] W fun e w' => e = .returned (.int .i64 (readers slots)) ∧ W = w' := by
  have k1 := h.blk.cell 1 rfl
  obtain ⟨A, c, hv⟩ := h.slot.slice
  rw [i64s_len] at hv
  subst hv
  have hrow := h.slot
  go_enter Try.func21, Try.ntmps21
  go_wp2
  go_loop [3, 13] (fun c i => ∃ k : Nat, k ≤ slots.length ∧ i = .int .i64 k ∧ c = .int .i64 (readers (slots.take k))) (fun _ i => slots.length - (intOf i).toNat)
  case atStart => exact ⟨0, Nat.zero_le _, rfl, rfl⟩
  case round =>
    obtain ⟨k, hk, rfl, rfl⟩ := hrel
    by_cases hlt : k < slots.length
    · obtain ⟨g, rfl, hgc⟩ := hrow.head (by omega)
      have kc := hrow.cell k (i64s_at hlt)
      have ka : (⟨g, 0, none⟩ : Addr).add k = ⟨g, k, none⟩ := add_plain g k
      have hst := readers_step slots k hlt
      have hrb := readers_le (slots.take k)
      rw [List.length_take] at hrb
      generalize slots.getD k 0 = z at kc hst
      generalize readers (slots.take k) = r at hst hrb
      have Hst := Lib.hid hst
      clear hst
      by_cases hz : z = 0
      · subst hz
        go_wp2
        go_round
        case rel => exact ⟨k + 1, by omega, by go_num, by rw [Hst.out, if_pos rfl]⟩
        case measure => simp [intOf]; omega
      · go_wp2
        go_round
        case rel => exact ⟨k + 1, by omega, by go_num, by rw [Hst.out, if_neg hz]; go_num⟩
        case measure => simp [intOf]; omega
    · obtain rfl : k = slots.length := by omega
      rw [List.take_of_length_le (Nat.le_refl _)]
      go_wp2
      go_ret
      exact ⟨rfl, rfl⟩
end Go.Proofs.Ytolkoagjompjjaa
