/- The reference's book and its calls. Conditions: those of the lemmas. -/
import Derived.Test.YtolkoagjompjjaaBookPre
namespace Go.Proofs.Ytolkoagjompjjaa
open Go.RowKit
theorem infoStr : (Try.prog.info? 9).map (fun i => (i.zero, i.size, i.bytes)) = some (some (Value.string ⟨#[]⟩), 1, 16) := by kernel_rfl
theorem infoInt : (Try.prog.info? 3).map (fun i => (i.zero, i.size, i.bytes)) = some (some (Value.int .i64 0), 1, 8) := by kernel_rfl
structure RefB (W : World) (b : Nat) (time : Int) (sv : Value) (slots : List Int) (ov : Value) (olds : List Value) (av : Value) (ats : List Int) : Prop where
  blk : Blk W b [.int .i64 time, sv, ov, av] 30
  slot : Row W 3 sv (i64s slots)
  oldr : Row W 9 ov olds
  atr : Row W 3 av (i64s ats)
  apart : ∀ q, sv.ownBlock = some q → av.ownBlock ≠ some q
  same : olds.length = ats.length
theorem RefB.fr {S : Nat → Prop} {W W' : World} {b : Nat} {time : Int} {sv : Value} {slots : List Int} {ov : Value} {olds : List Value} {av : Value} {ats : List Int} (h : RefB W b time sv slots ov olds av ats) (hf : Fr S W W')
    (h1 : ¬ S b) (h2 : ∀ q, sv.ownBlock = some q → ¬ S q) (h3 : ∀ q, ov.ownBlock = some q → ¬ S q) (h4 : ∀ q, av.ownBlock = some q → ¬ S q) : RefB W' b time sv slots ov olds av ats :=
  ⟨hf.blk h.blk h1, h.slot.fr hf h2, h.oldr.fr hf h3, h.atr.fr hf h4, h.apart, h.same⟩
set_option maxHeartbeats 1000000 in
theorem rreaders_any {W : World} {b : Nat} {time : Int} {sv : Value} {slots : List Int} {ov : Value} {olds : List Value} {av : Value} {ats : List Int} (h : RefB W b time sv slots ov olds av ats) (hs : slots.length ≤ 16) (hp : ∀ s ∈ slots, 0 ≤ s) :
    Calls Try.prog 22 #[.pointer (some ⟨b, 0, none⟩)] W fun e w' => e = .returned (.int .i64 (readers slots)) ∧ W = w' := by
  have k1 := h.blk.cell 1 rfl
  obtain ⟨A, c, hv⟩ := h.slot.slice
  rw [i64s_len] at hv
  subst hv
  have hrow := h.slot
  go_enter Try.func22, Try.ntmps22
  go_wp2
  go_loop [3, 4] (fun c i => ∃ k : Nat, k ≤ slots.length ∧ i = .int .i64 k ∧ c = .int .i64 (readers (slots.take k))) (fun _ i => slots.length - (intOf i).toNat)
  case atStart => exact ⟨0, Nat.zero_le _, rfl, rfl⟩
  case round =>
    obtain ⟨k, hk, rfl, rfl⟩ := hrel
    by_cases hlt : k < slots.length
    · obtain ⟨g, rfl, hgc⟩ := hrow.head (by omega)
      have kc := hrow.cell k (i64s_at hlt)
      have ka : (⟨g, 0, none⟩ : Addr).add k = ⟨g, k, none⟩ := add_plain g k
      have hst := readers_step slots k hlt
      have hrb := readers_le (slots.take k)
      rw [List.length_take] at hrb
      have hz0 : 0 ≤ slots.getD k 0 := by
        rw [List.getD_eq_getElem?_getD, List.getElem?_eq_getElem hlt]
        exact hp _ (List.getElem_mem hlt)
      generalize slots.getD k 0 = z at kc hst hz0
      generalize readers (slots.take k) = r at hst hrb
      have Hst := Lib.hid hst
      clear hst
      by_cases hz : z = 0
      · subst hz
        go_wp2
        go_round
        case rel => exact ⟨k + 1, by omega, by go_num, by rw [Hst.out, if_pos rfl]⟩
        case measure => simp [intOf]; omega
      · have hz1 : 0 < z := by omega
        go_wp2
        go_round
        case rel => exact ⟨k + 1, by omega, by go_num, by rw [Hst.out, if_neg hz]; go_num⟩
        case measure => simp [intOf]; omega
    · obtain rfl : k = slots.length := by omega
      rw [List.take_of_length_le (Nat.le_refl _)]
      go_wp2
      go_ret
      exact ⟨rfl, rfl⟩
set_option maxHeartbeats 1000000 in
theorem renter_any {W : World} {b : Nat} {now : Int} {sv : Value} {slots : List Int} {ov : Value} {olds : List Value} {av : Value} {ats : List Int} (h : RefB W b now sv slots ov olds av ats) (slot at_ : Int) (hs : slots.length ≤ 16) (hp : ∀ s ∈ slots, 0 ≤ s) :
    Calls Try.prog 11 #[.pointer (some ⟨b, 0, none⟩), .int .i64 slot, .int .i64 at_] W fun e w' => e = .returned (.int .i64 (enterE now slots slot at_)) ∧
      RefB w' b now sv (if enterE now slots slot at_ = 0 then slots.set slot.toNat at_ else slots) ov olds av ats ∧ Fr (fun q => sv.ownBlock = some q) W w' ∧ w'.heap.size = W.heap.size := by
  have k0 := h.blk.cell 0 rfl
  have k1 := h.blk.cell 1 rfl
  obtain ⟨A, c, hv⟩ := h.slot.slice
  rw [i64s_len] at hv
  subst hv
  generalize hsl : (if enterE now slots slot at_ = 0 then slots.set slot.toNat at_ else slots) = slots'
  have Hsl := Lib.hid hsl
  clear hsl
  have he : Hid (enterE now slots slot at_ = if slot < 0 ∨ (slots.length : Int) ≤ slot ∨ at_ < 1 ∨ now < at_ then 1 else if slots.getD slot.toNat 0 ≠ 0 then 11 else 0) := rfl
  generalize enterE now slots slot at_ = E at he Hsl ⊢
  by_cases c1 : slot < 0
  · rw [if_pos (.inl c1)] at he
    go_enter Try.func11, Try.ntmps11
    go_wp2
    go_ret
    exact ⟨ret_int he.out.symm, by (have hs2 := Hsl.out; rw [he.out, if_neg (by decide)] at hs2; rw [← hs2]; exact h), Fr.refl _ _, rfl⟩
  by_cases c2 : (slots.length : Int) ≤ slot
  · rw [if_pos (.inr (.inl c2))] at he
    go_enter Try.func11, Try.ntmps11
    go_wp2
    go_ret
    exact ⟨ret_int he.out.symm, by (have hs2 := Hsl.out; rw [he.out, if_neg (by decide)] at hs2; rw [← hs2]; exact h), Fr.refl _ _, rfl⟩
  by_cases c3 : at_ < 1
  · rw [if_pos (.inr (.inr (.inl c3)))] at he
    go_enter Try.func11, Try.ntmps11
    go_wp2
    go_ret
    exact ⟨ret_int he.out.symm, by (have hs2 := Hsl.out; rw [he.out, if_neg (by decide)] at hs2; rw [← hs2]; exact h), Fr.refl _ _, rfl⟩
  by_cases c4 : now < at_
  · rw [if_pos (.inr (.inr (.inr c4)))] at he
    go_enter Try.func11, Try.ntmps11
    go_wp2
    go_ret
    exact ⟨ret_int he.out.symm, by (have hs2 := Hsl.out; rw [he.out, if_neg (by decide)] at hs2; rw [← hs2]; exact h), Fr.refl _ _, rfl⟩
  rw [if_neg (by omega)] at he
  obtain ⟨k, rfl⟩ : ∃ k : Nat, slot = k := ⟨slot.toNat, by omega⟩
  have hk : k < slots.length := by omega
  rw [Int.toNat_natCast] at he
  rw [Int.toNat_natCast] at Hsl
  have hrow := h.slot
  obtain ⟨g, rfl, hgc⟩ := hrow.head (by omega)
  have kc := hrow.cell k (i64s_at hk)
  have kf := hrow.free k
  have ka : (⟨g, 0, none⟩ : Addr).add k = ⟨g, k, none⟩ := add_plain g k
  by_cases c5 : slots.getD k 0 = 0
  · rw [if_neg (by simpa using c5)] at he
    rw [c5] at kc
    go_enter Try.func11, Try.ntmps11
    go_wp2
    go_ret
    refine ⟨ret_int he.out.symm, ?_, (Fr.refl _ W).setCell _ _ (fun _ => rfl), by simp [World.setCell]⟩
    have hs2 := Hsl.out
    rw [he.out, if_pos rfl] at hs2
    rw [← hs2]
    refine ⟨h.blk.other (fun hh => ?_) _, ?_, h.oldr.other (fun hh => ?_) _, h.atr.other (fun hh => ?_) _, h.apart, h.same⟩
    · exact (hrow.ne h.blk (by decide)) (by rw [hh]; rfl)
    · have := hrow.set k (.int .i64 at_)
      unfold i64s at this ⊢
      rw [List.map_set]
      exact this
    · exact h.oldr.ne_row hrow (by decide) g hh rfl
    · exact h.apart g rfl hh
  · rw [if_pos c5] at he
    have c5' : 0 < slots.getD k 0 := by
      have h1 : 0 ≤ slots.getD k 0 := by
        rw [List.getD_eq_getElem?_getD, List.getElem?_eq_getElem hk]
        exact hp _ (List.getElem_mem hk)
      omega
    generalize slots.getD k 0 = z at kc c5'
    go_enter Try.func11, Try.ntmps11
    go_wp2
    go_ret
    exact ⟨ret_int he.out.symm, by (have hs2 := Hsl.out; rw [he.out, if_neg (by decide)] at hs2; rw [← hs2]; exact h), Fr.refl _ _, rfl⟩
set_option maxHeartbeats 1000000 in
theorem rleave_any {W : World} {b : Nat} {now : Int} {sv : Value} {slots : List Int} {ov : Value} {olds : List Value} {av : Value} {ats : List Int} (h : RefB W b now sv slots ov olds av ats) (slot : Int) (hs : slots.length ≤ 16) (hp : ∀ s ∈ slots, 0 ≤ s) :
    Calls Try.prog 13 #[.pointer (some ⟨b, 0, none⟩), .int .i64 slot] W fun e w' => e = .returned (.int .i64 (leaveE slots slot)) ∧
      RefB w' b now sv (if leaveE slots slot = 0 then slots.set slot.toNat 0 else slots) ov olds av ats ∧ Fr (fun q => sv.ownBlock = some q) W w' ∧ w'.heap.size = W.heap.size := by
  have k1 := h.blk.cell 1 rfl
  obtain ⟨A, c, hv⟩ := h.slot.slice
  rw [i64s_len] at hv
  subst hv
  generalize hsl : (if leaveE slots slot = 0 then slots.set slot.toNat 0 else slots) = slots'
  have Hsl := Lib.hid hsl
  clear hsl
  have he : Hid (leaveE slots slot = if slot < 0 ∨ (slots.length : Int) ≤ slot then 1 else if slots.getD slot.toNat 0 = 0 then 11 else 0) := rfl
  generalize leaveE slots slot = E at he Hsl ⊢
  by_cases c1 : slot < 0
  · rw [if_pos (.inl c1)] at he
    go_enter Try.func13, Try.ntmps13
    go_wp2
    go_ret
    exact ⟨ret_int he.out.symm, by (have hs2 := Hsl.out; rw [he.out, if_neg (by decide)] at hs2; rw [← hs2]; exact h), Fr.refl _ _, rfl⟩
  by_cases c2 : (slots.length : Int) ≤ slot
  · rw [if_pos (.inr c2)] at he
    go_enter Try.func13, Try.ntmps13
    go_wp2
    go_ret
    exact ⟨ret_int he.out.symm, by (have hs2 := Hsl.out; rw [he.out, if_neg (by decide)] at hs2; rw [← hs2]; exact h), Fr.refl _ _, rfl⟩
  rw [if_neg (by omega)] at he
  obtain ⟨k, rfl⟩ : ∃ k : Nat, slot = k := ⟨slot.toNat, by omega⟩
  have hk : k < slots.length := by omega
  rw [Int.toNat_natCast] at he
  rw [Int.toNat_natCast] at Hsl
  have hrow := h.slot
  obtain ⟨g, rfl, hgc⟩ := hrow.head (by omega)
  have kc := hrow.cell k (i64s_at hk)
  have kf := hrow.free k
  have ka : (⟨g, 0, none⟩ : Addr).add k = ⟨g, k, none⟩ := add_plain g k
  by_cases c5 : slots.getD k 0 = 0
  · rw [if_pos c5] at he
    rw [c5] at kc
    go_enter Try.func13, Try.ntmps13
    go_wp2
    go_ret
    exact ⟨ret_int he.out.symm, by (have hs2 := Hsl.out; rw [he.out, if_neg (by decide)] at hs2; rw [← hs2]; exact h), Fr.refl _ _, rfl⟩
  · rw [if_neg c5] at he
    have c5' : ¬ slots.getD k 0 = 0 := c5
    generalize slots.getD k 0 = z at kc c5'
    go_enter Try.func13, Try.ntmps13
    go_wp2
    go_ret
    refine ⟨ret_int he.out.symm, ?_, (Fr.refl _ W).setCell _ _ (fun _ => rfl), by simp [World.setCell]⟩
    have hs2 := Hsl.out
    rw [he.out, if_pos rfl] at hs2
    rw [← hs2]
    refine ⟨h.blk.other (fun hh => ?_) _, ?_, h.oldr.other (fun hh => ?_) _, h.atr.other (fun hh => ?_) _, h.apart, h.same⟩
    · exact (hrow.ne h.blk (by decide)) (by rw [hh]; rfl)
    · have := hrow.set k (.int .i64 0)
      unfold i64s at this ⊢
      rw [List.map_set]
      exact this
    · exact h.oldr.ne_row hrow (by decide) g hh rfl
    · exact h.apart g rfl hh
end Go.Proofs.Ytolkoagjompjjaa
