/- A book that a function made for itself: its memory is new. Conditions: those of the lemmas. -/
import Derived.Test.YtolkoagjompjjaaFreeS
namespace Go.Proofs.Ytolkoagjompjjaa
open Go.RowKit
structure BkNS (w W : World) (b : Nat) (now : Int) (sv : Value) (slots : List Int) (ov : Value) (old : List (Value × Int)) : Prop where
  book : BookS W b now sv slots ov old
  fr : Fr (fun _ => False) w W
  bn : w.heap.size ≤ b
  sn : ∀ q, sv.ownBlock = some q → w.heap.size ≤ q
  on : ∀ q, ov.ownBlock = some q → w.heap.size ≤ q
  few : slots.length ≤ 16
theorem BkNS.new {w W : World} {b : Nat} {now : Int} {sv : Value} {slots : List Int} {ov : Value} {old : List (Value × Int)} (h : BkNS w W b now sv slots ov old) {W' : World} (hf : Fr (fun _ => False) W W') : BkNS w W' b now sv slots ov old :=
  ⟨h.book.fr hf id (fun _ _ => id) (fun _ _ => id), h.fr.trans hf (fun _ _ h => h), h.bn, h.sn, h.on, h.few⟩
theorem enterS_n {w W : World} {b : Nat} {now : Int} {sv : Value} {slots : List Int} {ov : Value} {old : List (Value × Int)} (h : BkNS w W b now sv slots ov old) (slot at_ E : Int) (slots' : List Int) (hE : enterE now slots slot at_ = E) (hs : (if E = 0 then slots.set slot.toNat at_ else slots) = slots') :
    Calls Try.prog 10 #[.pointer (some ⟨b, 0, none⟩), .int .i64 slot, .int .i64 at_] W fun e w' => e = .returned (.int .i64 E) ∧ BkNS w w' b now sv slots' ov old ∧ Fr (fun q => sv.ownBlock = some q) W w' := by
  refine (enterS_any h.book slot at_ h.few).mono ?_
  rintro e w' ⟨rfl, hB, hf, _⟩
  rw [hE, hs] at hB
  refine ⟨by rw [hE], ⟨hB, h.fr.trans hf (fun i hi hh => by have := h.sn i hh; omega), h.bn, h.sn, h.on, ?_⟩, hf⟩
  rw [← hs]
  split
  · rw [List.length_set]; exact h.few
  · exact h.few
theorem leaveS_n {w W : World} {b : Nat} {now : Int} {sv : Value} {slots : List Int} {ov : Value} {old : List (Value × Int)} (h : BkNS w W b now sv slots ov old) (slot E : Int) (slots' : List Int) (hE : leaveE slots slot = E) (hs : (if E = 0 then slots.set slot.toNat 0 else slots) = slots') :
    Calls Try.prog 12 #[.pointer (some ⟨b, 0, none⟩), .int .i64 slot] W fun e w' => e = .returned (.int .i64 E) ∧ BkNS w w' b now sv slots' ov old ∧ Fr (fun q => sv.ownBlock = some q) W w' := by
  refine (leaveS_any h.book slot h.few).mono ?_
  rintro e w' ⟨rfl, hB, hf, _⟩
  rw [hE, hs] at hB
  refine ⟨by rw [hE], ⟨hB, h.fr.trans hf (fun i hi hh => by have := h.sn i hh; omega), h.bn, h.sn, h.on, ?_⟩, hf⟩
  rw [← hs]
  split
  · rw [List.length_set]; exact h.few
  · exact h.few
theorem retireS_n {w W : World} {b : Nat} {now : Int} {sv : Value} {slots : List Int} {ov : Value} {old : List (Value × Int)} (h : BkNS w W b now sv slots ov old)
    (A : Option Addr) (n cp : Nat) (xs : List ByteArray) (hn : (xs.map (Value.string)).length = n) (hR : Rd W A (xs.map (Value.string)))
    (hA : 0 < n → ∀ ad, A = some ad → ad.block ≠ b ∧ ov.ownBlock ≠ some ad.block) (hsz : (old.length + n) * 24 ≤ 140737488355328) (hnow : 0 ≤ now ∧ now < 9223372036854775807) (now' : Int) (hn' : now + 1 = now') (old' : List (Value × Int)) (ho : old ++ ((xs.map (Value.string)).map fun x => (x, now)) = old') :
    Calls Try.prog 14 #[.pointer (some ⟨b, 0, none⟩), .slice A n cp] W fun e w' => e = .returned (.int .i64 0) ∧ (∃ ov', BkNS w w' b now' sv slots ov' old') ∧ Fr (fun q => q = b ∨ ov.ownBlock = some q) W w' := by
  refine (retireS_any h.book A n cp xs hn hR hA hsz hnow).mono ?_
  rintro e w' ⟨rfl, ov', hB, hf, hN⟩
  rw [ho, hn'] at hB
  refine ⟨rfl, ⟨ov', hB, h.fr.trans hf (fun i hi hh => ?_), h.bn, h.sn, fun q hq => ?_, h.few⟩, hf⟩
  · rcases hh with rfl | hh
    · have := h.bn; omega
    · have := h.on i hh; omega
  · rcases hN q hq with h' | h'
    · exact h.on q h'
    · have := h.fr.size; omega
theorem freeS_n {w W : World} {b : Nat} {now : Int} {sv : Value} {slots : List Int} {ov : Value} {old : List (Value × Int)} (h : BkNS w W b now sv slots ov old) (hth : ∀ p ∈ old, ∃ e, p.1 = Value.string e) (hsz : old.length * 24 ≤ 140737488355328)
    (F : Int) (hF : firstOf now slots = F) (free left : List (Value × Int)) (h1 : (old.filter fun p => decide (p.2 < F)) = free) (h2 : (old.filter fun p => !decide (p.2 < F)) = left) :
    Calls Try.prog 17 #[.pointer (some ⟨b, 0, none⟩)] W fun e w' => ∃ A c, e = .returned (.slice A free.length c) ∧ (∃ ov', BkNS w w' b now sv slots ov' left) ∧ Row w' 9 (.slice A free.length c) (free.map Prod.fst) ∧ Fr (fun q => q = b) W w' ∧ (∀ q, (Value.slice A free.length c).ownBlock = some q → W.heap.size ≤ q) := by
  refine (freeS_any h.book h.few hth hsz).mono ?_
  rintro e w' ⟨fv, ov', rfl, hB, hR, hf, hN, hNf⟩
  rw [hF, h1] at hR
  rw [hF, h2] at hB
  obtain ⟨A, c, hv⟩ := hR.slice
  rw [List.length_map] at hv
  subst hv
  exact ⟨A, c, rfl, ⟨ov', hB, h.fr.trans hf (fun i hi hh => by have := h.bn; omega), h.bn, h.sn, fun q hq => Nat.le_trans h.fr.size (hN q hq), h.few⟩, hR, hf, hNf⟩
end Go.Proofs.Ytolkoagjompjjaa
