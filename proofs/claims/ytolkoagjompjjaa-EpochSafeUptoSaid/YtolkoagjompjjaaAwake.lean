/- The document's example is true. Conditions: those of the lemma. -/
import Derived.Test.YtolkoagjompjjaaBookNS
namespace Go.Proofs.Ytolkoagjompjjaa
open Go.RowKit
def sa : ByteArray := ⟨#[97]⟩
def sb : ByteArray := ⟨#[98]⟩
set_option maxHeartbeats 1000000 in
set_option maxRecDepth 100000 in
theorem awake_any (w : World) : Calls Try.prog 9 #[] w fun e w' => e = .returned (.bool true) ∧ Fr (fun _ => False) w w' := by
  have hnew := newS_ok 2 (by decide) (by decide) w
  go_enter Try.func9, Try.ntmps9
  go_wp2_with fail
  refine hnew.mono ?_
  clear hnew
  rintro e w1 ⟨b, sv, rfl, hB, hf, hb, hs⟩
  have h1 : BkNS w w1 b 1 sv [0, 0] (.slice none 0 0) [] := ⟨hB, hf, hb, hs, (fun q hq => by simp [Value.ownBlock] at hq), by decide⟩
  clear hB hf hs
  go_wp2_with fail
  refine (nowS_any h1.book).mono ?_
  rintro e w' ⟨rfl, rfl⟩
  go_wp2_with fail
  refine (enterS_n h1 0 1 0 [1, 0] (by decide) (by decide)).mono ?_
  rintro e w2 ⟨rfl, h2, _⟩
  clear h1
  go_wp2_with fail
  have h3 := h2.new ((Fr.refl (fun _ => False) w2).alloc (.cells #[.string sa] 9))
  have hR3 : Rd (w2.alloc (.cells #[.string sa] 9)) (some ⟨w2.heap.size, 0, none⟩) ([sa].map Value.string) := Rd.at_new _ _ _ _ _ rfl
  have hz3 : w2.heap.size < (w2.alloc (.cells #[.string sa] 9)).heap.size := by simp
  have hbl := h2.book.blk.lt
  refine (retireS_n h3 (some ⟨w2.heap.size, 0, none⟩) 1 1 [sa] rfl hR3 (fun _ ad e => by cases e; exact ⟨by simp only; omega, by simp [Value.ownBlock]⟩) (by decide) (by decide) 2 (by decide) [(.string sa, 1)] rfl).mono ?_
  rintro e w4 ⟨rfl, ⟨ov4, h4⟩, _⟩
  clear h2 h3 hR3 hz3 hbl
  go_wp2_with fail
  refine (freeS_n h4 (by simp) (by decide) 1 (by decide) [] [(.string sa, 1)] rfl rfl).mono ?_
  rintro e w5 ⟨fA, fc, rfl, ⟨ov5, h5⟩, _, _, _⟩
  clear h4
  go_wp2_with fail
  refine (enterS_n h5 1 2 0 [1, 2] (by decide) (by decide)).mono ?_
  rintro e w6 ⟨rfl, h6, _⟩
  clear h5
  go_wp2_with fail
  refine (leaveS_n h6 0 0 [0, 2] (by decide) (by decide)).mono ?_
  rintro e w7 ⟨rfl, h7, _⟩
  clear h6
  go_wp2_with fail
  refine (freeS_n h7 (by simp) (by decide) 2 (by decide) [(.string sa, 1)] [] rfl rfl).mono ?_
  rintro e w8 ⟨lA, lc, rfl, ⟨ov8, h8⟩, hL8, _, hN8⟩
  go_wp2_with fail
  have h9 := h8.new ((Fr.refl (fun _ => False) w8).alloc (.cells #[.string sb] 9))
  have hL9 := hL8.alloc (.cells #[.string sb] 9)
  have hR9 : Rd (w8.alloc (.cells #[.string sb] 9)) (some ⟨w8.heap.size, 0, none⟩) ([sb].map Value.string) := Rd.at_new _ _ _ _ _ rfl
  have hb9 := h8.book.blk.lt
  have ho9 : ∀ q, ov8.ownBlock = some q → q < w8.heap.size := fun q hq => h8.book.wait.lt hq
  clear h8 hL8 h7
  refine (retireS_n h9 (some ⟨w8.heap.size, 0, none⟩) 1 1 [sb] rfl hR9 (fun _ ad e => by cases e; exact ⟨by simp only; omega, fun h => by have := ho9 _ h; simp only at this; omega⟩) (by decide) (by decide) 3 (by decide) [(.string sb, 2)] rfl).mono ?_
  rintro e w10 ⟨rfl, ⟨ov10, h10⟩, hf10⟩
  have hL10 := hL9.fr hf10 (fun q hq hh => by
    rcases hh with rfl | hh
    · exact hL9.ne h9.book.blk (by decide) hq
    · exact h9.book.wait.ne_row hL9 (by decide) q hh hq)
  clear hL9 h9 hR9 hf10
  obtain ⟨g, rfl, hlc⟩ := hL10.head (by decide)
  have kl : w10.cell? ⟨g, 0, none⟩ = some (.string { data := #[97] }) := hL10.cell 0 rfl
  go_wp2_with fail
  refine (freeS_n h10 (by simp) (by decide) 2 (by decide) [] [(.string sb, 2)] rfl rfl).mono ?_
  rintro e w11 ⟨fA2, fc2, rfl, ⟨ov11, h11⟩, _, _, _⟩
  clear h10 hL10 kl
  go_wp2_with fail
  refine (heldS_any h11.book).mono ?_
  rintro e w' ⟨rfl, rfl⟩
  go_wp2_with fail
  refine (readersS_any h11.book (by decide)).mono ?_
  rintro e w' ⟨rfl, rfl⟩
  rw [show readers [0, 2] = 1 from by decide]
  go_wp2
  go_ret
  exact ⟨rfl, h11.fr⟩
end Go.Proofs.Ytolkoagjompjjaa
