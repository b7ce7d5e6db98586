/- The document's example is true. Conditions: those of the lemma. -/
import Derived.Test.YtkodepdbnkghfaaIsL
namespace Go.Proofs.Ytkodepdbnkghfaa
open Go.RowKit
def sa : ByteArray := ⟨#[97]⟩
def sb : ByteArray := ⟨#[98]⟩
theorem ab_lt : sLt sa sb = true := by decide +kernel
def one : Tr Int := Tr.nil.put sb 1
def two : Tr Int := one.put sa 2
theorem one_toL : one.toL = [(sb, 1)] := rfl
theorem two_toL : two.toL = [(sa, 2), (sb, 1)] := by
  unfold two
  rw [Tr.put_toL _ _ _ (by rw [one_toL]; simp [Srt]), one_toL]
  simp [lput, ab_lt]
theorem two_srt : Srt two.toL := by rw [two_toL]; simp [Srt, ab_lt]
theorem one_srt : Srt one.toL := by rw [one_toL]; simp [Srt]
theorem Lst.lit {w : World} {l : List (ByteArray × Int)} (cs : Array Value) (hcs : cs = (prs l).flatten.toArray) (hl : l.length ≤ 1000000) (n : Nat) (hn : n = l.length) : Lst (w.alloc (.cells cs 59)) (some ⟨w.heap.size, 0, none⟩) n l := by
  subst hcs hn
  exact ⟨Nat.le_refl _, by omega, (fun e => by cases e), (fun ad e => by cases e; exact ⟨_, heap_alloc_new w _⟩), Rd.at_new w _ 59 (0, 0) _ rfl⟩
set_option maxHeartbeats 2000000 in
set_option maxRecDepth 100000 in
theorem awake_any (w : World) : Calls Try.prog 7 #[] w fun e w' => e = .returned (.bool true) ∧ Fr (fun _ => False) w w' := by
  have b0 : Blk (w.alloc (.cells #[.pointer none] 40)) w.heap.size [.pointer none] 40 := Blk.at_new _ _ _ _ _ rfl rfl
  have f0 : Fr (fun _ => False) w (w.alloc (.cells #[.pointer none] 40)) := (Fr.refl _ w).alloc _
  have k0 := b0.cell 0 rfl
  go_enter Try.func7, Try.ntmps7
  go_wp2_with fail
  refine (mputI_any (t := .nil) rfl sb 1 (by decide)).mono ?_
  rintro e w1 ⟨q1, rfl, hI1, hf1⟩
  have b1 := hf1.blk b0 id
  have f1 := f0.trans hf1 (fun _ _ h => h)
  clear hf1 k0 b0 f0
  have o1 : Blk (w1.alloc (.cells #[.pointer (some q1)] 40)) w1.heap.size [.pointer (some q1)] 40 := Blk.at_new _ _ _ _ _ rfl rfl
  have f2 := f1.alloc (.cells #[.pointer (some q1)] 40)
  have hI2 : IsI (w1.alloc (.cells #[.pointer (some q1)] 40)) (some q1) one := hI1.new ((Fr.refl _ w1).alloc _)
  have b2 := b1.alloc (.cells #[.pointer (some q1)] 40)
  have k1 := o1.cell 0 rfl
  go_wp2_with fail
  refine (mputI_any hI2 sa 2 (by decide)).mono ?_
  rintro e w3 ⟨q3, rfl, hI3, hf3⟩
  have o3 := hf3.blk o1 id
  have b3 := hf3.blk b2 id
  have f3 := f2.trans hf3 (fun _ _ h => h)
  have hI3' := hI2.new hf3
  clear hf3 k1 o1 b2 f2 hI2 hI1 b1 f1
  have t4 : Blk (w3.alloc (.cells #[.pointer (some q3)] 40)) w3.heap.size [.pointer (some q3)] 40 := Blk.at_new _ _ _ _ _ rfl rfl
  have k4 := t4.cell 0 rfl
  have f4 := f3.alloc (.cells #[.pointer (some q3)] 40)
  have hT4 : IsI (w3.alloc (.cells #[.pointer (some q3)] 40)) (some q3) two := hI3.new ((Fr.refl _ w3).alloc _)
  have hO4 : IsI (w3.alloc (.cells #[.pointer (some q3)] 40)) (some q1) one := hI3'.new ((Fr.refl _ w3).alloc _)
  have o4 := o3.alloc (.cells #[.pointer (some q3)] 40)
  have b4 := b3.alloc (.cells #[.pointer (some q3)] 40)
  go_upto_region 4 with fail
  clear f3 hI3 hI3' o3 b3
  generalize w3.alloc (.cells #[.pointer (some q3)] 40) = w4 at t4 k4 f4 hT4 hO4 o4 b4 ⊢
  generalize w3.heap.size = tb at t4 k4 ⊢
  generalize w1.heap.size = ob at o4 ⊢
  have f5 := f4.alloc (.cells #[.string sa, .int .i64 2, .string sb, .int .i64 1] 59)
  have hL5 : Lst (w4.alloc (.cells #[.string sa, .int .i64 2, .string sb, .int .i64 1] 59)) (some ⟨w4.heap.size, 0, none⟩) 2 two.toL := Lst.lit _ (by rw [two_toL]; rfl) (by rw [two_toL]; decide) 2 (by rw [two_toL]; rfl)
  have g5 : Fr (fun _ => False) w4 (w4.alloc (.cells #[.string sa, .int .i64 2, .string sb, .int .i64 1] 59)) := (Fr.refl _ w4).alloc _
  have c1 := is_any (hT4.new g5) two_srt (by rw [Tr.cnt_len, two_toL]; decide) hL5 ⟨#[]⟩
  have o5 := o4.alloc (.cells #[.string sa, .int .i64 2, .string sb, .int .i64 1] 59)
  have b5 := b4.alloc (.cells #[.string sa, .int .i64 2, .string sb, .int .i64 1] 59)
  have hO5 := hO4.new g5
  have hlen2 : two.toL.length = 2 := by rw [two_toL]; rfl
  rw [hlen2] at c1
  clear hlen2
  go_wp2_with fail
  refine c1.mono ?_
  rintro e w6 ⟨rfl, hf6⟩
  have o6 := hf6.blk o5 id
  have k6 := o6.cell 0 rfl
  have b6 := hf6.blk b5 id
  have f6 := f5.trans hf6 (fun _ _ h => h)
  have hO6 := hO5.new hf6
  clear hf6 c1 hL5 g5 f5 o5 b5 hO5 f4 hT4 hO4 o4 b4 k4 t4
  have f7 := f6.alloc (.cells #[.string sb, .int .i64 1] 59)
  have g7 : Fr (fun _ => False) w6 (w6.alloc (.cells #[.string sb, .int .i64 1] 59)) := (Fr.refl _ w6).alloc _
  have hL7 : Lst (w6.alloc (.cells #[.string sb, .int .i64 1] 59)) (some ⟨w6.heap.size, 0, none⟩) 1 one.toL := Lst.lit (l := [(sb, 1)]) _ rfl (by decide) 1 rfl
  have c2 := is_any (hO6.new g7) one_srt (by decide) hL7 ⟨#[]⟩
  have b7 := b6.alloc (.cells #[.string sb, .int .i64 1] 59)
  rw [show one.toL.length = 1 from rfl] at c2
  go_wp2_with fail
  refine c2.mono ?_
  rintro e w8 ⟨rfl, hf8⟩
  have b8 := hf8.blk b7 id
  have k8 := b8.cell 0 rfl
  have f8 := f7.trans hf8 (fun _ _ h => h)
  clear c2 hL7 g7 f7 b7 hf8 hO6 b6 o6 k6 f6
  go_wp2_with fail
  refine (mlenI_any (t := .nil) rfl).mono ?_
  rintro e w9 ⟨rfl, hf9⟩
  go_wp2
  go_ret
  exact ⟨rfl, f8.trans hf9 (fun _ _ h => h)⟩
end Go.Proofs.Ytkodepdbnkghfaa
