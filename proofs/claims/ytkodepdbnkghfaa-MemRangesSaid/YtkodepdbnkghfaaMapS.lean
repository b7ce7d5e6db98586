/- A map's Put and Len. Conditions: those of the lemmas. -/
import Derived.Test.YtkodepdbnkghfaaNextS
namespace Go.Proofs.Ytkodepdbnkghfaa
open Go.RowKit
set_option maxHeartbeats 1000000 in
theorem mputS_any {W : World} {q : Option Addr} {t : Tr ByteArray} (h : IsS W q t) (k : ByteArray) (v : ByteArray) (hc : t.cnt ≤ 900000) :
    Calls Try.prog 8 #[.agg #[.pointer q], .string k, Value.string v] W fun e w' => ∃ q', e = .returned (.agg #[.pointer (some q')]) ∧ IsS w' (some q') (t.put k v) ∧ Fr (fun _ => False) W w' := by
  have f0 : Fr (fun _ => False) W ((W.alloc (.cells #[.pointer q] 26)).alloc (.cells #[.pointer none] 26)) := ((Fr.refl _ W).alloc _).alloc _
  have b0 : Blk ((W.alloc (.cells #[.pointer q] 26)).alloc (.cells #[.pointer none] 26)) (W.heap.size + 1) [.pointer none] 26 := Blk.at_new _ _ _ _ _ (by simp) rfl
  have C := Lib.hid (putS_any k v t _ _ (h.new f0) hc)
  clear h
  go_enter Try.func8, Try.ntmps8
  go_wp2_with fail
  refine C.out.mono ?_
  rintro e w1 ⟨q', rfl, hI, hf⟩
  have b1 := hf.blk b0 id
  have k1 := b1.cell 0 rfl
  have k1f := b1.free 0
  have hl := b1.lt
  have hS : ∀ b cs, Blk w1 b cs 63 → ¬ (b = W.heap.size + 1) := fun b cs hb => hb.ne b1 (by decide)
  have f2 := (Fr.refl (fun b => b = W.heap.size + 1) w1).set1 0 (.pointer (some q'))
  have b2 := (b1.set 0 (.pointer (some q'))).cell 0 rfl
  go_wp2
  refine bodyPost_ret (v := .agg #[.pointer (some q')]) (by simp [results, Try.results8, go_sem, b2]) rfl ⟨q', rfl, hI.fr f2 hS, (f0.trans hf (fun _ _ h => h)).setCell _ _ (fun h => by simp only at h; omega)⟩
theorem mlenS_any {W : World} {q : Option Addr} {t : Tr ByteArray} (h : IsS W q t) :
    Calls Try.prog 11 #[.agg #[.pointer q]] W fun e w' => e = .returned (.int .i64 (t.cnt : Int)) ∧ Fr (fun _ => False) W w' := by
  have f0 : Fr (fun _ => False) W (W.alloc (.cells #[.pointer q] 26)) := (Fr.refl _ W).alloc _
  have C := Lib.hid (countS_any (h.new f0))
  clear h
  go_enter Try.func11, Try.ntmps11
  go_wp2_with fail
  refine C.out.mono ?_
  rintro e w1 ⟨rfl, rfl⟩
  go_wp2
  go_ret
  exact ⟨rfl, f0⟩
end Go.Proofs.Ytkodepdbnkghfaa
