/- awake: the document's examples. No condition. -/
import Derived.Test.YticlbmeldcncnaaCutW
import Derived.Lib.SlBytesConst
namespace Go.Proofs.Yticlbmeldcncnaa
open Go.RowKit Ch
theorem lens_abc : (St.run ⟨1, 1, 9⟩ ⟨[], [], []⟩ [97, 98, 99]).parts.map (fun c => (c.length : Int)) = [1, 1, 1] := by decide
set_option maxHeartbeats 1000000 in
set_option maxRecDepth 100000 in
theorem awake_any (w : World) : Calls Try.prog 8 #[] w fun e w' => e = .returned (.bool true) ∧ Fr (fun _ => False) w w' := by
  have kc := fun (w : World) (C : Array Value) (n c : Nat) => Lib.run_convert_bytes_const (P := Try.prog) w 24 5 C n c Try.underlying24 Try.underlying5
  go_enter Try.func8, Try.ntmps8
  go_wp2_with fail
  clear kc
  refine (cut_ok 0 0 0 0 0 0 0 0 1 1 9 0 (by decide) (by decide) (by decide) (by decide) (by decide) (some ⟨w.heap.size, 0, none⟩) 3 3 [97, 98, 99] _ ?_ (by decide)).mono ?_
  · refine ⟨rfl, by decide, fun _ => ⟨_, rfl, fun j hj => ?_⟩⟩
    rw [add_plain]
    unfold World.cell?
    rw [heap_alloc_new]
    match j, hj with
    | 0, _ => rfl
    | 1, _ => rfl
    | 2, _ => rfl
  rintro e w1 ⟨v, rfl, hR, hF, hN⟩
  rw [lens_abc] at hR
  go_wp2_with fail
  refine (cut_no 0 0 0 0 0 0 0 0 0 0 0 0 (.slice none 0 0) w1 (by decide)).mono ?_
  rintro e w2 ⟨rfl, hF2⟩
  have hR2 := hR.fr hF2 (fun _ _ => id)
  obtain ⟨A, ca, rfl, hA⟩ := hR2.rd
  go_wp2_with fail
  have hB : Rd (w2.alloc (.cells #[.int .i64 1, .int .i64 1, .int .i64 1] 3)) (some ⟨w2.heap.size, 0, none⟩) (i64s [1, 1, 1]) := Rd.at_new _ _ _ _ _ rfl
  refine (same_any A (some ⟨w2.heap.size, 0, none⟩) ca 3 [1, 1, 1] [1, 1, 1] _ ?_ hB (by decide) (by decide)).mono ?_
  · exact hA.fr ((Fr.refl (fun _ => False) w2).alloc _) (fun _ _ => id)
  rintro e w3 ⟨rfl, q, rfl⟩
  go_wp2
  go_ret
  refine ⟨rfl, ?_⟩
  have f1 : Fr (fun _ => False) w w1 := (((Fr.refl _ w).alloc _).trans hF (fun _ _ h => h))
  exact ((f1.trans hF2 (fun _ _ h => h)).alloc _).drewN q
end Go.Proofs.Yticlbmeldcncnaa
