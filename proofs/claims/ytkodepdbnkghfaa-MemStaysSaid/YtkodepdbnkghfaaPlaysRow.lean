/- MemPlays: whatever is put and taken away, a map has what a list has: true for every input.
   No condition. -/
import Derived.Test.YtkodepdbnkghfaaPlays
import Derived.Test.YtkodepdbnkghfaaOpenS
namespace Go.Proofs.Ytkodepdbnkghfaa
open Go.ChangeShapes Go.WideShapes Go.ChangeAt Go.RowKit Go.Deep
theorem op_cells {H : Type} {enc : TypeId × Value → H} {w : World} (n : Nat) (cs : List Value) (y : DataW H × List MemPlace) (h : DataW.trod enc Try.prog w 0 (fun _ => true) true n 45 cs = some y) (hl : cs.length = 3) : ∃ o : Op3, cs = opc o := by
  have g := cells_one Try.underlying45 (by kernel_rfl) h hl
  obtain ⟨v0, m0, y0, e0, h0⟩ := g 0 _ rfl
  obtain ⟨v1, m1, y1, e1, h1⟩ := g 1 _ rfl
  obtain ⟨v2, m2, y2, e2, h2⟩ := g 2 _ rfl
  obtain ⟨k, hk, _⟩ := DataW.trod_int Try.underlying3 h0
  obtain ⟨s, hs, _⟩ := DataW.trod_string Try.underlying9 h1
  obtain ⟨x, hx, _⟩ := DataW.trod_int Try.underlying3 h2
  refine ⟨⟨k, s, x⟩, ?_⟩
  match cs, hl with
  | [c0, c1, c2], _ =>
    simp at e0 e1 e2 hk hs hx
    subst e0 e1 e2 hk hs hx
    rfl
set_option linter.unusedVariables false in
set_option maxRecDepth 100000 in
theorem lawPlays.lifted (os : Os) (started : os.Started) (H : Type) (enc : TypeId × Value → H) :
    ReturnsInHanded {} Try.checked os 4 .any (Rows.memPlaysSpec.pre6 enc Try.prog Try.f4 Rows.memPlaysRow.domain false) (Rows.memPlaysSpec.post enc Try.prog Try.f4 false true false false) := by
  refine returnsInHanded_of_change (C := Try.checked) own started (by kernel_rfl) Try.func4
    (ChangeSpec.witness6 (enc := enc) (C := Try.checked) false ⟨#[], #[.slice none 0 0], []⟩ 8 (by kernel_rfl) (by kernel_rfl) (by kernel_rfl) (by kernel_rfl)) ?_
  intro W base args ds gs before hval0 hW hcnd _
  have hval : ∀ (j : Nat) t v, Try.f4.params[j]? = some t → args[j]? = some v → Value.okWide Try.prog W .any base t v := hval0
  have hW' := hW
  obtain ⟨p, q, hA0, hV, rfl, hfz, hnd⟩ := hW
  have hA : DataW.TrodAll enc Try.prog W 0 (fun _ => true) true Try.f4.params.toList args.toList ds p := hA0
  rw [Try.params4] at hA hval
  obtain ⟨v0, vs0, d0, ds0, p0, q0, hargs, rfl, rfl, k0, r0⟩ := trodAll_cons hA
  obtain ⟨rfl, rfl, rfl⟩ := trodAll_nil r0
  obtain rfl : args = #[v0] := by cases args; simp_all
  obtain ⟨rfl, rfl⟩ := trodVars_none hV
  have lt0 : ∀ x ∈ p0, x.block < W.heap.size := by obtain ⟨m, hm⟩ := k0; exact DataW.trod_lt m _ _ _ hm
  obtain ⟨a0, len0, cap0, rfl⟩ := okWide_slice Try.underlying36 (hval 0 36 v0 rfl rfl)
  obtain ⟨s, hs, hlc, hcm, _, hr⟩ := open_structs opc 3 (by decide) (fun _ => rfl) Try.underlying36 (by kernel_rfl) (fun n cs y h hl => op_cells n cs y h hl) k0
  clear hA0 hval0
  refine (plays_any hs hr (by simp only [maxLen] at hcm; omega)).mono fun e W' ⟨he, hfr⟩ => ?_
  subst he
  have bel : Below W.heap.size W W' := hfr.below _ (Nat.le_refl _) (fun _ _ => id)
  exact ⟨_, rfl, _, _, _, [], _, [], hW', trodAll_mk1 (shut_bool Try.underlying4 _), (trodAll_cons_mk (Below.trod laidOut (by kernel_rfl) (of_decide_eq_true (by kernel_rfl)) k0 bel lt0) trodAll_mk0), rfl, bel.frame _, fun h => by cases h⟩
/-- THE STATEMENT. -/
theorem lawPlays.proved : Rows.MemPlaysSaid :=
  OpenClaim.holds_of_wide 4 Try.f4 rfl rfl rfl rfl rfl rfl rfl ⟨rfl, rfl, rfl, rfl, rfl⟩ rfl rfl rfl rfl rfl (by kernel_rfl) Try.func4 (by kernel_rfl)
    (of_decide_eq_true (by kernel_rfl)) (by unfold Func.isWrapper; first | (rw [if_pos (by decide +kernel)]; kernel_rfl) | (rw [if_neg (by decide +kernel)]; exact ⟨rfl, rfl⟩))
    (fun os started H enc _ => lawPlays.lifted os started H enc)
#print axioms lawPlays.proved
end Go.Proofs.Ytkodepdbnkghfaa
