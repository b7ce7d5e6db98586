/- EpochSafe, where what is read is of bulk at most 1048576: nothing is freed while somebody reads who had come ahead of its retiring: true.
   No condition beside the statement's own. -/
import Derived.Test.YtolkoagjompjjaaSafe
import Derived.Test.YtolkoagjompjjaaOpen
import Derived.Test.YtolkoagjompjjaaOpenB
import Derived.JoinedCond
import Derived.Deep.CondSized
namespace Go.Proofs.Ytolkoagjompjjaa.lawSafe
open Go.ChangeShapes Go.WideShapes Go.ChangeAt Go.RowKit Go.Deep
theorem op4_cells {H : Type} {enc : TypeId × Value → H} {w : World} (n : Nat) (cs : List Value) (y : DataW H × List MemPlace) (h : DataW.trod enc Try.prog w 0 (fun _ => true) true n 35 cs = some y) (hl : cs.length = 4) :
    ∃ o : Op4, cs = opc o ∧ Rd w o.ta (o.xs.map Value.string) ∧ o.xs.length ≤ Rows.uptoBulk y.1 := by
  have g := cells_bulk Try.underlying35 (by kernel_rfl) h hl
  obtain ⟨v0, m0, y0, e0, h0, _⟩ := g 0 _ rfl
  obtain ⟨v1, m1, y1, e1, h1, _⟩ := g 1 _ rfl
  obtain ⟨v2, m2, y2, e2, h2, _⟩ := g 2 _ rfl
  obtain ⟨v3, m3, y3, e3, h3, b3⟩ := g 3 _ rfl
  obtain ⟨k, hk, _⟩ := DataW.trod_int Try.underlying3 h0
  obtain ⟨s, hs, _⟩ := DataW.trod_int Try.underlying3 h1
  obtain ⟨x, hx, _⟩ := DataW.trod_int Try.underlying3 h2
  obtain ⟨A, c, xs, hv, hr, hb, _, _⟩ := strs_bulk Try.underlying28 Try.underlying9 (by kernel_rfl) h3
  refine ⟨⟨k, s, x, A, c, xs⟩, ?_, hr, by simp only; omega⟩
  match cs, hl with
  | [c0, c1, c2, c3], _ =>
    simp at e0 e1 e2 e3 hk hs hx
    subst e0 e1 e2 e3 hk hs hx hv
    rfl
theorem wf_u8 {z : Int} (h : (Lit.int .u8 z).wf = true) : 0 ≤ z ∧ z ≤ 255 := by
  have e1 : IntKind.u8.min = 0 := rfl
  have e2 : IntKind.u8.max = 255 := rfl
  simp only [Lit.wf, Bool.and_eq_true, decide_eq_true_eq] at h
  omega
set_option linter.unusedVariables false
set_option maxRecDepth 100000 in
theorem lifted (os : Os) (started : os.Started) (H : Type) (enc : TypeId × Value → H) (F0 : Stop.Interp) :
    ReturnsInHanded {} Try.checked os 4 .any ((Rows.OpenSpec.upto Rows.epochSafeSpec).pre6 enc Try.prog Try.f4 Rows.epochSafeUptoRow.domain false) (((Rows.OpenSpec.upto Rows.epochSafeSpec).at F0).post enc Try.prog Try.f4 false true false false) := by
  refine returnsInHanded_of_cond_sized (C := Try.checked) (s := Rows.OpenSpec.upto Rows.epochSafeSpec) (k := Rows.uptoSmall) rfl own started (by kernel_rfl) Try.func4
    (OpenSpec.witness (enc := enc) (C := Try.checked) (s := Rows.OpenSpec.upto Rows.epochSafeSpec) (k := Rows.uptoSmall) rfl false ⟨#[], #[.slice none 0 0, .slice none 0 0], []⟩ 8 (by kernel_rfl) (by kernel_rfl) (by kernel_rfl)
      (x := ([.nil, .nil], [], [])) (by kernel_rfl) (by kernel_rfl) (by kernel_rfl)) ?_
  intro W base args ds gs before hval0 hW hcnd hk hsz _
  have hval : ∀ (j : Nat) t v, Try.f4.params[j]? = some t → args[j]? = some v → Value.okWide Try.prog W .any base t v := hval0
  have hW' := hW
  obtain ⟨p, q, hA0, hV, rfl, hfz, hnd⟩ := hW
  have hA : DataW.TrodAll enc Try.prog W 0 (fun _ => true) true Try.f4.params.toList args.toList ds p := hA0
  rw [Try.params4] at hA hval
  obtain ⟨v0, vs0, d0, ds0, p0, q0, hargs, rfl, rfl, k0, r0⟩ := trodAll_cons hA
  obtain ⟨v1, vs1, d1, ds1, p1, q1, rfl, rfl, rfl, k1, r1⟩ := trodAll_cons r0
  obtain ⟨rfl, rfl, rfl⟩ := trodAll_nil r1
  obtain rfl : args = #[v0, v1] := by cases args; simp_all
  obtain ⟨rfl, rfl⟩ := trodVars_none hV
  have lt0 : ∀ x ∈ p0, x.block < W.heap.size := by obtain ⟨m, hm⟩ := k0; exact DataW.trod_lt m _ _ _ hm
  have lt1 : ∀ x ∈ p1, x.block < W.heap.size := by obtain ⟨m, hm⟩ := k1; exact DataW.trod_lt m _ _ _ hm
  obtain ⟨a0, len0, cap0, rfl⟩ := okWide_slice Try.underlying22 (hval 0 22 v0 rfl rfl)
  obtain ⟨a1, len1, cap1, rfl⟩ := okWide_slice Try.underlying46 (hval 1 46 v1 rfl rfl)
  obtain ⟨s, hs, hlc, hcm, _, hr, hx, hsum⟩ := open_bulk opc (fun o => Rd W o.ta (o.xs.map Value.string)) (fun o => o.xs.length) 4 (by decide) (fun _ => rfl) Try.underlying22 (by kernel_rfl) (fun n cs y h hl => op4_cells n cs y h hl) k0
  obtain ⟨us, hu, hlu, hcu, hwu, hru⟩ := open_nums Try.underlying46 Try.underlying5 (by kernel_rfl) k1
  have hk' : Rows.uptoBulkAll [d0, d1] ≤ 1048576 := by
    have : decide (Rows.uptoBulkAll [d0, d1] ≤ 1048576) = true := hk
    simpa using this
  simp only [Rows.uptoBulkAll] at hk'
  clear hA0 hval0
  refine (safe_ok W a0 len0 cap0 s hs hr hx (by unfold allX; omega) (by simp only [maxLen] at hcm; omega) a1 len1 cap1 us hu hru (fun u hu' => wf_u8 (hwu u hu')) (by simp only [maxLen] at hcu; omega)).mono fun e W' ⟨he, hfr⟩ => ?_
  subst he
  have bel : Below W.heap.size W W' := hfr.below _ (Nat.le_refl _) (fun _ _ => id)
  exact ⟨_, rfl, _, _, _, [], _, [], hW', trodAll_mk1 (shut_bool Try.underlying4 _), (trodAll_cons_mk (Below.trod laidOut (by kernel_rfl) (of_decide_eq_true (by kernel_rfl)) k0 bel lt0) (trodAll_cons_mk (Below.trod laidOut (by kernel_rfl) (of_decide_eq_true (by kernel_rfl)) k1 bel lt1) trodAll_mk0)), rfl, bel.frame _, fun h => by cases h⟩
/-- THE STATEMENT. -/
theorem proved : Rows.EpochSafeUptoSaid :=
  OpenClaim.holds_of_cond 4 Try.f4 rfl rfl rfl rfl rfl rfl rfl ⟨rfl, rfl, rfl, rfl, rfl⟩ rfl rfl rfl rfl rfl (by kernel_rfl) Try.func4 (by kernel_rfl)
    (of_decide_eq_true (by kernel_rfl)) (by unfold Func.isWrapper; first | (rw [if_pos (by decide +kernel)]; kernel_rfl) | (rw [if_neg (by decide +kernel)]; exact ⟨rfl, rfl⟩))
    (fun os started H enc _ F0 => lifted os started H enc F0)
#print axioms proved
end Go.Proofs.Ytolkoagjompjjaa.lawSafe
