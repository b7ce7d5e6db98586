/- ChunkLeaves: Parts ends where it is left: true for every input, each argument left as it was.
   No condition. -/
import Derived.Test.YticlbmeldcncnaaLeaves
import Derived.Test.YticlbmeldcncnaaOpen
namespace Go.Proofs.Yticlbmeldcncnaa.lawLeaves
open Go.ChangeShapes Go.WideShapes Go.ChangeAt Go.RowKit Go.Deep
set_option linter.unusedVariables false
theorem wf_u8 {z : Int} (h : (Lit.int .u8 z).wf = true) : 0 ≤ z ∧ z ≤ 255 := by
  have e1 : IntKind.u8.min = 0 := rfl
  have e2 : IntKind.u8.max = 255 := rfl
  simp only [Lit.wf, Bool.and_eq_true, decide_eq_true_eq] at h
  omega
theorem rdB {w : World} {a : Option Addr} {n : Nat} {zs : List Int} (h : Rd w a (zs.map (Value.int .u8))) (hn : zs.length = n) (hw : ∀ z ∈ zs, (Lit.int .u8 z).wf = true) : RdB w a n zs := by
  refine ⟨hn, fun z hz => wf_u8 (hw z hz), fun h0 => ?_⟩
  obtain ⟨ad, rfl, _⟩ := h 0 (.int .u8 (zs[0]'(by omega))) (by simp [List.getElem?_eq_getElem (show 0 < zs.length by omega)])
  refine ⟨ad, rfl, fun j hj => ?_⟩
  obtain ⟨ad', e, hc⟩ := h j (.int .u8 (zs[j]'(by omega))) (by simp [List.getElem?_eq_getElem (show j < zs.length by omega)])
  cases e
  rw [hc, List.getD_eq_getElem?_getD, List.getElem?_eq_getElem (show j < zs.length by omega)]
  rfl
theorem conf_ints : ∀ (i : Nat) (f : Field), (Try.prog.underlying 23).elim none (fun d => match d with | .struct fs => fs[i]? | _ => none) = some f → Try.prog.underlying f.type = some (.int .i64) := by
  intro i f hf
  rw [Try.underlying23] at hf
  simp only [Option.elim_some] at hf
  match i, hf with
  | 0, hf | 1, hf | 2, hf | 3, hf | 4, hf | 5, hf | 6, hf | 7, hf | 8, hf | 9, hf | 10, hf | 11, hf => cases hf; exact Try.underlying3
  | _ + 12, hf => cases hf
theorem open_conf {H : Type} {enc : TypeId × Value → H} {w : World} {base b0 : Nat} {spare : Nat → Bool} {held : Bool} {r : Reach} {v : Value} {d : DataW H} {p : List MemPlace} (hv : Value.okWide Try.prog w r b0 23 v) (h : DataW.Trod enc Try.prog w base spare held 23 v d p) :
    ∃ c0 c1 c2 c3 c4 c5 c6 c7 c8 c9 c10 c11 : Int, v = .agg #[.int .i64 c0, .int .i64 c1, .int .i64 c2, .int .i64 c3, .int .i64 c4, .int .i64 c5, .int .i64 c6, .int .i64 c7, .int .i64 c8, .int .i64 c9, .int .i64 c10, .int .i64 c11] := by
  obtain ⟨ns, hns, rfl⟩ := open_agg_ints Try.underlying23 (by kernel_rfl) (by kernel_rfl) (fun i f hf => conf_ints i f (by rw [Try.underlying23]; exact hf)) hv h
  match ns, hns with
  | [c0, c1, c2, c3, c4, c5, c6, c7, c8, c9, c10, c11], _ => exact ⟨_, _, _, _, _, _, _, _, _, _, _, _, rfl⟩
set_option maxRecDepth 100000 in
theorem lifted (os : Os) (started : os.Started) (H : Type) (enc : TypeId × Value → H) :
    ReturnsInHanded {} Try.checked os 7 .any (Rows.chunkLeavesSpec.pre6 enc Try.prog Try.f7 Rows.chunkLeavesRow.domain false) (Rows.chunkLeavesSpec.post enc Try.prog Try.f7 false true false false) := by
  refine returnsInHanded_of_change (C := Try.checked) own started (by kernel_rfl) Try.func7
    (ChangeSpec.witness6 (enc := enc) (C := Try.checked) false ⟨#[], #[.agg #[.int .i64 0, .int .i64 0, .int .i64 0, .int .i64 0, .int .i64 0, .int .i64 0, .int .i64 0, .int .i64 0, .int .i64 0, .int .i64 0, .int .i64 0, .int .i64 0], .slice none 0 0, .int .u8 0], []⟩ 8 (by kernel_rfl) (by kernel_rfl) (by kernel_rfl) (by kernel_rfl)) ?_
  intro W base args ds gs before hval0 hW hcnd _
  have hval : ∀ (j : Nat) t v, Try.f7.params[j]? = some t → args[j]? = some v → Value.okWide Try.prog W .any base t v := hval0
  have hW' := hW
  obtain ⟨p, q, hA0, hV, rfl, hfz, hnd⟩ := hW
  have hA : DataW.TrodAll enc Try.prog W 0 (fun _ => true) true Try.f7.params.toList args.toList ds p := hA0
  rw [Try.params7] at hA hval
  obtain ⟨v0, vs0, d0, ds0, p0, q0, hargs, rfl, rfl, k0, r0⟩ := trodAll_cons hA
  obtain ⟨v1, vs1, d1, ds1, p1, q1, rfl, rfl, rfl, k1, r1⟩ := trodAll_cons r0
  obtain ⟨v2, vs2, d2, ds2, p2, q2, rfl, rfl, rfl, k2, r2⟩ := trodAll_cons r1
  obtain ⟨rfl, rfl, rfl⟩ := trodAll_nil r2
  obtain rfl : args = #[v0, v1, v2] := by cases args; simp_all
  obtain ⟨rfl, rfl⟩ := trodVars_none hV
  have lt0 : ∀ x ∈ p0, x.block < W.heap.size := by obtain ⟨m, hm⟩ := k0; exact DataW.trod_lt m _ _ _ hm
  have lt1 : ∀ x ∈ p1, x.block < W.heap.size := by obtain ⟨m, hm⟩ := k1; exact DataW.trod_lt m _ _ _ hm
  have lt2 : ∀ x ∈ p2, x.block < W.heap.size := by obtain ⟨m, hm⟩ := k2; exact DataW.trod_lt m _ _ _ hm
  obtain ⟨c0, c1, c2, c3, c4, c5, c6, c7, c8, c9, c10, c11, hv0⟩ := open_conf (hval 0 23 v0 rfl rfl) k0
  subst hv0
  obtain ⟨a1, len1, cap1, rfl⟩ := okWide_slice Try.underlying24 (hval 1 24 v1 rfl rfl)
  obtain ⟨zs, hz, hlc, hcm, hw, hr⟩ := open_nums Try.underlying24 Try.underlying5 (by kernel_rfl) k1
  obtain ⟨lv, rfl, rfl, rfl, hlv⟩ := open_int Try.underlying5 (hval 2 5 v2 rfl rfl) k2
  clear hA0 hval0
  refine (leaves_any c0 c1 c2 c3 c4 c5 c6 c7 c8 c9 c10 c11 a1 len1 cap1 zs lv (wf_u8 hlv).1 (wf_u8 hlv).2 W (rdB hr hz hw)).mono fun e W' ⟨he, hfr⟩ => ?_
  subst he
  have bel : Below W.heap.size W W' := hfr.below _ (Nat.le_refl _) (fun _ _ => id)
  exact ⟨_, rfl, _, _, _, [], _, [], hW', trodAll_mk1 (shut_bool Try.underlying4 _), (trodAll_cons_mk (Below.trod laidOut (by kernel_rfl) (of_decide_eq_true (by kernel_rfl)) k0 bel lt0) (trodAll_cons_mk (Below.trod laidOut (by kernel_rfl) (of_decide_eq_true (by kernel_rfl)) k1 bel lt1) (trodAll_cons_mk (Below.trod laidOut (by kernel_rfl) (of_decide_eq_true (by kernel_rfl)) k2 bel lt2) trodAll_mk0))), rfl, bel.frame _, fun h => by cases h⟩
/-- THE STATEMENT. -/
theorem proved : Rows.ChunkLeavesSaid :=
  OpenClaim.holds_of_wide 7 Try.f7 rfl rfl rfl rfl rfl rfl rfl ⟨rfl, rfl, rfl, rfl, rfl⟩ rfl rfl rfl rfl rfl (by kernel_rfl) Try.func7 (by kernel_rfl)
    (of_decide_eq_true (by kernel_rfl)) (by unfold Func.isWrapper; first | (rw [if_pos (by decide +kernel)]; kernel_rfl) | (rw [if_neg (by decide +kernel)]; exact ⟨rfl, rfl⟩))
    (fun os started H enc _ => lifted os started H enc)
#print axioms proved
end Go.Proofs.Yticlbmeldcncnaa.lawLeaves
