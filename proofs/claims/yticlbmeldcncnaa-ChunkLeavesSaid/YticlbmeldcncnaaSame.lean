/- SameInts, ends, right. Conditions: those that each lemma names. -/
import Derived.Test.YticlbmeldcncnaaRef
namespace Go.Proofs.Yticlbmeldcncnaa
open Go.RowKit Ch
theorem i64s_at {xs : List Int} {k : Nat} (h : k < xs.length) : (i64s xs)[k]? = some (.int .i64 (xs.getD k 0)) := by
  simp [i64s, List.getElem?_eq_getElem h, List.getD_eq_getElem?_getD]
theorem i64s_len (xs : List Int) : (i64s xs).length = xs.length := by simp [i64s]
theorem ext_getD {xs ys : List Int} (hl : xs.length = ys.length) (h : ∀ j, j < xs.length → xs.getD j 0 = ys.getD j 0) : xs = ys := by
  refine List.ext_getElem hl fun j h1 h2 => ?_
  have := h j h1
  simpa [List.getD_eq_getElem?_getD, List.getElem?_eq_getElem h1, List.getElem?_eq_getElem h2] using this
set_option maxHeartbeats 400000 in
theorem same_any (A B : Option Addr) (ca cb : Nat) (xs ys : List Int) (w : World) (hx : Rd w A (i64s xs)) (hy : Rd w B (i64s ys)) (hlx : xs.length ≤ 9223372036854775807) (_hly : ys.length ≤ 9223372036854775807) :
    Calls Try.prog 12 #[.slice A xs.length ca, .slice B ys.length cb] w fun e w' => e = .returned (.bool (decide (xs = ys))) ∧ ∃ q, w' = w.drewN q := by
  by_cases hl : xs.length = ys.length
  · have hl' : ((xs.length : Int) != (ys.length : Int)) = false := by simp [hl]
    have Hl := Lib.hid hl
    clear hl
    go_enter Try.func12, Try.ntmps12
    go_wp2
    go_loopw [5] (fun i wr => ∃ k : Nat, k ≤ xs.length ∧ i = .int .i64 k ∧ (∀ j, j < k → xs.getD j 0 = ys.getD j 0) ∧ ∃ q, wr = w.drewN q) (fun i _ => xs.length - (intOf i).toNat)
    case atStart => exact ⟨0, Nat.zero_le _, rfl, fun j hj => by omega, 0, rfl⟩
    case round =>
      obtain ⟨k, hk, rfl, hj, q, rfl⟩ := hrel
      by_cases hlt : k < xs.length
      · obtain ⟨ad, rfl, hca⟩ := hx k _ (i64s_at hlt)
        obtain ⟨bd, rfl, hcb⟩ := hy k _ (i64s_at (by rw [← Hl.out]; exact hlt))
        have hlt2 : k < ys.length := by rw [← Hl.out]; exact hlt
        have HJ := Lib.hid hj
        clear hj
        obtain ⟨x, hxk⟩ : ∃ x, xs.getD k 0 = x := ⟨_, rfl⟩
        obtain ⟨y, hyk⟩ : ∃ y, ys.getD k 0 = y := ⟨_, rfl⟩
        rw [hxk] at hca
        rw [hyk] at hcb
        have HX := Lib.hid hxk
        have HY := Lib.hid hyk
        clear hxk hyk
        by_cases he : x = y
        · have he' : (x != y) = false := by simp [he]
          have He := Lib.hid he
          clear he
          go_wp2
          go_quiet (fail)
          go_wp2
          go_roundw
          case rel =>
            refine ⟨k + 1, by omega, by go_num, fun j hj => ?_, _, rfl⟩
            by_cases e : j = k
            · subst e; rw [HX.out, HY.out, He.out]
            · exact HJ.out j (by omega)
          case measure => simp [intOf]; omega
        · have he' : (x != y) = true := by simp [he]
          have hne : xs ≠ ys := fun e => he (by rw [← HX.out, ← HY.out, e])
          go_wp2
          go_quiet (fail)
          go_wp2
          go_ret
          exact ⟨ret_bool (by simp [hne]), _, World.drewN_drewN _ _ _⟩
      · obtain rfl : k = xs.length := by omega
        have hxy : xs = ys := ext_getD Hl.out hj
        have hdec : decide (xs = ys) = true := by simp [hxy]
        clear hxy
        have HD := Lib.hid hdec
        clear hdec hj
        go_wp2
        go_ret
        exact ⟨ret_bool HD.out.symm, _, rfl⟩
  · have hl' : ((xs.length : Int) != (ys.length : Int)) = true := bne_iff_ne.2 (by omega)
    have hne : decide (xs = ys) = false := by simpa using fun e : xs = ys => hl (by rw [e])
    clear hl
    go_enter Try.func12, Try.ntmps12
    go_wp2
    go_ret
    exact ⟨ret_bool hne.symm, 0, rfl⟩
/-- Where chunks end. -/
def accs : Int → List Int → List Int
  | _, [] => []
  | a, x :: l => (a + x) :: accs (a + x) l
theorem accs_len (l : List Int) : ∀ a, (accs a l).length = l.length := by
  induction l with
  | nil => intro a; rfl
  | cons x l ih => intro a; simp [accs, ih]
theorem accs_snoc (l : List Int) (x : Int) : ∀ a, accs a (l ++ [x]) = accs a l ++ [a + l.sum + x] := by
  induction l with
  | nil => intro a; simp [accs]
  | cons y l ih => intro a; simp only [List.cons_append, accs, ih, List.sum_cons]; rw [show a + y + l.sum + x = a + (y + l.sum) + x by omega]
set_option maxHeartbeats 400000 in
theorem ends_any (A : Option Addr) (ca : Nat) (xs : List Int) (fr : Int) (w : World) (hx : Rd w A (i64s xs)) (hlx : xs.length ≤ 1000000) (hf0 : 0 ≤ fr) (hf1 : fr ≤ 1000000) (hxr : ∀ x ∈ xs, 0 ≤ x ∧ x ≤ 1000000) :
    Calls Try.prog 19 #[.slice A xs.length ca, .int .i64 fr] w fun e w' => ∃ v, e = .returned v ∧ Row w' 3 v (i64s (accs (-fr) xs)) ∧ Fr (fun _ => False) w w' ∧ (∀ g, v.ownBlock = some g → w.heap.size ≤ g) := by
  have hsum : ∀ k, k ≤ xs.length → 0 ≤ (xs.take k).sum ∧ (xs.take k).sum ≤ 1000000 * k := by
    intro k
    induction k with
    | zero => intro _; simp
    | succ k ih =>
      intro hk
      have := ih (by omega)
      rw [List.take_succ_eq_append_getElem (by omega), List.sum_append, List.sum_singleton]
      have := hxr _ (List.getElem_mem (show k < xs.length by omega))
      omega
  have HS := Lib.hid hsum
  clear hsum
  go_enter Try.func19, Try.ntmps19
  go_wp2
  go_loopw [5, 6, 7] (fun v at_ i wr => ∃ k : Nat, k ≤ xs.length ∧ i = .int .i64 k ∧ at_ = .int .i64 (-fr + (xs.take k).sum) ∧ Row wr 3 v (i64s (accs (-fr) (xs.take k))) ∧ Fr (fun _ => False) w wr ∧ (∀ g, v.ownBlock = some g → w.heap.size ≤ g))
    (fun _ _ i _ => xs.length - (intOf i).toNat)
  case atStart => exact ⟨0, Nat.zero_le _, rfl, by simp, Row.nil _ _, Fr.refl _ _, fun g hg => by simp [Value.ownBlock] at hg⟩
  case round =>
    obtain ⟨k, hk, rfl, rfl, hR, hF, hN⟩ := hrel
    by_cases hlt : k < xs.length
    · obtain ⟨ad, rfl, hca⟩ := hx k _ (i64s_at hlt)
      have hca' := hF.cell hca id
      have h1 := HS.out k hk
      have h2 := HS.out (k + 1) (by omega)
      have hsn : Hid (-fr + (xs.take (k + 1)).sum = -fr + (xs.take k).sum + xs.getD k 0) := by
        unfold Hid
        rw [List.take_succ_eq_append_getElem hlt, List.sum_append, List.sum_singleton, List.getD_eq_getElem?_getD, List.getElem?_eq_getElem hlt]
        simp only [Option.getD_some]
        omega
      have hacc : Hid (accs (-fr) (xs.take (k + 1)) = accs (-fr) (xs.take k) ++ [-fr + (xs.take k).sum + xs.getD k 0]) := by
        unfold Hid
        rw [List.take_succ_eq_append_getElem hlt, accs_snoc, List.getD_eq_getElem?_getD, List.getElem?_eq_getElem hlt]
        rfl
      have hxk := hxr _ (List.getElem_mem hlt)
      have hxe : xs.getD k 0 = xs[k] := by rw [List.getD_eq_getElem?_getD, List.getElem?_eq_getElem hlt]; rfl
      rw [← hxe] at hxk
      clear hxe
      have hal : (i64s (accs (-fr) (xs.take k))).length ≤ 1000000 := by rw [i64s_len, accs_len, List.length_take]; omega
      generalize xs.getD k 0 = x at hca' hsn hacc hxk
      generalize (xs.take k).sum = S at h1 hsn hacc ⊢
      clear h2 hca
      have b1 : S ≤ 1000000000000 := by omega
      go_wp2_with (at_builtin; go_must (refine app1 rfl _ _ 26 3 (.int .i64 0) 8 rfl Try.underlying26 info3 rfl (by decide) u5 (i64s (accs (-fr) (xs.take k))) (.int .i64 (-fr + S + x)) rfl rfl rfl hR (by omega) ?_); intro g c3 w5 hR5 hor5 hf5 _)
      go_roundw
      case rel =>
        refine ⟨k + 1, by omega, by go_num, by rw [hsn.out], ?_, hF.trans hf5 (fun q _ h => by have := hN q h; omega), ?_⟩
        · rw [hacc.out]
          have e : i64s (accs (-fr) (xs.take k) ++ [-fr + S + x]) = i64s (accs (-fr) (xs.take k)) ++ [.int .i64 (-fr + S + x)] := by simp [i64s]
          rw [e]
          exact hR5
        · intro g' hg'
          have hq : g = g' := by simpa [Value.ownBlock] using hg'
          subst hq
          rcases hor5 with h | h
          · exact hN _ h
          · have := hF.size; omega
      case measure => simp [intOf]; omega
    · obtain rfl : k = xs.length := by omega
      go_wp2
      go_ret
      rw [List.take_length] at hR
      exact ⟨_, rfl, hR, hF, hN⟩
end Go.Proofs.Yticlbmeldcncnaa
