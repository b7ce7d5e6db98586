/- chunk.Cut. Conditions: those of the lemmas. -/
import Derived.Test.YticlbmeldcncnaaParts
import Derived.Test.YticlbmeldcncnaaSame
namespace Go.Proofs.Yticlbmeldcncnaa
open Go.RowKit Go.Shelf Ch
attribute [local go_sem] Oper.semAt_some
theorem agg_of (c0 c1 c2 c3 c4 c5 c6 c7 c8 c9 c10 c11 : Int) (w : World) (cB : Nat) (h : Blk w cB (i64s [c0, c1, c2, c3, c4, c5, c6, c7, c8, c9, c10, c11]) 23) :
    w.cell? ⟨cB, 0, none⟩ = some (.int .i64 c0) ∧ w.cell? ⟨cB, 1, none⟩ = some (.int .i64 c1) ∧ w.cell? ⟨cB, 2, none⟩ = some (.int .i64 c2) ∧ w.cell? ⟨cB, 3, none⟩ = some (.int .i64 c3) ∧ w.cell? ⟨cB, 4, none⟩ = some (.int .i64 c4) ∧
    w.cell? ⟨cB, 5, none⟩ = some (.int .i64 c5) ∧ w.cell? ⟨cB, 6, none⟩ = some (.int .i64 c6) ∧ w.cell? ⟨cB, 7, none⟩ = some (.int .i64 c7) ∧ w.cell? ⟨cB, 8, none⟩ = some (.int .i64 c8) ∧ w.cell? ⟨cB, 9, none⟩ = some (.int .i64 c9) ∧
    w.cell? ⟨cB, 10, none⟩ = some (.int .i64 c10) ∧ w.cell? ⟨cB, 11, none⟩ = some (.int .i64 c11) :=
  ⟨h.cell 0 rfl, h.cell 1 rfl, h.cell 2 rfl, h.cell 3 rfl, h.cell 4 rfl, h.cell 5 rfl, h.cell 6 rfl, h.cell 7 rfl, h.cell 8 rfl, h.cell 9 rfl, h.cell 10 rfl, h.cell 11 rfl⟩
theorem cut_no (c0 c1 c2 c3 c4 c5 c6 c7 c8 c9 c10 c11 : Int) (v : Value) (w : World) (h : ¬ (1 ≤ c8 ∧ 1 ≤ c9 ∧ c9 ≤ 65536 ∧ c8 ≤ c10 ∧ c10 ≤ 4096)) :
    Calls Try.prog 9 #[.agg #[.int .i64 c0, .int .i64 c1, .int .i64 c2, .int .i64 c3, .int .i64 c4, .int .i64 c5, .int .i64 c6, .int .i64 c7, .int .i64 c8, .int .i64 c9, .int .i64 c10, .int .i64 c11], v] w fun e w' => e = .returned (.tuple #[.slice none 0 0, .int .i64 1]) ∧ Fr (fun _ => False) w w' := by
  go_enter Try.func9, Try.ntmps9
  go_wp2_with (go_at_call 10; refine (check_no c0 c1 c2 c3 c4 c5 c6 c7 c8 c9 c10 c11 _ h).mono ?_; rintro e w1 ⟨rfl, rfl⟩)
  go_ret2
  exact ⟨rfl, ((Fr.refl _ w).alloc _).alloc _⟩
/-- The lengths of the chunks that came. -/
def clens (pre : List Ck) : List Int := pre.map fun x => (x.cs.length : Int)
theorem Gd.calm (B : Nat) (parts : List (List Int)) (pre : List Ck) : Calm B (Gd parts pre) := fun _ _ _ h hf => ⟨h.1.turn hf, h.2⟩
theorem Gd.len {parts : List (List Int)} {pre : List Ck} {x : Ck} {W : World} (h : Gd parts pre x W) : pre.length + 1 ≤ parts.length := by
  have := h.2.2.2.length_le
  simpa using this
theorem ne_len (l : List (List Int)) : (ne l).length ≤ l.length := List.length_filter_le _ _
theorem clens_snoc (pre : List Ck) (x : Ck) : i64s (clens (pre ++ [x])) = i64s (clens pre) ++ [.int .i64 x.cs.length] := by simp [clens, i64s]
def CutI (w : World) (oB : Nat) (pre : List Ck) (W : World) : Prop :=
  Fr (fun _ => False) w W ∧ ∃ v, Blk W oB [v] 26 ∧ Row W 3 v (i64s (clens pre)) ∧ (∀ g, v.ownBlock = some g → w.heap.size ≤ g)
theorem CutI.calm (w : World) (B oB : Nat) (hB : w.heap.size ≤ B) : Calm B (CutI w oB) := fun _ _ _ ⟨h1, v, h2, h3, h4⟩ hf => ⟨h1.turn hf hB, v, h2.turn hf, h3.turn hf, h4⟩
theorem parts_lens (c : Cf) (bs : List Int) : ((St.run c ⟨[], [], []⟩ bs).parts.map fun c => (c.length : Int)) = St.lens (St.run c ⟨[], [], []⟩ bs) := by
  have h := St.run_out_ne c bs ⟨[], [], []⟩ (by simp)
  generalize St.run c ⟨[], [], []⟩ bs = s at h
  unfold Ch.St.parts St.lens
  rw [ne_snoc]
  have hn : ne s.out = s.out := by
    unfold ne
    rw [List.filter_eq_self]
    intro x hx
    simpa using h x hx
  rw [hn]
  split <;> simp
set_option maxHeartbeats 1000000 in
set_option maxRecDepth 100000 in
theorem cut_ok (c0 c1 c2 c3 c4 c5 c6 c7 c8 c9 c10 c11 : Int) (h1 : 1 ≤ c8) (h2 : 1 ≤ c9) (h3 : c9 ≤ 65536) (h4 : c8 ≤ c10) (h5 : c10 ≤ 4096) (A : Option Addr) (n cp : Nat) (bs : List Int) (w : World) (hD : RdB w A n bs) (hn : n ≤ 1000000) :
    Calls Try.prog 9 #[.agg #[.int .i64 c0, .int .i64 c1, .int .i64 c2, .int .i64 c3, .int .i64 c4, .int .i64 c5, .int .i64 c6, .int .i64 c7, .int .i64 c8, .int .i64 c9, .int .i64 c10, .int .i64 c11], .slice A n cp] w fun e w' => ∃ v, e = .returned (.tuple #[v, .int .i64 0]) ∧ Row w' 3 v (i64s ((St.run ⟨c8, c9, c10⟩ ⟨[], [], []⟩ bs).parts.map fun c => (c.length : Int))) ∧ Fr (fun _ => False) w w' ∧ (∀ g, v.ownBlock = some g → w.heap.size ≤ g) := by
  obtain ⟨m, hm⟩ : ∃ m : Nat, m = 9 := ⟨_, rfl⟩
  clear hm
  refine (callsIn_wide (n := m)).1 ?_
  refine callsIn_of_wp_marks Try.func9 rfl trivial ?_ rfl
  simp only [Try.ntmps9, List.size_toArray, List.length_cons, List.length_nil, Nat.reduceAdd, Nat.reduceSub, Array.replicate_succ, Array.replicate_zero, List.push_toArray, List.append_toArray, List.nil_append, List.cons_append]
  have nd : Fence.wide.depth.isSome = true → 1 ≤ m := fun h => by simp [Fence.wide] at h
  have ND := Lib.hid nd
  clear nd
  gi_wp2_with (fail)
  refine ⟨trivial, ND.out, (callsIn_wide.2 (check_ok c0 c1 c2 c3 c4 c5 c6 c7 c8 c9 c10 c11 _ h1 h2 h3 h4 h5)).mono ?_⟩
  rintro e W1 ⟨rfl, rfl⟩
  gi_wp2_with (fail)
  refine ⟨trivial, ND.out, (callsIn_wide.2 (parts_any c0 c1 c2 c3 c4 c5 c6 c7 c8 c9 c10 c11 A n cp _)).mono ?_⟩
  rintro e W2 ⟨rfl, hW2⟩
  have f2 : Fr (fun _ => False) w W2 := by rw [← hW2]; exact (((((Fr.refl _ w).alloc _).alloc _).alloc _).alloc _).alloc _
  have hO : Blk W2 (w.heap.size + 1 + 1) [.slice none 0 0] 26 := by rw [← hW2]; exact ((Blk.at_new _ _ _ _ _ (by simp) rfl).alloc _).alloc _
  have hcB : Blk W2 (w.heap.size + 1 + 1 + 1) (i64s [c0, c1, c2, c3, c4, c5, c6, c7, c8, c9, c10, c11]) 23 := by rw [← hW2]; exact (Blk.at_new _ _ _ _ _ (by simp) rfl).alloc _
  have hdB : Blk W2 (w.heap.size + 1 + 1 + 1 + 1) [.slice A n cp] 24 := by rw [← hW2]; exact Blk.at_new _ _ _ _ _ (by simp) rfl
  have hD2 : RdB W2 A n bs := hD.fr f2 (fun _ _ => id)
  have hsz : w.heap.size + 1 + 1 < W2.heap.size := hO.lt
  clear hW2
  gi_wp2_with (fail)
  obtain ⟨s, hs⟩ : ∃ s, s = St.run ⟨c8, c9, c10⟩ ⟨[], [], []⟩ bs := ⟨_, rfl⟩
  have hpl : s.parts.length ≤ 1000001 := by
    have e1 := St.run_out ⟨c8, c9, c10⟩ bs ⟨[], [], []⟩
    rw [← hs, hD.1] at e1
    simp only [List.length_nil] at e1
    have e2 := ne_len (s.out ++ [s.o])
    unfold Ch.St.parts
    simp only [List.length_append, List.length_singleton] at e2
    omega
  have hit := fun l J Jx W => parts_iter (m := m) c0 c1 c2 c3 c4 c5 c6 c7 c8 c9 c10 c11 h1 h2 h3 h4 h5 (w.heap.size + 1 + 1 + 1) (w.heap.size + 1 + 1 + 1 + 1) A n cp bs W2 hcB hdB hD2 hn l J Jx W
  rw [← hs] at hit
  refine range_law (n := m) (gf := 22) (lb := #[.pointer (some ⟨w.heap.size + 1 + 1 + 1, 0, none⟩), .pointer (some ⟨w.heap.size + 1 + 1 + 1 + 1, 0, none⟩)]) rfl (enters_of Try.func22 (by kernel_rfl) rfl) (fun x : Ck => #[.int .i64 x.at_, x.v]) (fun _ => rfl)
    (CutI w (w.heap.size + 1 + 1)) (fun _ _ _ => False) (Gd s.parts) Kp (CutI.calm w _ _ f2.size) (fun _ _ _ _ h _ => h) (Gd.calm _ _) Kp.trans Kp.turn
    (fun xs => xs.map Ck.cs = s.parts) (fun pre => pre.map Ck.cs <+: s.parts) hit ⟨f2, _, hO, Row.nil _ _, fun g hg => by simp [Value.ownBlock] at hg⟩ ?round ?done ?stop
  case round =>
    intro l pre x W hI hG
    gi_wp2
    refine ⟨Fr.refl _ _, ?_⟩
    intro W3 hf3
    obtain ⟨hF3, v, hO3, hR3, hN3⟩ := CutI.calm w _ _ f2.size _ _ _ hI hf3
    have hG3 := Gd.calm _ _ _ _ _ _ hG hf3
    obtain ⟨xA, xc, hxv⟩ := hG3.1.slice
    rw [u8s_len] at hxv
    have hpl' := hG3.len
    have hcl : (i64s (clens pre)).length ≤ 2000000 := by simp only [i64s, clens, List.length_map]; omega
    have o0 := hO3.cell 0 rfl
    have o1 := hO3.free 0
    rw [hxv]
    gi_wp2_with (gi_at_builtin; go_must (refine app1In rfl _ _ 26 3 (.int .i64 0) 8 rfl Try.underlying26 info3 rfl (by decide) v (i64s (clens pre)) (.int .i64 x.cs.length) rfl rfl rfl hR3 (by omega) ?_); intro g c3 W5 hR5 hor5 hf5 _; have hO5 := hf5.blk hO3 (hR3.ne hO3 (by decide)); have o5 := hO5.cell 0 rfl; have q5 := hO5.free 0)
    have hset : Fr (fun q => q = w.heap.size + 1 + 1) W5 (W5.setCell ⟨w.heap.size + 1 + 1, 0, none⟩ (.slice (some ⟨g, 0, none⟩) ((i64s (clens pre)).length + 1) c3)) := (Fr.refl _ _).set1 _ _
    have hcells : ∀ q, v.ownBlock = some q → ∃ (cs : Array Value) (fr : Nat × Nat), W3.heap[q]? = some (.cells cs 3 fr) := by
      intro q hq
      rcases hR3.form with ⟨rfl, _⟩ | ⟨g', c', cur, rfl, hg', _⟩
      · simp [Value.ownBlock] at hq
      · have : g' = q := by simpa [Value.ownBlock] using hq
        subst this
        exact ⟨cur, (0, 0), hg'⟩
    refine ⟨(Stay.of_fr hf5 (fun q hq => by obtain ⟨cs, fr, h⟩ := hcells q hq; exact ⟨cs, 3, fr, h⟩)).trans (Stay.of_fr hset (fun q hq => by subst hq; exact ⟨_, _, _, hO5.out⟩)), (Kp.fr hf5 ?_).trans (Kp.fr hset ?_), ?_, ?_⟩
    · intro q hq cs t hc
      obtain ⟨cs', fr, h⟩ := hcells q hq
      rw [h] at hc
      cases hc
      exact ⟨by decide, by decide⟩
    · intro q hq cs t hc
      subst hq
      rw [hO5.out] at hc
      cases hc
      exact ⟨by decide, by decide⟩
    · exact (hF3.trans hf5 (fun q hq h => by have := hN3 q h; omega)).trans hset (fun q hq h => by subst h; omega)
    · refine ⟨_, hO5.set 0 _, ?_, ?_⟩
      · rw [clens_snoc]
        exact hR5.other (by
          have := hR5.ne hO5 (by decide)
          exact this) _
      · intro g' hg'
        have hq : g = g' := by simpa [Value.ownBlock] using hg'
        subst hq
        rcases hor5 with h | h
        · exact hN3 _ h
        · have := hF3.size; omega
  case done =>
    rintro D xs W hDD hS ⟨hF, v, hO, hR, hN⟩ hK
    have o0 := hO.cell 0 rfl
    gi_wp2
    refine ⟨by simp, .inl ⟨_, _, rfl, run_takeDeferred hK, ?_⟩⟩
    have ht : Fr (Turn w.heap.size W) W (W.putObj D (.deferred none)) := turn_put _ (by omega) hK rfl
    refine ⟨_, results_tmp2 rfl _ _ _, ?_⟩
    refine ⟨v, rfl, ?_, hF.turn ht (Nat.le_refl _), hN⟩
    have := hR.turn ht
    rw [← hs, ← hS]
    rw [List.map_map]
    exact this
  case stop =>
    rintro D c pre W _ _ h _
    exact h.elim
end Go.Proofs.Yticlbmeldcncnaa
