/- A range over a function whose iterator changes memory of its own between the rounds. Conditions: those of the law. -/
import Derived.Test.YtcpnjlnphjnhnaaRange
namespace Go.Proofs.Ytcpnjlnphjnhnaa
open Go.RowKit Go.Shelf
theorem range_law2 {α : Type} {P : Program} {g : Operand} {ps : Array Tmp} {assign body : Code} {Q : Exit → Act → World → Prop} {a : Act} {w : World} {n : Nat} {gf : Nat} {lb : Array Value}
    (hg : a.eval g = .func (.func gf) #[] lb) (eg : ∀ args w, (callFunc gf args).run P w = .ok (.enter gf args) w)
    (encs : α → Array Value) (hps : ∀ x, (encs x).size = ps.size)
    (I : List α → World → Prop) (Ix : Code → List α → World → Prop) (Gd : List α → α → World → Prop) (Kp : World → World → Prop)
    (hI : Calm w.heap.size I) (hIx : ∀ c, Calm w.heap.size (Ix c)) (hG : ∀ pre, Calm w.heap.size (Gd pre))
    (hKt : ∀ {A B C : World}, Kp A B → Kp B C → Kp A C) (hKb : ∀ W W', Fr (Turn w.heap.size W) W W' → Kp W W')
    (Kq : World → World → Prop) (hIq : ∀ s A B, I s A → Kq A B → I s B) (hQr : ∀ A B (k : Nat) (o : Obj), Kq A B → w.heap.size ≤ k → A.heap[k]? = some o → o.isCells = false → B.heap[k]? = some o)
    (S Sp : List α → Prop)
    (hiter : ∀ (l : Nat) (J Jx : List α → World → Prop) (W : World), Fr (fun _ => False) w W → (∀ s A B, J s A → Kq A B → J s B) →
      (∀ pre x W1, J pre W1 → Gd pre x W1 → YieldAt Fence.wide (n - 1) P l (encs x) W1 fun e W' => (e = .returned (.bool true) ∧ J (pre ++ [x]) W' ∧ Kp W1 W') ∨ (e = .returned (.bool false) ∧ Jx (pre ++ [x]) W')) →
      J [] W → CallsIn Fence.wide (n - 1) P gf (#[.func (.yield l) #[] #[]] ++ lb) W fun e W' => (∃ v, e = .returned v) ∧ ((∃ xs, S xs ∧ J xs W') ∨ (∃ pre, Sp pre ∧ Jx pre W')))
    (h0 : I [] w)
    (hround : ∀ (l : Nat) (pre : List α) (x : α) (W : World), I pre W → Gd pre x W →
      assign.wpIn (Fence.wide.inRound l) (n - 1) P (Exit.then (fun a1 W1 => Fr (fun _ => False) W W1 ∧ ∀ W2, Fr (Turn w.heap.size W1) W1 W2 → body.wpIn (Fence.wide.inRound l) (n - 1) P (outPost w.heap.size Kp I Ix (pre ++ [x]) W2) a1 W2) (fun _ _ _ => False))
        { tmps := (ps.zip (encs x)).foldl (fun t (p, v) => t.setIfInBounds p v) a.tmps, defers := [] } W)
    (hdone : ∀ (D : Nat) (xs : List α) (W : World), w.heap.size ≤ D → S xs → I xs W → W.heap[D]? = some (.deferred (some [])) → Q .normal { a with defers := { target := .collected D, args := #[] } :: a.defers } W)
    (hstop : ∀ (D : Nat) (c : Code) (pre : List α) (W : World), w.heap.size ≤ D → Sp pre → Ix c pre W → W.heap[D]? = some (.deferred (some [])) → c.wpIn Fence.wide n P Q { a with defers := { target := .collected D, args := #[] } :: a.defers } W) :
    (Code.rangeFunc g ps assign body).wpIn Fence.wide n P Q a w := by
  refine wpIn_rangeFunc fun fn hfn => ?_
  obtain ⟨rc, hrc⟩ : ∃ rc : LoopState → Option Code → Loop, rc = fun st pe => { state := st, pending := pe, fn, tmps := a.tmps, params := ps, assign, body, defers := w.heap.size } := ⟨_, rfl⟩
  obtain ⟨W1, hW1⟩ : ∃ W1, (w.alloc (.deferred (some []))).alloc (.loop (rc .ready none)) = W1 := ⟨_, rfl⟩
  have hF1 : Fr (fun _ => False) w W1 := by rw [← hW1]; exact ((Fr.refl _ w).alloc _).alloc _
  have hL1 : W1.heap[w.heap.size + 1]? = some (.loop (rc .ready none)) := by
    rw [← hW1]
    have := World.alloc_heap_new (w.alloc (.deferred (some []))) (.loop (rc .ready none))
    rwa [World.size_alloc] at this
  have hD1 : W1.heap[w.heap.size]? = some (.deferred (some [])) := by
    rw [← hW1]
    exact (Below.heap_alloc _ _ _ (by simp)).trans (World.alloc_heap_new w _)
  refine ⟨w.heap.size + 1, [{ target := .collected w.heap.size, args := #[] }], W1, { target := .fn (.func gf) lb, args := #[.func (.yield (w.heap.size + 1)) #[] #[]] }, W1, gf,
    #[.func (.yield (w.heap.size + 1)) #[] #[]] ++ lb, W1, ?_, ?_, fun _ _ => trivial, ?_, ?_, ?_⟩
  · rw [← hW1, hrc]
    exact run_enterLoop_outer _ _ _ _ _
  · simp only [resolve, hg]
    simp [go_sem]
  · simp [invoke, go_sem, eg]
  · intro h
    simp [Fence.wide] at h
  · -- the iterator, at the caller's state and the two records
    have keep : ∀ {A B : World} {k : Nat} {o : Obj}, A.heap[k]? = some o → Fr (fun _ => False) A B → B.heap[k]? = some o := fun ho hf => (hf.block _ (Array.getElem?_eq_some_iff.1 ho).1 id).trans ho
    refine (hiter (w.heap.size + 1)
      (fun s W => I s W ∧ W.heap[w.heap.size + 1]? = some (.loop (rc .ready none)) ∧ W.heap[w.heap.size]? = some (.deferred (some [])))
      (fun s W => ∃ c, Ix c s W ∧ W.heap[w.heap.size + 1]? = some (.loop (rc .done (some c))) ∧ W.heap[w.heap.size]? = some (.deferred (some [])))
      W1 hF1 (fun s A B h hf => ⟨hIq s A B h.1 hf, hQr A B _ _ hf (by omega) h.2.1 rfl, hQr A B _ _ hf (Nat.le_refl _) h.2.2 rfl⟩) ?_ ⟨hI [] w W1 h0 (turn_new hF1), hL1, hD1⟩).mono ?_
    · rintro pre x W ⟨hi, hl, hd⟩ hgd
      have hy := run_yield (P := P) (args := encs x) hl (by rw [hrc]; exact hps x)
      rw [hrc] at hy
      refine ⟨fn, _, assign, body, hy, roundIn_of_wpIn trivial (wpIn_mono (hround (w.heap.size + 1) pre x W hi hgd) ?_)⟩
      intro e0 a1 W1' hp0
      cases e0 with
      | exit id => exact hp0
      | goto t => exact hp0
      | ret => exact hp0
      | panic ch => exact hp0
      | outgrown => exact hp0
      | normal =>
      obtain ⟨hf0, hb⟩ := hp0
      have hl' := keep hl hf0
      have hd' := keep hd hf0
      have hk0 := hKb W W1' (turn_new hf0)
      refine ⟨_, run_beginRound hl' (by rw [hrc]), ?_⟩
      have hlt : w.heap.size + 1 < W1'.heap.size := (Array.getElem?_eq_some_iff.1 hl').1
      have ht : Fr (Turn w.heap.size W1') W1' (W1'.putObj (w.heap.size + 1) (.loop { rc .ready none with state := .busy })) := turn_put _ (by omega) hl' rfl
      have hl2 : (W1'.putObj (w.heap.size + 1) (.loop { rc .ready none with state := .busy })).heap[w.heap.size + 1]? = some (.loop { rc .ready none with state := .busy }) := World.putObj_heap_same hlt
      have hd2 : (W1'.putObj (w.heap.size + 1) (.loop { rc .ready none with state := .busy })).heap[w.heap.size]? = some (.deferred (some [])) := (World.putObj_heap_other (by omega)).trans hd'
      have hk2 := hKt hk0 (hKb _ _ ht)
      have hb := hb _ ht
      generalize W1'.putObj (w.heap.size + 1) (.loop { rc .ready none with state := .busy }) = W2 at hl2 hd2 hk2 hb ⊢
      refine wpIn_mono hb ?_
      have fin : ∀ (jump : Option Code) (W3 : World), Stay w.heap.size W2 W3 →
          ∃ W4, (Instr.endRound (w.heap.size + 1) jump).run P W3 = .ok (.bool jump.isNone) W4 ∧ W4.heap[w.heap.size + 1]? = some (.loop (rc (if jump.isNone then .ready else .done) jump)) ∧
            W4.heap[w.heap.size]? = some (.deferred (some [])) ∧ Fr (Turn w.heap.size W3) W3 W4 := by
        intro jump W3 hs
        have hl3 := hs.same _ _ (by omega) hl2 rfl
        have hd3 := hs.same _ _ (Nat.le_refl _) hd2 rfl
        have hr := run_endRound (P := P) jump hl3
        refine ⟨_, hr, ?_, (World.putObj_heap_other (by omega)).trans hd3, turn_put _ (by omega) hl3 rfl⟩
        rw [hrc]
        exact World.putObj_heap_same (Array.getElem?_eq_some_iff.1 hl3).1
      intro e a3 W3 hp
      cases e with
      | normal =>
        obtain ⟨hs, hk, hi3⟩ := hp
        obtain ⟨W4, hr, hl4, hd4, ht4⟩ := fin none W3 hs
        exact ⟨_, W4, hr, .inl ⟨rfl, ⟨hI _ _ _ hi3 ht4, hl4, hd4⟩, hKt (hKt hk2 hk) (hKb _ _ ht4)⟩⟩
      | ret =>
        obtain ⟨hs, hi3⟩ := hp
        obtain ⟨W4, hr, hl4, hd4, ht4⟩ := fin (some .ret) W3 hs
        exact ⟨_, W4, hr, .inr ⟨rfl, .ret, hIx _ _ _ _ hi3 ht4, hl4, hd4⟩⟩
      | exit id =>
        obtain ⟨hs, hi3⟩ := hp
        obtain ⟨W4, hr, hl4, hd4, ht4⟩ := fin (some (.exit id)) W3 hs
        exact ⟨_, W4, hr, .inr ⟨rfl, .exit id, hIx _ _ _ _ hi3 ht4, hl4, hd4⟩⟩
      | goto t => exact hp.elim
      | panic ch => exact hp.elim
      | outgrown => exact hp.elim
    · rintro e W2 ⟨⟨v, rfl⟩, (⟨xs, hS, hi, hl, hd⟩ | ⟨pre, hSp, c, hi, hl, hd⟩)⟩
      · have hr := run_endLoop (P := P) hl (by rw [hrc]; simp)
        have ht : Fr (Turn w.heap.size W2) W2 (W2.putObj (w.heap.size + 1) (.loop { rc .ready none with state := .exhausted })) := turn_put _ (by omega) hl rfl
        refine ⟨none, _, by rw [hrc] at hr ⊢; exact hr, hdone _ xs _ (Nat.le_refl _) hS (hI _ _ _ hi ht) ((World.putObj_heap_other (by omega)).trans hd)⟩
      · have hr := run_endLoop (P := P) hl (by rw [hrc]; simp)
        have ht : Fr (Turn w.heap.size W2) W2 (W2.putObj (w.heap.size + 1) (.loop { rc .done (some c) with state := .exhausted })) := turn_put _ (by omega) hl rfl
        refine ⟨some c, _, by rw [hrc] at hr ⊢; exact hr, hstop _ c pre _ (Nat.le_refl _) hSp (hIx _ _ _ _ hi ht) ((World.putObj_heap_other (by omega)).trans hd)⟩

end Go.Proofs.Ytcpnjlnphjnhnaa
