/- A range over a function: the law for an iterator that vouches for what it hands out. Conditions: those of the law. -/
import Derived.Test.YtcpnjlnphjnhnaaBase
import Derived.RangeFuncNested
import Derived.RangeFuncBound
import Derived.RangeFuncCalls
import Derived.RangeFuncLeaves
import Derived.RangeFuncBox
import Derived.Shelf.Abstract
import Derived.Shelf.RegionOpen
import Derived.OwnWalkIn
import Derived.TacticsInMore
import Derived.LoopNIn
import Derived.LoopIn
import Derived.Maps.OwnIn
import Derived.Sort.CutIn
namespace Go.Proofs.Ytcpnjlnphjnhnaa
open Go.RowKit Go.Shelf
/-- Blocks from B on that are no cells. -/
def Turn (B : Nat) (W : World) : Nat → Prop := fun k => B ≤ k ∧ ∃ o : Obj, W.heap[k]? = some o ∧ o.isCells = false
theorem turn_put {B : Nat} {W : World} {l : Nat} {o : Obj} (o' : Obj) (hB : B ≤ l) (hl : W.heap[l]? = some o) (ho : o.isCells = false) : Fr (Turn B W) W (W.putObj l o') :=
  ⟨rfl, rfl, rfl, by simp, fun k _ hn => World.putObj_heap_other (fun e => hn (by subst e; exact ⟨hB, o, hl, ho⟩))⟩
theorem turn_new {B : Nat} {W W' : World} (h : Fr (fun _ => False) W W') : Fr (Turn B W) W W' := h.mono (fun _ _ h => h.elim)
def Calm {β : Type} (B : Nat) (I : β → World → Prop) : Prop := ∀ s W W', I s W → Fr (Turn B W) W W' → I s W'
theorem turn_cells {B : Nat} {W W' : World} (h : Fr (Turn B W) W W') {k : Nat} {cs : Array Value} {t : TypeId} {fr : Nat × Nat} (hk : W.heap[k]? = some (.cells cs t fr)) : W'.heap[k]? = some (.cells cs t fr) :=
  (h.block k (Array.getElem?_eq_some_iff.1 hk).1 (fun ⟨_, o, ho, hc⟩ => by rw [hk] at ho; cases ho; cases hc)).trans hk
theorem Blk.turn {B : Nat} {W W' : World} {b : Nat} {cs : List Value} {t : TypeId} (h : Blk W b cs t) (hf : Fr (Turn B W) W W') : Blk W' b cs t := turn_cells hf h
theorem Row.turn {B : Nat} {W W' : World} {e : TypeId} {v : Value} {xs : List Value} (h : Row W e v xs) (hf : Fr (Turn B W) W W') : Row W' e v xs := by
  refine h.fr hf ?_
  intro k hk ⟨_, o, ho, hc⟩
  rcases h.form with ⟨rfl, _⟩ | ⟨g, c, cur, rfl, hg, _⟩
  · simp [Value.ownBlock] at hk
  · have : g = k := by simpa [Value.ownBlock] using hk
    subst this
    rw [hg] at ho
    cases ho
    cases hc
theorem Fr.turn {S : Nat → Prop} {B : Nat} {w W W' : World} (h : Fr S w W) (hf : Fr (Turn B W) W W') (hB : w.heap.size ≤ B) : Fr S w W' :=
  h.trans hf (fun i hi ht => by have := ht.1; omega)
/-- Blocks from B on that are no cells stay as they are. -/
structure Stay (B : Nat) (W W' : World) : Prop where
  same : ∀ (k : Nat) (o : Obj), B ≤ k → W.heap[k]? = some o → o.isCells = false → W'.heap[k]? = some o
theorem Stay.of_fr {B : Nat} {S : Nat → Prop} {W W' : World} (h : Fr S W W') (hS : ∀ k, S k → ∃ (cs : Array Value) (t : TypeId) (fr : Nat × Nat), W.heap[k]? = some (.cells cs t fr)) : Stay B W W' :=
  ⟨fun k o _ ho hc => (h.block k (Array.getElem?_eq_some_iff.1 ho).1 (fun hs => by
    obtain ⟨cs, t, fr, hk⟩ := hS k hs
    rw [hk] at ho
    cases ho
    cases hc)).trans ho⟩
theorem Stay.trans {B : Nat} {W W' W'' : World} (h : Stay B W W') (k : Stay B W' W'') : Stay B W W'' := ⟨fun i o hB ho hc => k.same i o hB (h.same i o hB ho hc) hc⟩
theorem Stay.refl (B : Nat) (W : World) : Stay B W W := ⟨fun _ _ _ h _ => h⟩

theorem roundIn_any {a b : Nat} {P : Program} {l : Nat} {f : FuncId} {tmps : Array Value} {assign body : Code} {w : World} {R : Ending → World → Prop} (h : RoundIn Fence.wide a P l f tmps assign body w R) : RoundIn Fence.wide b P l f tmps assign body w R :=
  ⟨h.1, fun c cs _ => h.2 c cs (room_wide _)⟩
/-- How the body of a round may be left. -/
def outPost {α : Type} (B : Nat) (Kp : World → World → Prop) (I : List α → World → Prop) (Ix : Code → List α → World → Prop) (xs : List α) (W : World) : Exit → Act → World → Prop
  | .normal, _, W' => Stay B W W' ∧ Kp W W' ∧ I xs W'
  | .ret, _, W' => Stay B W W' ∧ Ix .ret xs W'
  | .exit id, _, W' => Stay B W W' ∧ Ix (.exit id) xs W'
  | _, _, _ => False

theorem range_law {α : Type} {P : Program} {g : Operand} {ps : Array Tmp} {assign body : Code} {Q : Exit → Act → World → Prop} {a : Act} {w : World} {n : Nat} {gf : Nat} {lb : Array Value}
    (hg : a.eval g = .func (.func gf) #[] lb) (eg : ∀ args w, (callFunc gf args).run P w = .ok (.enter gf args) w)
    (encs : α → Array Value) (hps : ∀ x, (encs x).size = ps.size)
    (I : List α → World → Prop) (Ix : Code → List α → World → Prop) (Gd : List α → α → World → Prop) (Kp : World → World → Prop)
    (hI : Calm w.heap.size I) (hIx : ∀ c, Calm w.heap.size (Ix c)) (hG : ∀ pre, Calm w.heap.size (Gd pre))
    (hKt : ∀ {A B C : World}, Kp A B → Kp B C → Kp A C) (hKb : ∀ W W', Fr (Turn w.heap.size W) W W' → Kp W W')
    (S Sp : List α → Prop)
    (hiter : ∀ (l : Nat) (J Jx : List α → World → Prop) (W : World), Fr (fun _ => False) w W → (∀ s A B, J s A → Fr (fun _ => False) A B → J s B) →
      (∀ pre x W1, J pre W1 → Gd pre x W1 → YieldAt Fence.wide (n - 1) P l (encs x) W1 fun e W' => (e = .returned (.bool true) ∧ J (pre ++ [x]) W' ∧ Kp W1 W') ∨ (e = .returned (.bool false) ∧ Jx (pre ++ [x]) W')) →
      J [] W → CallsIn Fence.wide (n - 1) P gf (#[.func (.yield l) #[] #[]] ++ lb) W fun e W' => (∃ v, e = .returned v) ∧ ((∃ xs, S xs ∧ J xs W') ∨ (∃ pre, Sp pre ∧ Jx pre W')))
    (h0 : I [] w)
    (hround : ∀ (l : Nat) (pre : List α) (x : α) (W : World), I pre W → Gd pre x W →
      assign.wpIn (Fence.wide.inRound l) (n - 1) P (Exit.then (fun a1 W1 => Fr (fun _ => False) W W1 ∧ ∀ W2, Fr (Turn w.heap.size W1) W1 W2 → body.wpIn (Fence.wide.inRound l) (n - 1) P (outPost w.heap.size Kp I Ix (pre ++ [x]) W2) a1 W2) (fun _ _ _ => False))
        { tmps := (ps.zip (encs x)).foldl (fun t (p, v) => t.setIfInBounds p v) a.tmps, defers := [] } W)
    (hdone : ∀ (D : Nat) (xs : List α) (W : World), w.heap.size ≤ D → S xs → I xs W → W.heap[D]? = some (.deferred (some [])) → Q .normal { a with defers := { target := .collected D, args := #[] } :: a.defers } W)
    (hstop : ∀ (D : Nat) (c : Code) (pre : List α) (W : World), w.heap.size ≤ D → Sp pre → Ix c pre W → W.heap[D]? = some (.deferred (some [])) → c.wpIn Fence.wide n P Q { a with defers := { target := .collected D, args := #[] } :: a.defers } W) :
    (Code.rangeFunc g ps assign body).wpIn Fence.wide n P Q a w := by
  refine wpIn_rangeFunc fun fn hfn => ?_
  obtain ⟨rc, hrc⟩ : ∃ rc : LoopState → Option Code → Loop, rc = fun st pe => { state := st, pending := pe, fn, tmps := a.tmps, params := ps, assign, body, defers := w.heap.size } := ⟨_, rfl⟩
  obtain ⟨W1, hW1⟩ : ∃ W1, (w.alloc (.deferred (some []))).alloc (.loop (rc .ready none)) = W1 := ⟨_, rfl⟩
  have hF1 : Fr (fun _ => False) w W1 := by rw [← hW1]; exact ((Fr.refl _ w).alloc _).alloc _
  have hL1 : W1.heap[w.heap.size + 1]? = some (.loop (rc .ready none)) := by
    rw [← hW1]
    have := World.alloc_heap_new (w.alloc (.deferred (some []))) (.loop (rc .ready none))
    rwa [World.size_alloc] at this
  have hD1 : W1.heap[w.heap.size]? = some (.deferred (some [])) := by
    rw [← hW1]
    exact (Below.heap_alloc _ _ _ (by simp)).trans (World.alloc_heap_new w _)
  refine ⟨w.heap.size + 1, [{ target := .collected w.heap.size, args := #[] }], W1, { target := .fn (.func gf) lb, args := #[.func (.yield (w.heap.size + 1)) #[] #[]] }, W1, gf,
    #[.func (.yield (w.heap.size + 1)) #[] #[]] ++ lb, W1, ?_, ?_, fun _ _ => trivial, ?_, ?_, ?_⟩
  · rw [← hW1, hrc]
    exact run_enterLoop_outer _ _ _ _ _
  · simp only [resolve, hg]
    simp [go_sem]
  · simp [invoke, go_sem, eg]
  · intro h
    simp [Fence.wide] at h
  · -- the iterator, at the caller's state and the two records
    have keep : ∀ {A B : World} {k : Nat} {o : Obj}, A.heap[k]? = some o → Fr (fun _ => False) A B → B.heap[k]? = some o := fun ho hf => (hf.block _ (Array.getElem?_eq_some_iff.1 ho).1 id).trans ho
    refine (hiter (w.heap.size + 1)
      (fun s W => I s W ∧ W.heap[w.heap.size + 1]? = some (.loop (rc .ready none)) ∧ W.heap[w.heap.size]? = some (.deferred (some [])))
      (fun s W => ∃ c, Ix c s W ∧ W.heap[w.heap.size + 1]? = some (.loop (rc .done (some c))) ∧ W.heap[w.heap.size]? = some (.deferred (some [])))
      W1 hF1 (fun s A B h hf => ⟨hI s A B h.1 (turn_new hf), keep h.2.1 hf, keep h.2.2 hf⟩) ?_ ⟨hI [] w W1 h0 (turn_new hF1), hL1, hD1⟩).mono ?_
    · rintro pre x W ⟨hi, hl, hd⟩ hgd
      have hy := run_yield (P := P) (args := encs x) hl (by rw [hrc]; exact hps x)
      rw [hrc] at hy
      refine ⟨fn, _, assign, body, hy, roundIn_of_wpIn trivial (wpIn_mono (hround (w.heap.size + 1) pre x W hi hgd) ?_)⟩
      intro e0 a1 W1' hp0
      cases e0 with
      | exit id => exact hp0
      | goto t => exact hp0
      | ret => exact hp0
      | panic ch => exact hp0
      | outgrown => exact hp0
      | normal =>
      obtain ⟨hf0, hb⟩ := hp0
      have hl' := keep hl hf0
      have hd' := keep hd hf0
      have hk0 := hKb W W1' (turn_new hf0)
      refine ⟨_, run_beginRound hl' (by rw [hrc]), ?_⟩
      have hlt : w.heap.size + 1 < W1'.heap.size := (Array.getElem?_eq_some_iff.1 hl').1
      have ht : Fr (Turn w.heap.size W1') W1' (W1'.putObj (w.heap.size + 1) (.loop { rc .ready none with state := .busy })) := turn_put _ (by omega) hl' rfl
      have hl2 : (W1'.putObj (w.heap.size + 1) (.loop { rc .ready none with state := .busy })).heap[w.heap.size + 1]? = some (.loop { rc .ready none with state := .busy }) := World.putObj_heap_same hlt
      have hd2 : (W1'.putObj (w.heap.size + 1) (.loop { rc .ready none with state := .busy })).heap[w.heap.size]? = some (.deferred (some [])) := (World.putObj_heap_other (by omega)).trans hd'
      have hk2 := hKt hk0 (hKb _ _ ht)
      have hb := hb _ ht
      generalize W1'.putObj (w.heap.size + 1) (.loop { rc .ready none with state := .busy }) = W2 at hl2 hd2 hk2 hb ⊢
      refine wpIn_mono hb ?_
      have fin : ∀ (jump : Option Code) (W3 : World), Stay w.heap.size W2 W3 →
          ∃ W4, (Instr.endRound (w.heap.size + 1) jump).run P W3 = .ok (.bool jump.isNone) W4 ∧ W4.heap[w.heap.size + 1]? = some (.loop (rc (if jump.isNone then .ready else .done) jump)) ∧
            W4.heap[w.heap.size]? = some (.deferred (some [])) ∧ Fr (Turn w.heap.size W3) W3 W4 := by
        intro jump W3 hs
        have hl3 := hs.same _ _ (by omega) hl2 rfl
        have hd3 := hs.same _ _ (Nat.le_refl _) hd2 rfl
        have hr := run_endRound (P := P) jump hl3
        refine ⟨_, hr, ?_, (World.putObj_heap_other (by omega)).trans hd3, turn_put _ (by omega) hl3 rfl⟩
        rw [hrc]
        exact World.putObj_heap_same (Array.getElem?_eq_some_iff.1 hl3).1
      intro e a3 W3 hp
      cases e with
      | normal =>
        obtain ⟨hs, hk, hi3⟩ := hp
        obtain ⟨W4, hr, hl4, hd4, ht4⟩ := fin none W3 hs
        exact ⟨_, W4, hr, .inl ⟨rfl, ⟨hI _ _ _ hi3 ht4, hl4, hd4⟩, hKt (hKt hk2 hk) (hKb _ _ ht4)⟩⟩
      | ret =>
        obtain ⟨hs, hi3⟩ := hp
        obtain ⟨W4, hr, hl4, hd4, ht4⟩ := fin (some .ret) W3 hs
        exact ⟨_, W4, hr, .inr ⟨rfl, .ret, hIx _ _ _ _ hi3 ht4, hl4, hd4⟩⟩
      | exit id =>
        obtain ⟨hs, hi3⟩ := hp
        obtain ⟨W4, hr, hl4, hd4, ht4⟩ := fin (some (.exit id)) W3 hs
        exact ⟨_, W4, hr, .inr ⟨rfl, .exit id, hIx _ _ _ _ hi3 ht4, hl4, hd4⟩⟩
      | goto t => exact hp.elim
      | panic ch => exact hp.elim
      | outgrown => exact hp.elim
    · rintro e W2 ⟨⟨v, rfl⟩, (⟨xs, hS, hi, hl, hd⟩ | ⟨pre, hSp, c, hi, hl, hd⟩)⟩
      · have hr := run_endLoop (P := P) hl (by rw [hrc]; simp)
        have ht : Fr (Turn w.heap.size W2) W2 (W2.putObj (w.heap.size + 1) (.loop { rc .ready none with state := .exhausted })) := turn_put _ (by omega) hl rfl
        refine ⟨none, _, by rw [hrc] at hr ⊢; exact hr, hdone _ xs _ (Nat.le_refl _) hS (hI _ _ _ hi ht) ((World.putObj_heap_other (by omega)).trans hd)⟩
      · have hr := run_endLoop (P := P) hl (by rw [hrc]; simp)
        have ht : Fr (Turn w.heap.size W2) W2 (W2.putObj (w.heap.size + 1) (.loop { rc .done (some c) with state := .exhausted })) := turn_put _ (by omega) hl rfl
        refine ⟨some c, _, by rw [hrc] at hr ⊢; exact hr, hstop _ c pre _ (Nat.le_refl _) hSp (hIx _ _ _ _ hi ht) ((World.putObj_heap_other (by omega)).trans hd)⟩

/-! ### A region that draws its order, inside a round -/
def noDefer (ops : Array Oper) : Bool := ops.all fun o => match o.op with | .defer _ => false | _ => true
theorem noDefer_at {ops : Array Oper} (h : noDefer ops = true) {i : Nat} {o : Oper} (hi : ops[i]? = some o) : ∀ c, o.op ≠ .defer c := by
  intro c hc
  have := Array.all_eq_true.1 h i (Array.getElem?_eq_some_iff.1 hi).1
  rw [(Array.getElem?_eq_some_iff.1 hi).2, hc] at this
  cases this
section
variable {P : Program} {C : World → Prop} {n r : Nat} {md : Region.Mode} {ops : Array Oper}
theorem wpIn_of_quiet_round {o : Oper} {a : Act} {K : Act → Prop} {K' : Act → World → Prop} {Q' : Exit → Act → World → Prop} {w : World} (hnd : ∀ c, o.op ≠ .defer c) (hw : C w) (h : ∀ a w', C w' → K a → K' a w')
    (hh : o.quiet P a C K) : o.wpIn (Fence.wide.inRound r) n P a w K' Q' := by
  obtain ⟨v, h1, h2⟩ := hh
  have h3 := h1 w hw
  unfold Oper.quietAt at h3
  refine ⟨fun _ _ => trivial, ?_⟩
  rw [Oper.semAt_plain _ _ _ hnd]
  generalize (execOp a.eval o).run P w = rr at *
  cases rr with
  | ok x w' =>
    cases x <;> simp only [Oper.quietUpon] at h3 <;> simp only [Oper.uponIn]
    case value u =>
      obtain ⟨e1, e2⟩ := h3
      rw [e1, e2]
      exact h _ _ hw h2
    case skip =>
      obtain ⟨e1, e2⟩ := h3
      rw [e1, ← e2]
      exact h _ _ hw h2
    case enter f args =>
      obtain ⟨e1, hc⟩ := h3
      rw [e1]
      refine ⟨fun hd => by simp [Fence.inRound, Fence.wide] at hd, CallsIn.inRound r (callsIn_wide.2 (hc.mono fun e w'' hh => ?_))⟩
      obtain ⟨he, hw''⟩ := hh
      subst he
      exact h _ _ hw'' h2
  | halt x w' => simp only [Oper.quietUpon] at h3
theorem wpAnyIn_of_quiet_round {Q : Act → Prop} {Q' : Exit → Act → World → Prop} (hnd : noDefer ops = true) (hQ : ∀ a w, C w → Q a → Q' .normal a w) : ∀ (fuel : Nat) (listed : Array Bool) (a : Act) (w : World), C w →
    wpAnyQ P md ops C Q fuel listed a → wpAnyIn (Fence.wide.inRound r) n P md ops Q' fuel listed a w
  | 0, _, _, _, hw, h => ⟨h.1, hQ _ _ hw h.2⟩
  | fuel + 1, _, a, _, hw, h => ⟨fun h0 => hQ _ _ hw (h.1 h0), fun i hi => by
      have hq := h.2 i hi
      unfold qOp at hq
      unfold wpOpIn
      split
      · rename_i ho
        simp only [ho] at hq
        exact wpAnyIn_of_quiet_round hnd hQ fuel _ _ _ hw hq
      · rename_i o ho
        simp only [ho] at hq
        split
        · rename_i hwt
          simp only [hwt, if_true] at hq
          exact wpIn_of_quiet_round (noDefer_at hnd ho) hw (fun a' w' hw' hk => wpAnyIn_of_quiet_round hnd hQ fuel _ a' w' hw' hk) hq
        · rename_i hwt
          simp only [hwt] at hq
          exact ⟨fun _ _ => trivial, wpAnyIn_of_quiet_round hnd hQ fuel _ _ _ hw hq⟩⟩
theorem wpIn_region_round {id : Nat} {Q : Exit → Act → World → Prop} {a : Act} {w : World} {l : List Oper} (hm : P.follows .mixedOrders = true) (hB : Region.lexB .any l.toArray = true) (hnd : noDefer l.toArray = true) (hC : C { w with drawn := w.drawn + 1 })
    (h : wpQuiet P l.toArray C (fun a' => ∀ w', C w' → Q .normal a' w') l a) : (Code.region id l.toArray true).wpIn (Fence.wide.inRound r) n P Q a w := by
  simp only [Region.lexB, Bool.and_eq_true] at hB
  refine wpIn_region_any hm (wpAnyIn_of_quiet_round (Q := fun a' => ∀ w', C w' → Q .normal a' w') hnd (fun _ w' hw' h => h w' hw') _ _ _ _ hC ?_)
  have := wpAnyQ_lex (P := P) (C := C) (md := .any) hB.1 l 0 (Array.replicate l.toArray.size false) a (by simp) (by simpa using hB.2) h
  simpa using this
/-- The class of the worlds that are this one behind some draws. -/
theorem wpIn_region_round_drawn {id : Nat} {Q : Exit → Act → World → Prop} {a : Act} {w : World} {l : List Oper} (hm : P.follows .mixedOrders = true) (hB : Region.lexB .any l.toArray = true) (hnd : noDefer l.toArray = true)
    (h : wpQuiet P l.toArray (fun w' => ∃ n, w' = w.drewN n) (fun a' => ∀ w', (∃ n, w' = w.drewN n) → Q .normal a' w') l a) : (Code.region id l.toArray true).wpIn (Fence.wide.inRound r) n P Q a w :=
  wpIn_region_round hm hB hnd ⟨1, rfl⟩ h
end
/-! ### append of one element, inside a fence -/
section
variable {F : Fence} {nF : Nat} {P : Program} {ops : Array Oper} {rest : List Oper} {o : Oper} {a : Act} {Q : Exit → Act → World → Prop}
theorem app1In {W : World} (hgd : o.guard = none) (s x : Operand) (t e : TypeId) (z : Value) (bytes : Nat)
    (ho : o.op = .call { callee := .builtin .append, args := #[s, x], argTypes := #[t, t] })
    (ht : P.underlying t = some (.slice e)) (hinfo : (P.info? e).map (fun i => (i.zero, i.size, i.bytes)) = some (some z, 1, bytes)) (hz : z.cells.size = 1) (hb0 : 0 < bytes)
    (v : Value) (xs : List Value) (y : Value) (hs : a.eval s = v) (hx : a.eval x = .slice (some ⟨W.heap.size, 0, none⟩) 1 1) (h1 : y.oneCell' = true)
    (HO : Row W e v xs) (hl : (xs.length + 1) * bytes ≤ 140737488355328)
    (h : ∀ g c w1, Row w1 e (.slice (some ⟨g, 0, none⟩) (xs.length + 1) c) (xs ++ [y]) → (v.ownBlock = some g ∨ W.heap.size < g) → Fr (fun k => v.ownBlock = some k) W w1 → W.heap.size < w1.heap.size → wpListIn F nF P ops Q rest (a.put o.dst (.slice (some ⟨g, 0, none⟩) (xs.length + 1) c)) w1) :
    wpListIn F nF P ops Q (o :: rest) a (W.alloc (.cells #[y] e)) := by
  obtain ⟨i0, hi, hzz⟩ := Option.map_eq_some_iff.1 hinfo
  simp only [Prod.mk.injEq] at hzz
  obtain ⟨hz0, hz1, hz2⟩ := hzz
  have hlen : xs.length + 1 ≤ 140737488355328 := Nat.le_trans (Nat.le_mul_of_pos_right _ hb0) hl
  refine wpListIn_append_own_at (W.alloc (.cells #[y] e)) hgd s x t ho 0 e i0 z 1 bytes ht hi hz0 hz1 hz2 hz (by omega) v xs.length xs hs (HO.alloc _) ⟨W.heap.size, 0, none⟩ 1 1 [y] hx rfl
    (World.news_of_block (cs := #[y]) (t := e) (fr := (0, 0)) (heap_alloc_new W _)) (by simpa using h1) (by simp only [maxLen]; omega) hl (Nat.zero_le _) ?_
  intro v1 w1 hown hg hnil hat
  have hown' : Row w1 e v1 (xs ++ [y]) := by simpa [Row] using hown
  rcases hown'.form with ⟨rfl, hh⟩ | ⟨g, c, cur, rfl, hgg, _⟩
  · simp at hh
  · have hfr : Fr (fun k => v.ownBlock = some k) W w1 := ((Fr.refl _ W).alloc _).trans (Fr.grown hg) (fun _ _ h => h)
    have hsz : W.heap.size < w1.heap.size := by have := hg.size; simp at this; omega
    simp only [List.length_append, List.length_singleton] at hown' ⊢
    refine h g c w1 hown' ?_ hfr hsz
    rcases hat with hat | hat
    · left; rw [← hat]; rfl
    · right; simp [Value.ownBlock] at hat; omega
theorem storeAggIn {W : World} (hgd : o.guard = none) (ty : TypeId) (x y : Operand) (ho : o.op = .store ty x y) (g : Nat) (cells old : List Value) (hx : a.eval x = .pointer (some ⟨g, 0, none⟩)) (hy : a.eval y = .agg cells.toArray)
    (t : TypeId) (hB : Blk W g old t) (hi : (P.info? ty).map (·.size) = some cells.length) (hold : old.length = cells.length) (h1 : cells.all (·.oneCell') = true)
    (h : ∀ W1, Blk W1 g cells t → Fr (fun k => k = g) W W1 → wpListIn F nF P ops Q rest (a.put o.dst undef) W1) : wpListIn F nF P ops Q (o :: rest) a W := by
  refine wpListIn_plain hgd fun K hK => ?_
  unfold Oper.wpIn
  refine ⟨by simp [Oper.about, ho], ?_⟩
  rw [Oper.semAt_plain F _ _ (by rw [ho]; intro c hc'; cases hc')]
  unfold execOp
  simp only [ho, hx, hy, Instr.storeAt, Instr.sureAddr, Sem.run_bind, Sem.run_pure, Result.andThen_ok, run_storeVar_row W g t ty old.toArray cells.toArray hB (by simpa using hi) (by simpa using hold) (by simpa using h1)]
  exact hK _ _ (h _ (hB.setRow _) (Fr.setRow _ _ _))
end
end Go.Proofs.Ytcpnjlnphjnhnaa
