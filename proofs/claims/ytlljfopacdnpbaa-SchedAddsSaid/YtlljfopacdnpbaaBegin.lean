/- begin: cells, mutexes, a scheduler, each task put. Conditions: those of the lemmas. -/
import Derived.Test.YtlljfopacdnpbaaRunPick
namespace Go.Proofs.Ytlljfopacdnpbaa
open Go.RowKit
theorem info47 : (Try.prog.info? 47).map (fun i => (i.zero, i.size, i.bytes)) = some (some (Value.pointer none), 1, 8) := by kernel_rfl
theorem info49 : (Try.prog.info? 49).map (fun i => (i.zero, i.size, i.bytes)) = some (some (Value.pointer none), 1, 8) := by kernel_rfl
def ptrs (c : Nat → Nat) (k : Nat) : List Value := (List.range k).map fun j => .pointer (some ⟨c j, 0, none⟩)
theorem ptrs_len (c : Nat → Nat) (k : Nat) : (ptrs c k).length = k := by simp [ptrs]
theorem ptrs_succ (c : Nat → Nat) (k b : Nat) : ptrs c k ++ [.pointer (some ⟨b, 0, none⟩)] = ptrs (upd c k b) (k + 1) := by
  unfold ptrs
  rw [List.range_succ, List.map_append]
  congr 1
  · refine List.map_congr_left (fun j hj => ?_)
    rw [upd_ne _ _ (by have := List.mem_range.1 hj; omega)]
  · simp [upd]
/-- The world in the making: k cells and l mutexes are there. -/
structure Mk (w W : World) (wb : Nat) (cv mv : Value) (c m : Nat → Nat) (k l : Nat) : Prop where
  obj : Blk W wb [cv, mv, .slice none 0 0, .pointer none] 38
  cs : Row W 47 cv (ptrs c k)
  ms : Row W 49 mv (ptrs m l)
  cel : ∀ j, j < k → CelI W (c j) 0 0
  mux : ∀ j, j < l → Blk W (m j) [.bool false, .int .i64 0] 83
  ci : ∀ i j, i < k → j < k → c i = c j → i = j
  mi : ∀ i j, i < l → j < l → m i = m j → i = j
  fr : Fr (fun _ => False) w W
  wn : w.heap.size ≤ wb
  csn : ∀ q, cv.ownBlock = some q → w.heap.size ≤ q
  msn : ∀ q, mv.ownBlock = some q → w.heap.size ≤ q
  cn : ∀ j, j < k → w.heap.size ≤ c j
  mn : ∀ j, j < l → w.heap.size ≤ m j
section
variable {w W W' : World} {wb : Nat} {cv mv : Value} {c m : Nat → Nat} {k l : Nat}
theorem Mk.new (h : Mk w W wb cv mv c m k l) (hf : Fr (fun _ => False) W W') : Mk w W' wb cv mv c m k l :=
  ⟨hf.blk h.obj id, h.cs.fr hf (fun _ _ => id), h.ms.fr hf (fun _ _ => id), fun j hj => hf.blk (h.cel j hj) id, fun j hj => hf.blk (h.mux j hj) id, h.ci, h.mi, h.fr.trans hf (fun _ _ h => h), h.wn, h.csn, h.msn, h.cn, h.mn⟩
/-- A cell more. -/
theorem Mk.cell (h : Mk w W wb cv mv c m k l) {b : Nat} (hb : CelI W b 0 0) (hbn : w.heap.size ≤ b) (hnew : ∀ j, j < k → c j ≠ b) {cv' : Value} (hf : Fr (fun q => cv.ownBlock = some q) W W') (hr : Row W' 47 cv' (ptrs c k ++ [.pointer (some ⟨b, 0, none⟩)])) (hor : ∀ q, cv'.ownBlock = some q → cv.ownBlock = some q ∨ W.heap.size ≤ q) :
    Mk w (W'.setCell ⟨wb, 0, none⟩ cv') wb cv' mv (upd c k b) m (k + 1) l := by
  have n1 : ∀ (q : Nat) (cs : List Value) (t : TypeId), Blk W q cs t → t ≠ 47 → ¬ (cv.ownBlock = some q) := fun q cs t hq ht => h.cs.ne hq (Ne.symm ht)
  have ho : Blk W' wb [cv, mv, .slice none 0 0, .pointer none] 38 := hf.blk h.obj (n1 _ _ _ h.obj (by decide))
  have hf2 : Fr (fun q => q = wb) W' (W'.setCell ⟨wb, 0, none⟩ cv') := (Fr.refl _ W').set1 _ _
  have hcel : ∀ j, j < k → CelI W' (c j) 0 0 := fun j hj => hf.blk (h.cel j hj) (n1 _ _ _ (h.cel j hj) (by decide))
  have hcb : CelI W' b 0 0 := hf.blk hb (n1 _ _ _ hb (by decide))
  have hmx : ∀ j, j < l → Blk W' (m j) [.bool false, .int .i64 0] 83 := fun j hj => hf.blk (h.mux j hj) (n1 _ _ _ (h.mux j hj) (by decide))
  have hms : Row W' 49 mv (ptrs m l) := h.ms.fr hf (fun q hq hh => h.cs.ne_row h.ms (by decide) q hh hq)
  refine ⟨ho.set 0 cv', ?_, hms.fr hf2 (fun q hq hh => ?_), fun j hj => ?_, fun j hj => hf2.blk (hmx j hj) ((hmx j hj).ne ho (by decide)), fun i j hi hj e => ?_, h.mi, ?_, h.wn, fun q hq => ?_, h.msn, fun j hj => ?_, h.mn⟩
  · rw [← ptrs_succ]
    exact hr.fr hf2 (fun q hq hh => by subst hh; exact (hr.ne ho (by decide)) hq)
  · subst hh; exact (hms.ne ho (by decide)) hq
  · by_cases e : j = k
    · subst e
      rw [upd_same]
      exact hf2.blk hcb (Blk.ne hcb ho (by decide))
    · rw [upd_ne _ _ e]
      exact hf2.blk (hcel j (by omega)) (Blk.ne (hcel j (by omega)) ho (by decide))
  · by_cases e1 : i = k
    · by_cases e2 : j = k
      · omega
      · subst e1
        rw [upd_same, upd_ne _ _ e2] at e
        exact absurd e.symm (hnew j (by omega))
    · by_cases e2 : j = k
      · subst e2
        rw [upd_same, upd_ne _ _ e1] at e
        exact absurd e (hnew i (by omega))
      · rw [upd_ne _ _ e1, upd_ne _ _ e2] at e
        exact h.ci i j (by omega) (by omega) e
  · exact (h.fr.trans hf (fun q hq hh => by have := h.csn q hh; omega)).setCell _ _ (fun hh => by have := h.wn; simp at hh; omega)
  · rcases hor q hq with hh | hh
    · exact h.csn q hh
    · have := h.fr.size; omega
  · by_cases e : j = k
    · subst e; rw [upd_same]; exact hbn
    · rw [upd_ne _ _ e]; exact h.cn j (by omega)
/-- A mutex more. -/
theorem Mk.mutex (h : Mk w W wb cv mv c m k l) {b : Nat} (hb : Blk W b [.bool false, .int .i64 0] 83) (hbn : w.heap.size ≤ b) (hnew : ∀ j, j < l → m j ≠ b) {mv' : Value} (hf : Fr (fun q => mv.ownBlock = some q) W W') (hr : Row W' 49 mv' (ptrs m l ++ [.pointer (some ⟨b, 0, none⟩)])) (hor : ∀ q, mv'.ownBlock = some q → mv.ownBlock = some q ∨ W.heap.size ≤ q) :
    Mk w (W'.setCell ⟨wb, 1, none⟩ mv') wb cv mv' c (upd m l b) k (l + 1) := by
  have n1 : ∀ (q : Nat) (cs : List Value) (t : TypeId), Blk W q cs t → t ≠ 49 → ¬ (mv.ownBlock = some q) := fun q cs t hq ht => h.ms.ne hq (Ne.symm ht)
  have ho : Blk W' wb [cv, mv, .slice none 0 0, .pointer none] 38 := hf.blk h.obj (n1 _ _ _ h.obj (by decide))
  have hf2 : Fr (fun q => q = wb) W' (W'.setCell ⟨wb, 1, none⟩ mv') := (Fr.refl _ W').set1 _ _
  have hcel : ∀ j, j < k → CelI W' (c j) 0 0 := fun j hj => hf.blk (h.cel j hj) (n1 _ _ _ (h.cel j hj) (by decide))
  have hmb : Blk W' b [.bool false, .int .i64 0] 83 := hf.blk hb (n1 _ _ _ hb (by decide))
  have hmx : ∀ j, j < l → Blk W' (m j) [.bool false, .int .i64 0] 83 := fun j hj => hf.blk (h.mux j hj) (n1 _ _ _ (h.mux j hj) (by decide))
  have hcs : Row W' 47 cv (ptrs c k) := h.cs.fr hf (fun q hq hh => h.cs.ne_row h.ms (by decide) q hq hh)
  refine ⟨ho.set 1 mv', hcs.fr hf2 (fun q hq hh => ?_), ?_, fun j hj => hf2.blk (hcel j hj) (Blk.ne (hcel j hj) ho (by decide)), fun j hj => ?_, h.ci, fun i j hi hj e => ?_, ?_, h.wn, h.csn, fun q hq => ?_, h.cn, fun j hj => ?_⟩
  · subst hh; exact (hcs.ne ho (by decide)) hq
  · rw [← ptrs_succ]
    exact hr.fr hf2 (fun q hq hh => by subst hh; exact (hr.ne ho (by decide)) hq)
  · by_cases e : j = l
    · subst e
      rw [upd_same]
      exact hf2.blk hmb (Blk.ne hmb ho (by decide))
    · rw [upd_ne _ _ e]
      exact hf2.blk (hmx j (by omega)) (Blk.ne (hmx j (by omega)) ho (by decide))
  · by_cases e1 : i = l
    · by_cases e2 : j = l
      · omega
      · subst e1
        rw [upd_same, upd_ne _ _ e2] at e
        exact absurd e.symm (hnew j (by omega))
    · by_cases e2 : j = l
      · subst e2
        rw [upd_same, upd_ne _ _ e1] at e
        exact absurd e (hnew i (by omega))
      · rw [upd_ne _ _ e1, upd_ne _ _ e2] at e
        exact h.mi i j (by omega) (by omega) e
  · exact (h.fr.trans hf (fun q hq hh => by have := h.msn q hh; omega)).setCell _ _ (fun hh => by have := h.wn; simp at hh; omega)
  · rcases hor q hq with hh | hh
    · exact h.msn q hh
    · have := h.fr.size; omega
  · by_cases e : j = l
    · subst e; rw [upd_same]; exact hbn
    · rw [upd_ne _ _ e]; exact h.mn j (by omega)
end
end Go.Proofs.Ytlljfopacdnpbaa
