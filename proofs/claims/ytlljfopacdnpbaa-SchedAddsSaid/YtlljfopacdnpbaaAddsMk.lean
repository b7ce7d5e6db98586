/- The tasks that add are made and put. Conditions: those of the lemmas. -/
import Derived.Test.YtlljfopacdnpbaaAddsStep
namespace Go.Proofs.Ytlljfopacdnpbaa
open Go.RowKit
/-- How often a task adds. -/
def cnt (a : Int) : Nat := (1 + a % 20).toNat
def at0 (a : Int) : AT := ⟨cnt a, 0, 0⟩
theorem cnt_pos {a : Int} : 1 ≤ cnt a := by
  unfold cnt
  have := Int.emod_nonneg a (show (20 : Int) ≠ 0 by decide)
  omega
theorem cnt_le {a : Int} : cnt a ≤ 20 := by
  unfold cnt
  have := Int.emod_lt_of_pos a (show (0 : Int) < 20 by decide)
  omega
def sumA (xs : List Int) : Nat := ((xs.map at0).map (·.left)).sum
theorem sumA_take {xs : List Int} {k : Nat} {a : Int} (h : xs[k]? = some a) : sumA (xs.take (k + 1)) = sumA (xs.take k) + cnt a := by
  unfold sumA
  rw [take_succ' h, List.map_append, List.map_append, List.sum_append]
  simp [at0]
theorem sumA_le : ∀ xs : List Int, sumA xs ≤ 20 * xs.length
  | [] => by simp [sumA]
  | a :: xs => by
    have := sumA_le xs
    have h2 := @cnt_le a
    unfold sumA at this ⊢
    simp only [List.map_cons, List.sum_cons, List.length_cons]
    have h3 : (at0 a).left = cnt a := rfl
    omega
theorem tot0_le : ∀ xs : List Int, tot 0 (xs.map at0) ≤ 322 * xs.length
  | [] => by simp [tot]
  | a :: xs => by
    have := tot0_le xs
    have h2 := @cnt_le a
    unfold tot at this ⊢
    simp only [List.map_cons, List.sum_cons, List.length_cons]
    have h3 : wt 0 (at0 a) = 16 * cnt a + 2 := rfl
    omega
theorem AInv.start (sw : Bool) (xs : List Int) (h8 : xs.length ≤ 8) : AInv sw (sumA xs) (xs.map at0) 0 none := by
  have get : ∀ (i : Nat) (t : AT), (xs.map at0)[i]? = some t → ∃ a, t = at0 a := fun i t h => by
    rw [List.getElem?_map] at h
    obtain ⟨a, _, rfl⟩ := Option.map_eq_some_iff.1 h
    exact ⟨a, rfl⟩
  refine ⟨rfl, fun i t h => ?_, fun _ => rfl, fun _ i t h hp => ?_, fun i h => (by cases h), by simpa using h8⟩
  · obtain ⟨a, rfl⟩ := get i t h
    refine ⟨⟨fun e => by simp [at0] at e, fun e => ?_⟩, by simp [at0], fun e => by simp [at0] at e⟩
    have := @cnt_pos a
    have e2 : cnt a = 0 := e
    omega
  · obtain ⟨a, rfl⟩ := get i t h
    simp [at0] at hp
structure AMk (w W : World) (e : AE) (sw : Bool) (xs : List Int) (T : List TV) (k : Nat) : Prop where
  sch : Sch W e.sb e.tb 0 T
  len : T.length = xs.length
  tk : ∀ i, i < k → T[i]? = some (loadF e i, onA e sw)
  un : ∀ i, k ≤ i → i < xs.length → T[i]? = some (.nilFunc, .pointer none)
  cv : Blk W e.cb [.pointer (some ⟨e.cc, 0, none⟩)] 47
  mv : Blk W e.mx [.pointer (some ⟨e.mm, 0, none⟩)] 49
  wv : Blk W e.wb [.bool sw] 4
  cel : CelI W e.cc 0 0
  mu : Blk W e.mm [.bool false, .int .i64 0] 83
  bx : ∀ (i : Nat) (a : Int), i < k → xs[i]? = some a → ABox W e i (at0 a)
  d1 : ∀ i j, i < k → j < k → e.sn i ≠ e.lf j
  d2 : ∀ i j, i < k → j < k → e.sn i = e.sn j → i = j
  d3 : ∀ i j, i < k → j < k → e.lf i = e.lf j → i = j
  lo : ∀ i, i < k → e.sn i < W.heap.size ∧ e.lf i < W.heap.size
  fr : Fr (fun _ => False) w W
  nw : w.heap.size ≤ e.sb ∧ w.heap.size ≤ e.tb ∧ w.heap.size ≤ e.cc ∧ w.heap.size ≤ e.mm ∧ ∀ i, i < k → w.heap.size ≤ e.sn i ∧ w.heap.size ≤ e.lf i
section
variable {w W W' W2 : World} {e : AE} {sw : Bool} {xs : List Int} {T : List TV} {k : Nat}
/-- Task k has its own cells. -/
def AE.more (e : AE) (k sn se lf ld : Nat) : AE := { e with sn := upd e.sn k sn, se := upd e.se k se, lf := upd e.lf k lf, ld := upd e.ld k ld }
theorem loadF_more (e : AE) {k i sn se lf ld : Nat} (h : i ≠ k) : loadF (e.more k sn se lf ld) i = loadF e i := by
  simp [loadF, AE.more, upd_ne _ _ h]
theorem setF_more (e : AE) {k i sn se lf ld : Nat} (h : i ≠ k) : setF (e.more k sn se lf ld) i = setF e i := by
  simp [setF, AE.more, upd_ne _ _ h]
theorem AMk.more (h : AMk w W e sw xs T k) {a : Int} (ha : xs[k]? = some a) {sn se lf ld : Nat} (hf : Fr (fun _ => False) W W') (hb : ABox W' (e.more k sn se lf ld) k (at0 a)) (n1 : W.heap.size ≤ sn) (n2 : W.heap.size ≤ lf) (n3 : sn ≠ lf)
    (hT : Fr (fun q => q = e.tb) W' W2) (hs : Sch W2 e.sb e.tb 0 (T.set k (loadF (e.more k sn se lf ld) k, onA e sw))) : AMk w W2 (e.more k sn se lf ld) sw xs (T.set k (loadF (e.more k sn se lf ld) k, onA e sw)) (k + 1) := by
  have hkl := (List.getElem?_eq_some_iff.1 ha).1
  have hs1 := h.sch.fr hf id id
  have keep : ∀ {q : Nat} {cs : List Value} {t : TypeId}, Blk W q cs t → t ≠ 53 → Blk W2 q cs t := fun hq ht => hT.blk (hf.blk hq id) ((hf.blk hq id).ne hs1.tsk ht)
  have keep' : ∀ {q : Nat} {cs : List Value} {t : TypeId}, Blk W' q cs t → t ≠ 53 → Blk W2 q cs t := fun hq ht => hT.blk hq (hq.ne hs1.tsk ht)
  have hsz := hf.size
  have hsz2 := hT.size
  refine ⟨hs, by rw [List.length_set]; exact h.len, fun i hi => ?_, fun i hi hil => ?_, keep h.cv (by decide), keep h.mv (by decide), keep h.wv (by decide), keep h.cel (by decide), keep h.mu (by decide), fun i b hi hb' => ?_, fun i j hi hj => ?_, fun i j hi hj => ?_, fun i j hi hj => ?_, fun i hi => ?_, (h.fr.trans hf (fun _ _ h => h)).trans hT (fun q hq hh => by have := h.nw.2.1; omega), ?_⟩
  · by_cases e1 : i = k
    · subst e1
      exact List.getElem?_set_self (by rw [h.len]; exact hkl)
    · rw [List.getElem?_set_ne (Ne.symm e1), loadF_more e e1]
      exact h.tk i (by omega)
  · rw [List.getElem?_set_ne (by omega)]
    exact h.un i (by omega) hil
  · by_cases e1 : i = k
    · subst e1
      rw [ha] at hb'
      injection hb' with hb'
      subst hb'
      exact ⟨keep' hb.sn (by decide), keep' hb.lf (by decide), keep' hb.ld (by decide), keep' hb.se (by decide)⟩
    · have b0 := h.bx i b (by omega) hb'
      have q1 := keep b0.sn (by decide)
      have q2 := keep b0.lf (by decide)
      have q3 := keep b0.ld (by decide)
      have q4 := keep b0.se (by decide)
      rw [← loadF_more (sn := sn) (se := se) (lf := lf) (ld := ld) e e1] at q3
      rw [← setF_more (sn := sn) (se := se) (lf := lf) (ld := ld) e e1] at q4
      refine ⟨?_, ?_, ?_, ?_⟩
      · simpa [AE.more, upd_ne _ _ e1] using q1
      · simpa [AE.more, upd_ne _ _ e1] using q2
      · simpa [AE.more, upd_ne _ _ e1] using q3
      · simpa [AE.more, upd_ne _ _ e1] using q4
  · simp only [AE.more]
    by_cases e1 : i = k
    · subst e1
      rw [upd_same]
      by_cases e2 : j = i
      · subst e2
        rw [upd_same]
        exact n3
      · rw [upd_ne _ _ e2]
        have := (h.lo j (by omega)).2
        omega
    · rw [upd_ne _ _ e1]
      have h1 := (h.lo i (by omega)).1
      by_cases e2 : j = k
      · subst e2
        rw [upd_same]
        omega
      · rw [upd_ne _ _ e2]
        exact h.d1 i j (by omega) (by omega)
  · simp only [AE.more]
    by_cases e1 : i = k
    · by_cases e2 : j = k
      · omega
      · subst e1
        rw [upd_same, upd_ne _ _ e2]
        have := (h.lo j (by omega)).1
        intro hh
        omega
    · have h1 := (h.lo i (by omega)).1
      rw [upd_ne _ _ e1]
      by_cases e2 : j = k
      · subst e2
        rw [upd_same]
        intro hh
        omega
      · rw [upd_ne _ _ e2]
        exact h.d2 i j (by omega) (by omega)
  · simp only [AE.more]
    by_cases e1 : i = k
    · by_cases e2 : j = k
      · omega
      · subst e1
        rw [upd_same, upd_ne _ _ e2]
        have := (h.lo j (by omega)).2
        intro hh
        omega
    · have h1 := (h.lo i (by omega)).2
      rw [upd_ne _ _ e1]
      by_cases e2 : j = k
      · subst e2
        rw [upd_same]
        intro hh
        omega
      · rw [upd_ne _ _ e2]
        exact h.d3 i j (by omega) (by omega)
  · simp only [AE.more]
    by_cases e1 : i = k
    · subst e1
      rw [upd_same, upd_same]
      have l1 := hb.sn.lt
      have l2 := hb.lf.lt
      simp only [AE.more, upd_same] at l1 l2
      omega
    · rw [upd_ne _ _ e1, upd_ne _ _ e1]
      have := h.lo i (by omega)
      omega
  · obtain ⟨a1, a2, a3, a4, a5⟩ := h.nw
    have hw := h.fr.size
    refine ⟨a1, a2, a3, a4, fun i hi => ?_⟩
    simp only [AE.more]
    by_cases e1 : i = k
    · subst e1
      rw [upd_same, upd_same]
      omega
    · rw [upd_ne _ _ e1, upd_ne _ _ e1]
      exact a5 i (by omega)
theorem AMk.new (h : AMk w W e sw xs T k) (hf : Fr (fun _ => False) W W') : AMk w W' e sw xs T k :=
  ⟨h.sch.fr hf id id, h.len, h.tk, h.un, hf.blk h.cv id, hf.blk h.mv id, hf.blk h.wv id, hf.blk h.cel id, hf.blk h.mu id, fun i a hi ha => ⟨hf.blk (h.bx i a hi ha).sn id, hf.blk (h.bx i a hi ha).lf id, hf.blk (h.bx i a hi ha).ld id, hf.blk (h.bx i a hi ha).se id⟩, h.d1, h.d2, h.d3, fun i hi => by have := h.lo i hi; have := hf.size; omega, h.fr.trans hf (fun _ _ h => h), h.nw⟩
theorem AMk.all (h : AMk w W e sw xs T xs.length) : AAt W e sw 0 (xs.map at0) 0 none T := by
  refine ⟨h.sch, by rw [h.len, List.length_map], fun i t hi => ?_, h.cv, h.mv, h.wv, h.cel, muAt (o := none) h.mu (fun y hy => by cases hy), fun i t hi => ?_, by simpa using h.d1, by simpa using h.d2, by simpa using h.d3⟩
  all_goals
    rw [List.getElem?_map] at hi
    obtain ⟨a, ha, rfl⟩ := Option.map_eq_some_iff.1 hi
    have hil := (List.getElem?_eq_some_iff.1 ha).1
  · exact h.tk i hil
  · exact h.bx i a hil ha
end
end Go.Proofs.Ytlljfopacdnpbaa
