/- A task that adds takes its step. Conditions: those of the lemmas. -/
import Derived.Test.YtlljfopacdnpbaaAddsMem
namespace Go.Proofs.Ytlljfopacdnpbaa
open Go.RowKit
section
variable {W : World} {e : AE} {sw : Bool} {st : Int} {ts : List AT} {v want : Nat} {held : Option Nat} {T : List TV}
/-- What a step leaves. -/
def Went (w' : World) (e : AE) (sw : Bool) (want : Nat) (ts : List AT) (v : Nat) : Prop :=
  ∃ st' ts' v' held' T', AAt w' e sw st' ts' v' held' T' ∧ AInv sw want ts' v' held' ∧ tot v' ts' + 1 ≤ tot v ts ∧ ts'.length = ts.length
theorem w64 {n : Nat} (h : n ≤ 1000) : wrap64 ((n : Int) + 1) = ((n + 1 : Nat) : Int) := by rw [IntWalk.wrap64_in _ (by omega)]; omega
theorem muAt {W : World} {b : Nat} {o : Option Int} {s : Int} (hb : Blk W b [.bool o.isSome, .int .i64 s] 83) (hs : ∀ y, o = some y → s = y) : MuV W (ptr b) o := .inr ⟨b, s, rfl, hb, hs⟩
theorem astep_load (h : AAt W e sw st ts v held T) (hV : AInv sw want ts v held) {i : Nat} {t : AT} (hi : ts[i]? = some t) (h0 : t.ph = 0) (hr : rdyB sw ts held i = true) :
    Calls Try.prog 33 #[.pointer (some ⟨e.sb, 0, none⟩), .int .i64 (i : Int)] W fun x w' => x = .returned (.int .i64 0) ∧ Fr (AS e ts.length) W w' ∧ Went w' e sw want ts v := by
  have hil := (List.getElem?_eq_some_iff.1 hi).1
  have hT := h.tk i t hi
  unfold tvA at hT
  rw [if_pos h0] at hT
  have b := h.bx i t hi
  obtain ⟨xs, hmb, hms⟩ := h.muB
  have hheld : sw = false → held = none := fun hs => by
    rw [rdyB_some hi, h0, hs] at hr
    simpa using hr
  have hm : MuV W (onA e sw) none := by
    unfold onA
    cases hs : sw
    · simp only [Bool.false_eq_true, if_false]
      have := h.mu
      rwa [hheld hs] at this
    · exact muNone W
  have nsb : ∀ {q : Nat} {cs : List Value} {t : TypeId}, Blk W q cs t → t ≠ 78 → t ≠ 83 → ¬ (q = e.sb ∨ onA e sw = .pointer (some ⟨q, 0, none⟩)) := by
    rintro q cs t hq h1 h2 (hh | hh)
    · exact hq.ne h.sch.blk h1 hh
    · unfold onA ptr at hh
      split at hh
      · cases hh
      · injection hh with hh
        injection hh with hh
        injection hh with hh
        exact (hq.ne hmb h2) hh.symm
  have hsnsb : e.sn i ≠ e.sb := b.sn.ne h.sch.blk (by decide)
  have hsntb : e.sn i ≠ e.tb := b.sn.ne h.sch.tsk (by decide)
  have hgo := step_go (S' := fun q => q = e.sn i) (Q := fun W2 f' m' => (f', m') = (setF e i, Value.pointer none) ∧ Blk W2 (e.sn i) [.int .i64 (v : Int)] 3 ∧ MuV W2 (ptr e.mm) (hI (if sw then held else some i))) h.sch hT hm (Ne.symm hsnsb) (Ne.symm hsntb) (fun q hq hh => by have := b.sn.lt; omega) (enters Try.func18 (by kernel_rfl) rfl) (fun W1 f1 hs1 hm1 => by
    refine (load18 (f1.blk h.cv (nsb h.cv (by decide) (by decide))) (show CelI W1 e.cc _ _ from f1.blk h.cel (nsb h.cel (by decide) (by decide))) (f1.blk b.sn (nsb b.sn (by decide) (by decide))) (f1.blk b.se (nsb b.se (by decide) (by decide))) (i : Int)).mono ?_
    rintro x w' ⟨rfl, hb', hf'⟩
    refine ⟨_, _, rfl, .inr ⟨_, _, _, rfl⟩, ⟨none, rfl⟩, hf', rfl, hb', ?_⟩
    have hmu1 : MuV W1 (ptr e.mm) (hI (if sw then held else some i)) := by
      cases hs : sw
      · simp only [Bool.false_eq_true, if_false]
        rw [hs] at hm1
        exact hm1
      · simp only [if_true]
        rw [hV.free hs]
        rw [hV.free hs] at hmb hms
        have f1' : Fr (fun q => q = e.sb) W W1 := f1.mono (fun q _ hh => by
          rcases hh with hh | hh
          · exact hh
          · rw [hs] at hh
            cases hh)
        exact muAt (f1'.blk hmb (hmb.ne h.sch.blk (by decide))) hms
    exact hmu1.fr hf' (fun mb he hh => by
      unfold ptr at he
      injection he with he
      injection he with he
      injection he with he
      rw [he] at hmb
      exact (b.sn.ne hmb (by decide)) hh.symm))
  refine hgo.mono ?_
  rintro x w' ⟨rfl, W2, f', m', ⟨hfm, hsn2, hmu2⟩, hft, hfW, hsch⟩
  rw [hfm] at hsch
  have hS : ∀ q, (q = e.sb ∨ onA e sw = .pointer (some ⟨q, 0, none⟩) ∨ q = e.sn i ∨ q = e.tb) → q = e.sb ∨ q = e.tb ∨ q = e.cc ∨ q = e.mm ∨ q = e.sn i ∨ q = e.lf i := by
    rintro q (hh | hh | hh | hh)
    · exact .inl hh
    · unfold onA ptr at hh
      split at hh
      · cases hh
      · injection hh with hh
        injection hh with hh
        injection hh with hh
        exact .inr (.inr (.inr (.inl hh.symm)))
    · exact .inr (.inr (.inr (.inr (.inl hh))))
    · exact .inr (.inl hh)
  have hfr : Fr (fun q => q = e.sb ∨ onA e sw = .pointer (some ⟨q, 0, none⟩) ∨ q = e.sn i ∨ q = e.tb) W w' := (hfW.mono (fun q _ hh => by
    rcases hh with hh | hh | hh
    · exact .inl hh
    · exact .inr (.inl hh)
    · exact .inr (.inr (.inl hh)))).trans hft (fun q _ hh => .inr (.inr (.inr hh)))
  have hcel : CelI w' e.cc (v : Int) (v : Int) := hfr.blk h.cel (by
    rintro (hh | hh | hh | hh)
    · exact Blk.ne h.cel h.sch.blk (by decide) hh
    · unfold onA ptr at hh
      split at hh
      · cases hh
      · injection hh with hh
        injection hh with hh
        injection hh with hh
        exact (Blk.ne h.cel hmb (by decide)) hh.symm
    · exact Blk.ne h.cel b.sn (by decide) hh
    · exact Blk.ne h.cel h.sch.tsk (by decide) hh)
  have hmu : MuV w' (ptr e.mm) (hI (if sw then held else some i)) := hmu2.fr hft (fun mb he hh => by
    unfold ptr at he
    injection he with he
    injection he with he
    injection he with he
    rw [he] at hmb
    exact (hmb.ne h.sch.tsk (by decide)) hh)
  have htv : tvA e sw i (loadA v t) = (setF e i, .pointer none) := rfl
  rw [← htv] at hsch
  have hlf : Blk w' (e.lf i) [.int .i64 ((loadA v t).left : Int)] 3 := hfr.blk b.lf (by
    rintro (hh | hh | hh | hh)
    · exact b.lf.ne h.sch.blk (by decide) hh
    · exact nsb b.lf (by decide) (by decide) (.inr hh)
    · exact h.d1 i i hil hil hh.symm
    · exact b.lf.ne h.sch.tsk (by decide) hh)
  have hA := h.put (t' := loadA v t) hi hfr hS hsch hcel hmu (hft.blk hsn2 hsntb) hlf
  refine ⟨rfl, hfr.mono (fun q _ hq => ?_), _, _, _, _, _, hA, hV.load hi h0 hr, Nat.le_of_eq (tot_load hi h0), by rw [List.length_set]⟩
  rcases hS q hq with hh | hh | hh | hh | hh | hh
  · exact .inl hh
  · exact .inr (.inl hh)
  · exact .inr (.inr (.inl hh))
  · exact .inr (.inr (.inr (.inl hh)))
  · exact .inr (.inr (.inr (.inr ⟨i, hil, .inl hh⟩)))
  · exact .inr (.inr (.inr (.inr ⟨i, hil, .inr hh⟩)))
theorem tvA_done (e : AE) (sw : Bool) (i : Nat) (t : AT) : tvA e sw i (doneA t) = (if decide (t.left = 1) then .nilFunc else loadF e i, if decide (t.left = 1) then .pointer none else onA e sw) := by
  unfold tvA doneA
  simp only
  by_cases hl : t.left = 1
  · simp [hl]
  · simp [hl]
theorem astep_done (h : AAt W e sw st ts v held T) (hV : AInv sw want ts v held) (hw : want ≤ 1000) {i : Nat} {t : AT} (hi : ts[i]? = some t) (h1 : t.ph = 1) (hs : t.seen = v) :
    Calls Try.prog 33 #[.pointer (some ⟨e.sb, 0, none⟩), .int .i64 (i : Int)] W fun x w' => x = .returned (.int .i64 0) ∧ Fr (AS e ts.length) W w' ∧ Went w' e sw want ts v := by
  have hil := (List.getElem?_eq_some_iff.1 hi).1
  have hT := h.tk i t hi
  unfold tvA at hT
  rw [if_neg (by omega), if_pos h1] at hT
  have b := h.bx i t hi
  obtain ⟨xs, hmb, hms⟩ := h.muB
  obtain ⟨hl, hVd⟩ := hV.done hi h1 hs
  have hle := hV.le
  have hsum := hV.sum
  have hleft : t.left ≤ want := by
    have := sum_set (·.left) ts i t ⟨0, 0, 0⟩ hi
    simp only at this
    omega
  have hL : wrap64 ((t.left : Int) - 1) = ((t.left - 1 : Nat) : Int) := by rw [IntWalk.wrap64_in _ (by omega)]; omega
  have hb : ((((t.left - 1 : Nat) : Int)) == 0) = decide (t.left = 1) := by
    by_cases hl1 : t.left = 1
    · rw [hl1]; rfl
    · rw [decide_eq_false hl1]
      exact beq_eq_false_iff_ne.2 (by omega)
  have nsb : ∀ {q : Nat} {cs : List Value} {t : TypeId}, Blk W q cs t → t ≠ 78 → ¬ (q = e.sb ∨ Value.pointer none = .pointer (some ⟨q, 0, none⟩)) := by
    rintro q cs t hq h1 (hh | hh)
    · exact hq.ne h.sch.blk h1 hh
    · cases hh
  have hS0 : ¬ (e.sb = e.cc ∨ e.sb = e.mm ∨ e.sb = e.lf i) := by
    rintro (hh | hh | hh)
    · exact Blk.ne h.cel h.sch.blk (by decide) hh.symm
    · exact h.sch.blk.ne hmb (by decide) hh
    · exact h.sch.blk.ne b.lf (by decide) hh
  have hS1 : ¬ (e.tb = e.cc ∨ e.tb = e.mm ∨ e.tb = e.lf i) := by
    rintro (hh | hh | hh)
    · exact Blk.ne h.cel h.sch.tsk (by decide) hh.symm
    · exact h.sch.tsk.ne hmb (by decide) hh
    · exact h.sch.tsk.ne b.lf (by decide) hh
  have hgo := step_go (S' := fun q => q = e.cc ∨ q = e.mm ∨ q = e.lf i) (Q := fun W2 f' m' => (f', m') = tvA e sw i (doneA t) ∧ CelI W2 e.cc ((v + 1 : Nat) : Int) ((v + 1 : Nat) : Int) ∧ Blk W2 (e.lf i) [.int .i64 ((t.left - 1 : Nat) : Int)] 3 ∧ MuV W2 (ptr e.mm) (hI (if sw then held else none))) h.sch hT (muNone W) hS0 hS1 (fun q hq hh => by
      have l1 := Blk.lt h.cel
      have l2 := hmb.lt
      have l3 := b.lf.lt
      rcases hh with hh | hh | hh <;> omega) (enters Try.func20 (by kernel_rfl) rfl) (fun W1 f1 hs1 hm1 => by
    have f1' : Fr (fun q => q = e.sb) W W1 := f1.mono (fun q _ hh => by
      rcases hh with hh | hh
      · exact hh
      · cases hh)
    have k1 := f1'.blk h.wv (h.wv.ne h.sch.blk (by decide))
    have k2 := f1'.blk h.cv (h.cv.ne h.sch.blk (by decide))
    have k3 : CelI W1 e.cc (v : Int) (v : Int) := f1'.blk h.cel (Blk.ne h.cel h.sch.blk (by decide))
    have k4 := f1'.blk b.sn (b.sn.ne h.sch.blk (by decide))
    have k5 := f1'.blk b.lf (b.lf.ne h.sch.blk (by decide))
    have k6 := f1'.blk b.ld (b.ld.ne h.sch.blk (by decide))
    have k7 := f1'.blk h.mv (h.mv.ne h.sch.blk (by decide))
    have k8 := f1'.blk hmb (hmb.ne h.sch.blk (by decide))
    rw [hs] at k4
    rw [tvA_done]
    cases hsw : sw
    · obtain ⟨hh, _⟩ := hV.lock hsw i t hi h1
      rw [hsw] at k1
      rw [hh] at k8 hms
      have hx := hms _ rfl
      rw [hx] at k8
      refine (set20_lock (g := .func 18) (a := #[]) (b := #[ptr e.cb, ptr (e.sn i), ptr (e.se i)]) (mx := e.mx) (se := e.se i) k1 k2 k3 k4 k5 k6 k7 (slot := i) (by have := hV.few; omega) k8 hL hb).mono ?_
      rintro x w' ⟨rfl, c1, c2, c3, hf⟩
      rw [w64 (by omega)] at c1
      refine ⟨_, _, rfl, ?_, ?_, hf, rfl, c1, c2, ?_⟩
      · split
        · exact .inl rfl
        · exact .inr ⟨_, _, _, rfl⟩
      · split
        · exact ⟨none, rfl⟩
        · exact ⟨_, rfl⟩
      · exact muAt (o := none) c3 (fun y hy => by cases hy)
    · rw [hsw] at k1
      have hh := hV.free hsw
      rw [hh] at k8 hms
      refine (set20_yes (g := .func 18) (a := #[]) (b := #[ptr e.cb, ptr (e.sn i), ptr (e.se i)]) (mx := e.mx) (se := e.se i) k1 k2 k3 k4 k5 k6 (i : Int) hL hb).mono ?_
      rintro x w' ⟨rfl, c1, c2, hf⟩
      rw [w64 (by omega)] at c1
      refine ⟨_, _, rfl, ?_, ⟨none, rfl⟩, hf.mono (fun q _ hq => hq.imp id .inr), ?_, c1, c2, ?_⟩
      · split
        · exact .inl rfl
        · exact .inr ⟨_, _, _, rfl⟩
      · congr 1
        split <;> rfl
      · simp only [if_true]
        rw [hh]
        exact muAt (hf.blk k8 (by
          rintro (hq | hq)
          · exact (Blk.ne h.cel hmb (by decide)) hq.symm
          · exact (b.lf.ne hmb (by decide)) hq.symm)) hms)
  refine hgo.mono ?_
  rintro x w' ⟨rfl, W2, f', m', ⟨hfm, hc2, hl2, hmu2⟩, hft, hfW, hsch⟩
  rw [hfm] at hsch
  have hfr : Fr (fun q => q = e.sb ∨ q = e.tb ∨ q = e.cc ∨ q = e.mm ∨ q = e.lf i) W w' := (hfW.mono (fun q _ hh => by
    rcases hh with hh | hh | hh | hh | hh
    · exact .inl hh
    · cases hh
    · exact .inr (.inr (.inl hh))
    · exact .inr (.inr (.inr (.inl hh)))
    · exact .inr (.inr (.inr (.inr hh))))).trans hft (fun q _ hh => .inr (.inl hh))
  have hsn : Blk w' (e.sn i) [.int .i64 ((doneA t).seen : Int)] 3 := hfr.blk b.sn (by
    rintro (hh | hh | hh | hh | hh)
    · exact b.sn.ne h.sch.blk (by decide) hh
    · exact b.sn.ne h.sch.tsk (by decide) hh
    · exact Ne.symm (Blk.ne h.cel b.sn (by decide)) hh
    · exact b.sn.ne hmb (by decide) hh
    · exact h.d1 i i hil hil hh)
  have hmu : MuV w' (ptr e.mm) (hI (if sw then held else none)) := hmu2.fr hft (fun mb he hh => by
    unfold ptr at he
    injection he with he
    injection he with he
    injection he with he
    rw [he] at hmb
    exact (hmb.ne h.sch.tsk (by decide)) hh)
  have hcc : CelI w' e.cc ((v + 1 : Nat) : Int) ((v + 1 : Nat) : Int) := hft.blk hc2 (Blk.ne h.cel h.sch.tsk (by decide))
  have hA := h.put (t' := doneA t) hi hfr (fun q hh => by
    rcases hh with hh | hh | hh | hh | hh
    · exact .inl hh
    · exact .inr (.inl hh)
    · exact .inr (.inr (.inl hh))
    · exact .inr (.inr (.inr (.inl hh)))
    · exact .inr (.inr (.inr (.inr (.inr hh))))) hsch hcc hmu hsn (hft.blk hl2 (b.lf.ne h.sch.tsk (by decide)))
  refine ⟨rfl, hfr.mono (fun q _ hh => ?_), _, _, _, _, _, hA, hVd, tot_done hi h1 hs hl hV.few, by rw [List.length_set]⟩
  rcases hh with hh | hh | hh | hh | hh
  · exact .inl hh
  · exact .inr (.inl hh)
  · exact .inr (.inr (.inl hh))
  · exact .inr (.inr (.inr (.inl hh)))
  · exact .inr (.inr (.inr (.inr ⟨i, hil, .inr hh⟩)))
theorem astep_back (h : AAt W e sw st ts v held T) (hV : AInv sw want ts v held) (hw : want ≤ 1000) {i : Nat} {t : AT} (hi : ts[i]? = some t) (h1 : t.ph = 1) (hs : t.seen ≠ v) :
    Calls Try.prog 33 #[.pointer (some ⟨e.sb, 0, none⟩), .int .i64 (i : Int)] W fun x w' => x = .returned (.int .i64 0) ∧ Fr (AS e ts.length) W w' ∧ Went w' e sw want ts v := by
  have hsw : sw = true := by
    cases hsw : sw
    · exact absurd (hV.lock hsw i t hi h1).2 hs
    · rfl
  have hil := (List.getElem?_eq_some_iff.1 hi).1
  have hT := h.tk i t hi
  unfold tvA at hT
  rw [if_neg (by omega), if_pos h1] at hT
  have b := h.bx i t hi
  obtain ⟨xs, hmb, hms⟩ := h.muB
  have hl0 : t.left ≠ 0 := fun e0 => by have := (hV.ok i t hi).1.2 e0; omega
  have hgo := step_go (S' := fun _ => False) (Q := fun W2 f' m' => (f', m') = tvA e sw i (backA t)) h.sch hT (muNone W) id id (fun _ _ => id) (enters Try.func20 (by kernel_rfl) rfl) (fun W1 f1 hs1 hm1 => by
    have f1' : Fr (fun q => q = e.sb) W W1 := f1.mono (fun q _ hh => by
      rcases hh with hh | hh
      · exact hh
      · cases hh)
    have k1 := f1'.blk h.wv (h.wv.ne h.sch.blk (by decide))
    have k2 := f1'.blk h.cv (h.cv.ne h.sch.blk (by decide))
    have k3 : CelI W1 e.cc (v : Int) (v : Int) := f1'.blk h.cel (Blk.ne h.cel h.sch.blk (by decide))
    have k4 := f1'.blk b.sn (b.sn.ne h.sch.blk (by decide))
    have k5 := f1'.blk b.lf (b.lf.ne h.sch.blk (by decide))
    have k6 := f1'.blk b.ld (b.ld.ne h.sch.blk (by decide))
    rw [hsw] at k1
    refine (set20_no (g := .func 18) (a := #[]) (b := #[ptr e.cb, ptr (e.sn i), ptr (e.se i)]) (mx := e.mx) (se := e.se i) k1 k2 k3 k4 (by omega) k5 k6 (i : Int) (beq_eq_false_iff_ne.2 (by omega))).mono ?_
    rintro x w' ⟨rfl, hf⟩
    refine ⟨_, _, rfl, .inr ⟨_, _, _, rfl⟩, ⟨none, rfl⟩, hf, ?_⟩
    unfold tvA backA onA
    simp only [if_true, hsw]
    rfl)
  refine hgo.mono ?_
  rintro x w' ⟨rfl, W2, f', m', hfm, hft, hfW, hsch⟩
  rw [hfm] at hsch
  have hfr : Fr (fun q => q = e.sb ∨ q = e.tb) W w' := (hfW.mono (fun q _ hh => by
    rcases hh with hh | hh | hh
    · exact .inl hh
    · cases hh
    · exact hh.elim)).trans hft (fun q _ hh => .inr hh)
  have far : ∀ {q : Nat} {cs : List Value} {t : TypeId}, Blk W q cs t → t ≠ 78 → t ≠ 53 → ¬ (q = e.sb ∨ q = e.tb) := by
    rintro q cs t hq h1 h2 (hh | hh)
    · exact hq.ne h.sch.blk h1 hh
    · exact hq.ne h.sch.tsk h2 hh
  have hcc : CelI w' e.cc (v : Int) (v : Int) := hfr.blk h.cel (far h.cel (by decide) (by decide))
  have hA := h.put (t' := backA t) (held' := held) (v' := v) hi hfr (fun q hh => by
    rcases hh with hh | hh
    · exact .inl hh
    · exact .inr (.inl hh)) hsch hcc (muAt (hfr.blk hmb (far hmb (by decide) (by decide))) hms) (hfr.blk b.sn (far b.sn (by decide) (by decide))) (hfr.blk b.lf (far b.lf (by decide) (by decide)))
  refine ⟨rfl, hfr.mono (fun q _ hh => ?_), _, _, _, _, _, hA, hV.back hi h1 hsw, Nat.le_of_eq (tot_back hi h1 hs), by rw [List.length_set]⟩
  rcases hh with hh | hh
  · exact .inl hh
  · exact .inr (.inl hh)
theorem astep (h : AAt W e sw st ts v held T) (hV : AInv sw want ts v held) (hw : want ≤ 1000) {i : Nat} (hr : rdyB sw ts held i = true) :
    Calls Try.prog 33 #[.pointer (some ⟨e.sb, 0, none⟩), .int .i64 (i : Int)] W fun x w' => x = .returned (.int .i64 0) ∧ Fr (AS e ts.length) W w' ∧ Went w' e sw want ts v := by
  rcases Option.eq_none_or_eq_some (ts[i]?) with hi | ⟨t, hi⟩
  · unfold rdyB at hr
    rw [hi] at hr
    cases hr
  · by_cases h0 : t.ph = 0
    · exact astep_load h hV hi h0 hr
    · have h1 : t.ph = 1 := by
        rw [rdyB_some hi] at hr
        simp [h0] at hr
        exact hr
      by_cases hs : t.seen = v
      · exact astep_done h hV hw hi h1 hs
      · exact astep_back h hV hw hi h1 hs
/-! ### One is picked -/
def mAt (sw : Bool) (ts : List AT) (held : Option Nat) (k : Nat) : Option Int := match ts[k]? with
  | some t => if t.ph = 0 then (if sw then none else hI held) else none
  | none => none
theorem mAt_0 {t : AT} {k : Nat} (ht : ts[k]? = some t) (h0 : t.ph = 0) : mAt sw ts held k = if sw then none else hI held := by
  unfold mAt
  rw [ht]
  simp only
  rw [if_pos h0]
theorem mAt_n {t : AT} {k : Nat} (ht : ts[k]? = some t) (h0 : t.ph ≠ 0) : mAt sw ts held k = none := by
  unfold mAt
  rw [ht]
  simp only
  rw [if_neg h0]
theorem tvA_0 {t : AT} (k : Nat) (h0 : t.ph = 0) : tvA e sw k t = (loadF e k, onA e sw) := by
  unfold tvA
  rw [if_pos h0]
theorem tvA_1 {t : AT} (k : Nat) (h1 : t.ph = 1) : tvA e sw k t = (setF e k, .pointer none) := by
  unfold tvA
  rw [if_neg (by omega), if_pos h1]
theorem tvA_2 {t : AT} (k : Nat) (h0 : t.ph ≠ 0) (h1 : t.ph ≠ 1) : tvA e sw k t = (.nilFunc, .pointer none) := by
  unfold tvA
  rw [if_neg h0, if_neg h1]
theorem AAt.mus (h : AAt W e sw st ts v held T) : ∀ k p, T[k]? = some p → isF p.1 = true → MuV W p.2 (mAt sw ts held k) := by
  intro k p hp hF
  have hkl : k < ts.length := by rw [← h.len]; exact (List.getElem?_eq_some_iff.1 hp).1
  have ht : ts[k]? = some ts[k] := List.getElem?_eq_getElem hkl
  generalize ts[k] = t at ht
  have hk := h.tk k t ht
  rw [hp] at hk
  injection hk with hk
  subst hk
  by_cases h0 : t.ph = 0
  · rw [mAt_0 ht h0, tvA_0 k h0]
    cases sw
    · exact h.mu
    · exact muNone W
  · rw [mAt_n ht h0]
    by_cases h1 : t.ph = 1
    · rw [tvA_1 k h1]
      exact muNone W
    · rw [tvA_2 k h0 h1]
      exact muNone W
theorem AAt.rdyE (h : AAt W e sw st ts v held T) (k : Nat) : rdy T (mAt sw ts held) k = rdyB sw ts held k := by
  by_cases hkl : k < ts.length
  · have ht : ts[k]? = some ts[k] := List.getElem?_eq_getElem hkl
    generalize ts[k] = t at ht
    rw [rdy_at (h.tk k t ht), rdyB_some ht]
    by_cases h0 : t.ph = 0
    · rw [mAt_0 ht h0, tvA_0 k h0, h0]
      cases sw
      · cases held with
        | none => rfl
        | some j =>
          have hj : ¬ (j : Int) < 0 := by omega
          simp [hI, isF, loadF, hj]
      · rfl
    · rw [mAt_n ht h0]
      by_cases h1 : t.ph = 1
      · rw [tvA_1 k h1, h1]
        rfl
      · rw [tvA_2 k h0 h1]
        simp [isF, h0, h1]
  · unfold rdy rdyB
    rw [List.getD_eq_getElem?_getD, List.getElem?_eq_none (by rw [h.len]; omega), List.getElem?_eq_none (by omega)]
    rfl
theorem apick (h : AAt W e sw st ts v held T) (hV : AInv sw want ts v held) (hw : want ≤ 1000) (n : Int) :
    Calls Try.prog 12 #[.pointer (some ⟨e.sb, 0, none⟩), .int .i64 n] W fun x w' =>
      ((∀ i, i < ts.length → rdyB sw ts held i = false) ∧ x = .returned (.tuple #[.int .i64 0, .bool false]) ∧ Fr (fun _ => False) W w') ∨
      ∃ k : Nat, x = .returned (.tuple #[.int .i64 (k : Int), .bool true]) ∧ Fr (AS e ts.length) W w' ∧ Went w' e sw want ts v := by
  have hrs : ∀ k, k ∈ rdys T (mAt sw ts held) T.length ↔ (k < ts.length ∧ rdyB sw ts held k = true) := fun k => by
    unfold rdys
    rw [List.mem_filter, List.mem_range, h.rdyE, h.len]
  have hp := pick_go h.sch h.mus n (Q := fun i W0 w' => Fr (AS e ts.length) W0 w' ∧ Went w' e sw want ts v) (fun k hk W0 hf => by
    have hm := (hrs k).1 (turn_mem hk)
    refine (astep (h.new hf) hV hw hm.2).mono ?_
    rintro x w' ⟨rfl, hf', hW⟩
    exact ⟨rfl, hf'.mono (fun q _ hq => h.lt q hq), hf', hW⟩)
  refine hp.mono ?_
  rintro x w' (⟨h0, rfl, hf⟩ | ⟨k, W0, hk, rfl, hf, hf', hW⟩)
  · refine .inl ⟨fun i hil => ?_, rfl, hf⟩
    cases hr : rdyB sw ts held i
    · rfl
    · have := (hrs i).2 ⟨hil, hr⟩
      rw [h0] at this
      cases this
  · exact .inr ⟨k, rfl, (hf.mono (fun _ _ h => h.elim)).trans hf' (fun _ _ h => h), hW⟩
end
end Go.Proofs.Ytlljfopacdnpbaa
